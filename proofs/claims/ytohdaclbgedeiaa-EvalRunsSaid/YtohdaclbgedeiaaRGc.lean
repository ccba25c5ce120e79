/-
  A LOAD MAY BE TAKEN FIRST ALTHOUGH THE REGION's LAST OPERATIONS STORE INTO ITS CELL: S need hold only while operation n (the first store) is open.
-/
import Derived.StillTail
import Derived.Deep.RegionHeld
import Derived.Test.YtohdaclbgedeiaaRGb
import Derived.Deep.RegionHeld3
import Derived.Test.YtohdaclbgedeiaaEInts
import Derived.Test.YtohdaclbgedeiaaESmall
import Derived.Test.YtohdaclbgedeiaaEShow
import Derived.Test.YtohdaclbgedeiaaERun
import Derived.Test.YtohdaclbgedeiaaHKeep
import Derived.BigQuiet
namespace Go.Proofs.Ytohdaclbgedeiaa
open Go

section
variable {P : Program} {ops : Array Oper} {Q : Exit → Act → World → Prop} {md : Region.Mode} {S : World → Prop} {n : Nat}

/-- Whatever order is picked from here on, and S holds behind every operation as long as number n is open. -/
def wpAnyT (P : Program) (md : Region.Mode) (ops : Array Oper) (Q : Exit → Act → World → Prop) (S : World → Prop) (n : Nat) : Nat → Array Bool → Act → World → Prop
  | 0, listed, a, w => Region.ready md ops listed = [] ∧ Q .normal a w
  | fuel + 1, listed, a, w =>
    (Region.ready md ops listed = [] → Q .normal a w) ∧
    ∀ i ∈ Region.ready md ops listed, wpOp P ops Q i (fun a' w' => ((listed.setIfInBounds i true).getD n true = false → S w') ∧ wpAnyT P md ops Q S n fuel (listed.setIfInBounds i true) a' w') a w
theorem wpAny_of_T : ∀ (fuel : Nat) (listed : Array Bool) (a : Act) (w : World), wpAnyT P md ops Q S n fuel listed a w → wpAny P md ops Q fuel listed a w
  | 0, _, _, _, h => h
  | fuel + 1, _, _, _, h => ⟨h.1, fun i hi => wpOp_mono (fun a' w' h' => wpAny_of_T fuel _ a' w' h'.2) (h.2 i hi)⟩
theorem wpAnyT_first {i : Nat} {oi : Oper} {v : Value} (hi : ops[i]? = some oi) (hin : i < n) (hsel : ∀ (j : Nat) (o : Oper) cs b, ops[j]? = some o → o.op ≠ .select cs b)
    (hs : Region.sinkB md ops n = true) (hc : Region.chainB md ops n = true) (hn : n < ops.size)
    (hQ : ∀ c a w, Q (.panic c) (a.put oi.dst v) w → Q (.panic c) a w) :
    ∀ (fuel : Nat) (listed : Array Bool) (a : Act) (w : World), HeadInv md ops n listed →
      (∀ j oj, ops[j]? = some oj → j ≠ i → listed.getD j true = false → (∀ e ∈ oj.after, Region.binds md e = true → e.on ≠ i) → oi.apart ops oj = true) →
      i ∈ Region.ready md ops listed → YieldsIf P ops S oi v a → S w →
      wpAnyT P md ops Q S n fuel (listed.setIfInBounds i true) (a.put oi.dst v) w → wpAnyT P md ops Q S n (fuel + 1) listed a w := by
  intro fuel
  induction fuel with
  | zero =>
    intro listed a w _ _ hr hy hS H
    refine ⟨fun h => (by rw [h] at hr; cases hr), fun j hj => ?_⟩
    by_cases hji : j = i
    · subst hji; exact hy.wpOp hi hS ⟨fun _ => hS, H⟩
    · have := ready_mono hj hji
      rw [H.1] at this
      cases this
  | succ fuel ih =>
    intro listed a w inv hfree hr hy hS H
    refine ⟨fun h => (by rw [h] at hr; cases hr), fun j hj => ?_⟩
    by_cases hji : j = i
    · subst hji; exact hy.wpOp hi hS ⟨fun _ => hS, H⟩
    · have hiun := (mem_ready.1 hr).1
      have hjn : j < n := by
        rcases Nat.lt_or_ge j n with h | h
        · exact h
        · exact absurd hj (tail_waits hs hc hn inv (n - i) i rfl hin hiun j h)
      have h1 := H.2 j (ready_mono hj hji)
      obtain ⟨hjun, oj, hoj, hall⟩ := mem_ready.1 hj
      have hnot : ∀ e ∈ oj.after, Region.binds md e = true → e.on ≠ i := fun e he hb heq => by
        have h1 := hall e he hb
        rw [heq, getD_both hiun] at h1
        cases h1
      have h2 := wpOp_putIf hoj (hfree j oj hoj hji hjun hnot) (fun cs b => hsel i oi cs b hi) (fun cs b => hsel j oj cs b hoj) hQ hy h1
      have hfree' : ∀ k ok, ops[k]? = some ok → k ≠ i → (listed.setIfInBounds j true).getD k true = false →
          (∀ e ∈ ok.after, Region.binds md e = true → e.on ≠ i) → oi.apart ops ok = true := fun k ok hk hki hun hno => by
        refine hfree k ok hk hki ?_ hno
        by_cases hjk : j = k
        · subst hjk; exact hjun
        · rw [getD_set_ne true hjk] at hun; exact hun
      have hopen : ((listed.setIfInBounds i true).setIfInBounds j true).getD n true = false := by
        rw [getD_set_ne true (by omega), getD_set_ne true (by omega)]
        exact inv.tail n (Nat.le_refl _) hn
      refine wpOp_mono (fun a' w' h3 => ⟨fun _ => h3.2.1 hopen, ih (listed.setIfInBounds j true) a' w' (inv.set hj hjn) hfree' (ready_mono hr (Ne.symm hji)) h3.1 (h3.2.1 hopen) ?_⟩) h2
      rw [Array.setIfInBounds_comm _ _ hji]
      exact h3.2.2
/-- Is what is listed closed, and the tail open? (for 'decide') -/
def headB (md : Region.Mode) (ops : Array Oper) (n : Nat) (listed : Array Bool) : Bool :=
  decide (listed.size = ops.size) && (List.range ops.size).all (fun j => !listed.getD j false || ((ops[j]?).map (·.after.all fun e => !Region.binds md e || listed.getD e.on false)).getD true) && (List.range ops.size).all (fun t => decide (t < n) || !listed.getD t true)
theorem headB_inv {listed : Array Bool} (h : headB md ops n listed = true) : HeadInv md ops n listed := by
  unfold headB at h
  simp only [Bool.and_eq_true, decide_eq_true_eq] at h
  obtain ⟨⟨h1, h2⟩, h3⟩ := h
  refine ⟨h1, fun j oj hoj hl e he hb => ?_, fun t ht hts => ?_⟩
  · have hj : j < ops.size := (Array.getElem?_eq_some_iff.1 hoj).1
    have := List.all_eq_true.1 h2 j (List.mem_range.2 hj)
    rw [hl, hoj] at this
    simp only [Bool.not_true, Bool.false_or, Option.map_some, Option.getD_some] at this
    have := Array.all_eq_true_iff_forall_mem.1 this e he
    rw [hb] at this
    simpa using this
  · have := List.all_eq_true.1 h3 t (List.mem_range.2 hts)
    simp only [Bool.or_eq_true, decide_eq_true_eq, Bool.not_eq_true'] at this
    exact this.resolve_left (by omega)
/-- Take number i first. -/
theorem wpAnyT_take {i : Nat} {oi : Oper} {v : Value} {fuel : Nat} {listed : Array Bool} {a : Act} {w : World} (hi : ops[i]? = some oi) (hin : i < n)
    (hB : (Region.noSelect ops && Region.sinkB md ops n && Region.chainB md ops n && decide (n < ops.size) && headB md ops n listed && Region.free md ops listed i && (Region.ready md ops listed).contains i) = true)
    (hQ : ∀ c a w, Q (.panic c) (a.put oi.dst v) w → Q (.panic c) a w) (hy : YieldsIf P ops S oi v a) (hS : S w)
    (h : wpAnyT P md ops Q S n fuel (listed.setIfInBounds i true) (a.put oi.dst v) w) : wpAnyT P md ops Q S n (fuel + 1) listed a w := by
  simp only [Bool.and_eq_true, decide_eq_true_eq] at hB
  obtain ⟨⟨⟨⟨⟨⟨h1, h2⟩, h3⟩, h4⟩, h5⟩, h6⟩, h7⟩ := hB
  exact wpAnyT_first hi hin (Region.noSelect_spec h1) h2 h3 h4 hQ fuel listed a w (headB_inv h5) (Region.free_spec hi h6) (by simpa using h7) hy hS h
/-- Each of these comes up next. -/
def AllT (P : Program) (md : Region.Mode) (ops : Array Oper) (Q : Exit → Act → World → Prop) (S : World → Prop) (n fuel : Nat) (listed : Array Bool) (a : Act) (w : World) (rs : List Nat) : Prop :=
  ∀ i ∈ rs, wpOp P ops Q i (fun a' w' => ((listed.setIfInBounds i true).getD n true = false → S w') ∧ wpAnyT P md ops Q S n fuel (listed.setIfInBounds i true) a' w') a w
theorem AllT.nil {fuel : Nat} {listed : Array Bool} {a : Act} {w : World} : AllT P md ops Q S n fuel listed a w [] := fun _ h => by cases h
theorem AllT.cons {fuel : Nat} {listed : Array Bool} {a : Act} {w : World} {i : Nat} {o : Oper} {rs : List Nat} (ho : ops[i]? = some o)
    (h : ∀ K' : Act → World → Prop, Shut (∀ a w, ((listed.setIfInBounds i true).getD n true = false → S w) → wpAnyT P md ops Q S n fuel (listed.setIfInBounds i true) a w → K' a w) → if Region.wanted o (yielded ops a.tmps) = true then Oper.wp P o a w K' Q else K' (a.put o.dst undef) w)
    (hs : AllT P md ops Q S n fuel listed a w rs) : AllT P md ops Q S n fuel listed a w (i :: rs) := fun j hj => by
  rcases List.mem_cons.1 hj with rfl | hj
  · exact wpOp_step ho (fun K' hK => h K' (fun a w hS hW => hK a w ⟨hS, hW⟩))
  · exact hs j hj
theorem wpAnyT_ready {rs : List Nat} {fuel : Nat} {listed : Array Bool} {a : Act} {w : World} (hr : Region.ready md ops listed = rs) (hne : rs ≠ [])
    (h : AllT P md ops Q S n fuel listed a w rs) : wpAnyT P md ops Q S n (fuel + 1) listed a w := ⟨fun h0 => absurd (hr ▸ h0) hne, hr ▸ h⟩
theorem wpAnyT_done {listed : Array Bool} {a : Act} {w : World} (hr : Region.ready md ops listed = []) (h : Q .normal a w) : ∀ fuel, wpAnyT P md ops Q S n fuel listed a w
  | 0 => ⟨hr, h⟩
  | _ + 1 => ⟨fun _ => h, by rw [hr]; simp⟩
theorem wp_region_T {id : Nat} {a : Act} {w : World} (hm : P.follows .mixedOrders = true)
    (h : wpAnyT P .any ops Q S n ops.size (Array.replicate ops.size false) a w.drew) : (Code.region id ops true).wp P Q a w := wp_region_any hm (wpAny_of_T _ _ _ _ h)
end
end Go.Proofs.Ytohdaclbgedeiaa
/-
  RegTail, FOR A REGION WHERE NOT ALL WAIT FOR THE FIRST STORE: a load may be taken first if a path of waits leads from it to number n.
-/
namespace Go.Proofs.Ytohdaclbgedeiaa
open Go

section
variable {P : Program} {ops : Array Oper} {Q : Exit → Act → World → Prop} {md : Region.Mode} {S : World → Prop} {n : Nat}
/-- What is listed is closed. -/
def ClosedL (md : Region.Mode) (ops : Array Oper) (listed : Array Bool) : Prop := listed.size = ops.size ∧ ∀ j oj, ops[j]? = some oj → listed.getD j false = true → ∀ e ∈ oj.after, Region.binds md e = true → listed.getD e.on false = true
theorem ClosedL.set {i : Nat} {listed : Array Bool} (inv : ClosedL md ops listed) (hi : i ∈ Region.ready md ops listed) : ClosedL md ops (listed.setIfInBounds i true) := by
  obtain ⟨_, oi, hoi, hall⟩ := mem_ready.1 hi
  refine ⟨by simp [inv.1], fun j oj hj hl e he hb => ?_⟩
  by_cases hij : i = j
  · subst hij
    have : oj = oi := Option.some.inj (hj.symm.trans hoi)
    subst this
    exact getD_set_true (hall e he hb)
  · rw [getD_set_ne false hij] at hl
    exact getD_set_true (inv.2 j oj hj hl e he hb)
/-- Each of these waits for the one ahead of it. -/
def chained (md : Region.Mode) (ops : Array Oper) : Nat → List Nat → Bool
  | _, [] => true
  | i, j :: l => Region.waitsFor md ops j i && chained md ops j l
theorem path_open {listed : Array Bool} (inv : ClosedL md ops listed) : ∀ (l : List Nat) (i : Nat), listed.getD i false = false → chained md ops i l = true → l.getLast? = some n → listed.getD n true = false ∧ n ∉ Region.ready md ops listed
  | [], i, _, _, hl => by cases hl
  | j :: l, i, hi, hc, hl => by
    rw [chained, Bool.and_eq_true] at hc
    obtain ⟨oj, hoj, e, he, hb, hon⟩ := Region.waitsFor_spec hc.1
    have hjs : j < listed.size := by rw [inv.1]; exact (Array.getElem?_eq_some_iff.1 hoj).1
    have hjo : listed.getD j false = false := by
      cases h : listed.getD j false with
      | false => rfl
      | true => have := inv.2 j oj hoj h e he hb; rw [hon, hi] at this; cases this
    cases l with
    | nil =>
      obtain rfl : j = n := by simpa using hl
      refine ⟨getD_in hjs hjo, fun hr => ?_⟩
      obtain ⟨_, oj2, hoj2, hall⟩ := mem_ready.1 hr
      have : oj2 = oj := Option.some.inj (hoj2.symm.trans hoj)
      subst this
      have := hall e he hb
      rw [hon, hi] at this
      cases this
    | cons j2 l2 => exact path_open inv (j2 :: l2) j hjo hc.2 (by rw [List.getLast?_cons_cons] at hl; exact hl)
theorem wpAnyT_firstP {i : Nat} {oi : Oper} {v : Value} {l : List Nat} (hi : ops[i]? = some oi) (hin : i ≠ n) (hch : chained md ops i l = true) (hla : l.getLast? = some n) (hsel : ∀ (j : Nat) (o : Oper) cs b, ops[j]? = some o → o.op ≠ .select cs b)
    (hQ : ∀ c a w, Q (.panic c) (a.put oi.dst v) w → Q (.panic c) a w) :
    ∀ (fuel : Nat) (listed : Array Bool) (a : Act) (w : World), ClosedL md ops listed →
      (∀ j oj, ops[j]? = some oj → j ≠ i → listed.getD j true = false → (∀ e ∈ oj.after, Region.binds md e = true → e.on ≠ i) → oi.apart ops oj = true) →
      i ∈ Region.ready md ops listed → YieldsIf P ops S oi v a → S w →
      wpAnyT P md ops Q S n fuel (listed.setIfInBounds i true) (a.put oi.dst v) w → wpAnyT P md ops Q S n (fuel + 1) listed a w := by
  intro fuel
  induction fuel with
  | zero =>
    intro listed a w _ _ hr hy hS H
    refine ⟨fun h => (by rw [h] at hr; cases hr), fun j hj => ?_⟩
    by_cases hji : j = i
    · subst hji; exact hy.wpOp hi hS ⟨fun _ => hS, H⟩
    · have := ready_mono hj hji
      rw [H.1] at this
      cases this
  | succ fuel ih =>
    intro listed a w inv hfree hr hy hS H
    refine ⟨fun h => (by rw [h] at hr; cases hr), fun j hj => ?_⟩
    by_cases hji : j = i
    · subst hji; exact hy.wpOp hi hS ⟨fun _ => hS, H⟩
    · have hiun := (mem_ready.1 hr).1
      obtain ⟨hno, hnr⟩ := path_open inv l i (getD_both hiun) hch hla
      have hjn : j ≠ n := fun e => hnr (e ▸ hj)
      have h1 := H.2 j (ready_mono hj hji)
      obtain ⟨hjun, oj, hoj, hall⟩ := mem_ready.1 hj
      have hnot : ∀ e ∈ oj.after, Region.binds md e = true → e.on ≠ i := fun e he hb heq => by
        have h1 := hall e he hb
        rw [heq, getD_both hiun] at h1
        cases h1
      have h2 := wpOp_putIf hoj (hfree j oj hoj hji hjun hnot) (fun cs b => hsel i oi cs b hi) (fun cs b => hsel j oj cs b hoj) hQ hy h1
      have hfree' : ∀ k ok, ops[k]? = some ok → k ≠ i → (listed.setIfInBounds j true).getD k true = false →
          (∀ e ∈ ok.after, Region.binds md e = true → e.on ≠ i) → oi.apart ops ok = true := fun k ok hk hki hun hno => by
        refine hfree k ok hk hki ?_ hno
        by_cases hjk : j = k
        · subst hjk; exact hjun
        · rw [getD_set_ne true hjk] at hun; exact hun
      have hopen : ((listed.setIfInBounds i true).setIfInBounds j true).getD n true = false := by
        rw [getD_set_ne true hjn, getD_set_ne true hin]
        exact hno
      refine wpOp_mono (fun a' w' h3 => ⟨fun _ => h3.2.1 hopen, ih (listed.setIfInBounds j true) a' w' (inv.set hj) hfree' (ready_mono hr (Ne.symm hji)) h3.1 (h3.2.1 hopen) ?_⟩) h2
      rw [Array.setIfInBounds_comm _ _ hji]
      exact h3.2.2
def closedB (md : Region.Mode) (ops : Array Oper) (listed : Array Bool) : Bool :=
  decide (listed.size = ops.size) && (List.range ops.size).all (fun j => !listed.getD j false || ((ops[j]?).map (·.after.all fun e => !Region.binds md e || listed.getD e.on false)).getD true)
theorem closedB_inv {listed : Array Bool} (h : closedB md ops listed = true) : ClosedL md ops listed := by
  unfold closedB at h
  simp only [Bool.and_eq_true, decide_eq_true_eq] at h
  obtain ⟨h1, h2⟩ := h
  refine ⟨h1, fun j oj hoj hl e he hb => ?_⟩
  have hj : j < ops.size := (Array.getElem?_eq_some_iff.1 hoj).1
  have := List.all_eq_true.1 h2 j (List.mem_range.2 hj)
  rw [hl, hoj] at this
  simp only [Bool.not_true, Bool.false_or, Option.map_some, Option.getD_some] at this
  have := Array.all_eq_true_iff_forall_mem.1 this e he
  rw [hb] at this
  simpa using this
/-- Take number i first: l is a path of waits from it to n. -/
theorem wpAnyT_takeP {i : Nat} {oi : Oper} {v : Value} {fuel : Nat} {listed : Array Bool} {a : Act} {w : World} (l : List Nat) (hi : ops[i]? = some oi) (hin : i ≠ n)
    (hB : (Region.noSelect ops && chained md ops i l && decide (l.getLast? = some n) && closedB md ops listed && Region.free md ops listed i && (Region.ready md ops listed).contains i) = true)
    (hQ : ∀ c a w, Q (.panic c) (a.put oi.dst v) w → Q (.panic c) a w) (hy : YieldsIf P ops S oi v a) (hS : S w)
    (h : wpAnyT P md ops Q S n fuel (listed.setIfInBounds i true) (a.put oi.dst v) w) : wpAnyT P md ops Q S n (fuel + 1) listed a w := by
  simp only [Bool.and_eq_true, decide_eq_true_eq] at hB
  obtain ⟨⟨⟨⟨⟨h1, h2⟩, h3⟩, h5⟩, h6⟩, h7⟩ := hB
  exact wpAnyT_firstP hi hin h2 h3 (Region.noSelect_spec h1) hQ fuel listed a w (closedB_inv h5) (Region.free_spec hi h6) (by simpa using h7) hy hS h
/-- What yields in whatever world may be taken first whoever waits for it. -/
theorem wpAnyT_firstW {i : Nat} {oi : Oper} {v : Value} (hi : ops[i]? = some oi) (hin : i ≠ n) (hsel : ∀ (j : Nat) (o : Oper) cs b, ops[j]? = some o → o.op ≠ .select cs b)
    (hQ : ∀ c a w, Q (.panic c) (a.put oi.dst v) w → Q (.panic c) a w) :
    ∀ (fuel : Nat) (listed : Array Bool) (a : Act) (w : World),
      (∀ j oj, ops[j]? = some oj → j ≠ i → listed.getD j true = false → (∀ e ∈ oj.after, Region.binds md e = true → e.on ≠ i) → oi.apart ops oj = true) →
      i ∈ Region.ready md ops listed → YieldsIf P ops (fun _ => True) oi v a → (listed.getD n true = false → S w) →
      wpAnyT P md ops Q S n fuel (listed.setIfInBounds i true) (a.put oi.dst v) w → wpAnyT P md ops Q S n (fuel + 1) listed a w := by
  intro fuel
  induction fuel with
  | zero =>
    intro listed a w _ hr hy hS H
    refine ⟨fun h => (by rw [h] at hr; cases hr), fun j hj => ?_⟩
    by_cases hji : j = i
    · subst hji; exact hy.wpOp hi trivial ⟨fun h => hS (by rw [getD_set_ne true hin] at h; exact h), H⟩
    · have := ready_mono hj hji
      rw [H.1] at this
      cases this
  | succ fuel ih =>
    intro listed a w hfree hr hy hS H
    refine ⟨fun h => (by rw [h] at hr; cases hr), fun j hj => ?_⟩
    by_cases hji : j = i
    · subst hji; exact hy.wpOp hi trivial ⟨fun h => hS (by rw [getD_set_ne true hin] at h; exact h), H⟩
    · have hiun := (mem_ready.1 hr).1
      have h1 := H.2 j (ready_mono hj hji)
      obtain ⟨hjun, oj, hoj, hall⟩ := mem_ready.1 hj
      have hnot : ∀ e ∈ oj.after, Region.binds md e = true → e.on ≠ i := fun e he hb heq => by
        have h1 := hall e he hb
        rw [heq, getD_both hiun] at h1
        cases h1
      have h2 := wpOp_putIf hoj (hfree j oj hoj hji hjun hnot) (fun cs b => hsel i oi cs b hi) (fun cs b => hsel j oj cs b hoj) hQ hy h1
      have hfree' : ∀ k ok, ops[k]? = some ok → k ≠ i → (listed.setIfInBounds j true).getD k true = false →
          (∀ e ∈ ok.after, Region.binds md e = true → e.on ≠ i) → oi.apart ops ok = true := fun k ok hk hki hun hno => by
        refine hfree k ok hk hki ?_ hno
        by_cases hjk : j = k
        · subst hjk; exact hjun
        · rw [getD_set_ne true hjk] at hun; exact hun
      have hS' : ∀ w', (((listed.setIfInBounds i true).setIfInBounds j true).getD n true = false → S w') → (listed.setIfInBounds j true).getD n true = false → S w' := fun w' h h9 => h (by rw [Array.setIfInBounds_comm _ _ (Ne.symm hji), getD_set_ne true hin]; exact h9)
      refine wpOp_mono (fun a' w' h3 => ⟨hS' w' h3.2.1, ih (listed.setIfInBounds j true) a' w' hfree' (ready_mono hr (Ne.symm hji)) h3.1 (hS' w' h3.2.1) ?_⟩) h2
      rw [Array.setIfInBounds_comm _ _ hji]
      exact h3.2.2
theorem wpAnyT_takeW {i : Nat} {oi : Oper} {v : Value} {fuel : Nat} {listed : Array Bool} {a : Act} {w : World} (hi : ops[i]? = some oi) (hin : i ≠ n)
    (hB : (Region.noSelect ops && Region.free md ops listed i && (Region.ready md ops listed).contains i) = true)
    (hQ : ∀ c a w, Q (.panic c) (a.put oi.dst v) w → Q (.panic c) a w) (hy : YieldsIf P ops (fun _ => True) oi v a) (hS : listed.getD n true = false → S w)
    (h : wpAnyT P md ops Q S n fuel (listed.setIfInBounds i true) (a.put oi.dst v) w) : wpAnyT P md ops Q S n (fuel + 1) listed a w := by
  simp only [Bool.and_eq_true] at hB
  obtain ⟨⟨h1, h6⟩, h7⟩ := hB
  exact wpAnyT_firstW hi hin (Region.noSelect_spec h1) hQ fuel listed a w (Region.free_spec hi h6) (by simpa using h7) hy hS h
end
end Go.Proofs.Ytohdaclbgedeiaa
/-
  append OF ONE CELL IN A DRAWN REGION; THE WALK OF athanorref21's eval: A NUMBER IS WRITTEN.
-/
namespace Go.Proofs.Ytohdaclbgedeiaa
set_option linter.all false
open Go.ChangeShapes Go.WideShapes Go.ChangeAt Go.RowKit
open Ev (Co Va En Out evL ev evS R bnd)
theorem info_ptr21 : InfoIs Try.prog 55 (.pointer none) 1 8 := by unfold InfoIs; kernel_rfl
set_option maxRecDepth 100000 in
theorem run_appP (w : World) (ty : TypeId) (B : Nat) {v : Value} {n : Nat} {xs : List Value} (hown : w.ownsRow B 55 1 v n xs) {ad : Addr} {c : Nat} {u0 : Value} (hcell : w.cell? ad = some u0) (h1 : u0.oneCell' = true) (hlen : n + 1 ≤ 1000000) (hB : B ≤ w.heap.size) :
    ∃ v' w', (Builtin.append_ #[56, 56] ty #[v, .slice (some ad) 1 c]).run Try.prog w = .ok v' w' ∧ w'.ownsRow B 55 1 v' (n + 1) (xs ++ [u0]) ∧ w.grownBy w' v.ownBlock ∧
      (∀ g, v'.ownBlock = some g → v.ownBlock = some g ∨ w.heap.size ≤ g) := by
  obtain ⟨i, hi1, hz, hs1, hs2⟩ := InfoIs.parts info_ptr21
  have hcell' : ∀ j u, [u0][j]? = some u → w.cell? (ad.add j) = some u := by
    intro j u hj
    match j, hj with
    | 0, hj => simp at hj; subst hj; exact hcell
    | j + 1, hj => simp at hj
  have h1' : ∀ u ∈ [u0], u.oneCell' = true := by intro u hu; simp at hu; subst hu; exact h1
  obtain ⟨v', w', hr, h2, h3, _⟩ := run_append_own (P := Try.prog) w B 56 ty 55 i _ 1 8 Try.underlying56 hi1 hz hs1 hs2 rfl (by omega) v n _ hown ad 1 c [u0] (by simp) hcell' h1' (by unfold maxLen; omega) (by omega) hB
  refine ⟨v', w', hr, h2, h3, fun g hg => ?_⟩
  rcases hown.2 with ⟨rfl, hn0⟩ | ⟨g0, cap, cur, rfl, hbg, hgg, hnc, hcm, hcs, htake⟩
  · right
    subst hn0
    have hx : xs = [] := List.length_eq_zero_iff.1 (by have := hown.1; simpa using this)
    subst hx
    obtain ⟨v2, w2, hr2, h22, _, _⟩ := run_append_own (P := Try.prog) w w.heap.size 56 ty 55 i _ 1 8 Try.underlying56 hi1 hz hs1 hs2 rfl (by omega) (.slice none 0 0) 0 [] (World.ownsRow_nil w w.heap.size 55 1) ad 1 c [u0] (by simp) hcell' h1' (by unfold maxLen; omega) (by omega) (Nat.le_refl _)
    rw [hr] at hr2
    injection hr2 with e1 e2
    subst e1
    exact (h22.lt g hg).1
  · by_cases hroom : n + 1 ≤ cap
    · left
      have hr2 := run_append_room (P := Try.prog) w 56 ty 55 i Try.underlying56 hi1 g0 n cap cur hgg ad 1 c [u0] (by simp [hs1]) hcell' h1' hroom (by rw [hs1, hcs]; simp; omega)
      rw [hr] at hr2
      injection hr2 with e1 e2
      subst e1
      exact hg
    · right
      have hr2 := run_append_grow (P := Try.prog) w 56 ty 55 i _ Try.underlying56 hi1 hz ⟨g0, 0, none⟩ n cap xs (by rw [hs1]; exact hown.1) (hown.cells (g := g0) rfl) ad 1 c [u0] (by simp [hs1]) hcell' (by omega) (by omega) (growslice_fits (by omega) (by rw [hs2]; omega))
      rw [hr] at hr2
      injection hr2 with e1 e2
      subst e1
      simp [Value.ownBlock] at hg
      omega
set_option maxRecDepth 100000 in
theorem wpList_appP {w : World} {ops : Array Oper} {rest : List Oper} {o : Oper} {a : Act} {Q : Exit → Act → World → Prop} (hgd : o.guard = none) (s x : Operand)
    (ho : o.op = .call { callee := .builtin .append, args := #[s, x], argTypes := #[56, 56] })
    (B : Nat) {v : Value} {n : Nat} {xs : List Value} (hs : a.eval s = v) (hown : w.ownsRow B 55 1 v n xs) {ad : Addr} {c : Nat} {u0 : Value} (hx : a.eval x = .slice (some ad) 1 c) (hcell : w.cell? ad = some u0) (h1 : u0.oneCell' = true)
    (hlen : n + 1 ≤ 1000000) (hB : B ≤ w.heap.size)
    (h : ∀ v' w', w'.ownsRow B 55 1 v' (n + 1) (xs ++ [u0]) → w.grownBy w' v.ownBlock → (∀ g, v'.ownBlock = some g → v.ownBlock = some g ∨ w.heap.size ≤ g) → wpList Try.prog ops Q rest (a.put o.dst v') w') : wpList Try.prog ops Q (o :: rest) a w := by
  refine wpList_plain hgd fun _ hK => ?_
  obtain ⟨v', w', hr, r1, r2, r3⟩ := run_appP w o.type B hown hcell h1 hlen hB
  unfold Oper.wp execOp
  simp only [ho, resolve, invoke, builtin, Sem.run_bind, Sem.run_pure, Result.andThen_ok, List.map_toArray, List.map_cons, List.map_nil, hs, hx]
  rw [hr]
  exact hK _ _ (h v' w' r1 r2 r3)
theorem step_appP {w : World} {ops : Array Oper} {o : Oper} {a : Act} {K : Act → World → Prop} {Q : Exit → Act → World → Prop} {E : Prop} (hgd : o.guard = none) (s x : Operand)
    (ho : o.op = .call { callee := .builtin .append, args := #[s, x], argTypes := #[56, 56] })
    (B : Nat) {v : Value} {n : Nat} {xs : List Value} (hs : a.eval s = v) (hown : w.ownsRow B 55 1 v n xs) {ad : Addr} {c : Nat} {u0 : Value} (hx : a.eval x = .slice (some ad) 1 c) (hcell : w.cell? ad = some u0) (h1 : u0.oneCell' = true)
    (hlen : n + 1 ≤ 1000000) (hB : B ≤ w.heap.size)
    (h : ∀ v' w', w'.ownsRow B 55 1 v' (n + 1) (xs ++ [u0]) → w.grownBy w' v.ownBlock → (∀ g, v'.ownBlock = some g → v.ownBlock = some g ∨ w.heap.size ≤ g) → K (a.put o.dst v') w') : if Region.wanted o (yielded ops a.tmps) = true then Oper.wp Try.prog o a w K Q else E := by
  have hw : Region.wanted o (yielded ops a.tmps) = true := by simp [Region.wanted, hgd]
  rw [if_pos hw]
  obtain ⟨v', w', hr, r1, r2, r3⟩ := run_appP w o.type B hown hcell h1 hlen hB
  unfold Oper.wp execOp
  simp only [ho, resolve, invoke, builtin, Sem.run_bind, Sem.run_pure, Result.andThen_ok, List.map_toArray, List.map_cons, List.map_nil, hs, hx]
  rw [hr]
  exact h _ _ r1 r2 r3
theorem step_appN {w : World} {ops : Array Oper} {o : Oper} {a : Act} {K : Act → World → Prop} {Q : Exit → Act → World → Prop} {E : Prop} (hgd : o.guard = none) (s x : Operand)
    (ho : o.op = .call { callee := .builtin .append, args := #[s, x], argTypes := #[22, 22] })
    (B : Nat) {v : Value} {n : Nat} {xs : List Value} (hs : a.eval s = v) (hown : w.ownsRow B 3 1 v n xs) {ad : Addr} {c : Nat} {u0 : Value} (hx : a.eval x = .slice (some ad) 1 c) (hcell : w.cell? ad = some u0) (h1 : u0.oneCell' = true)
    (hlen : n + 1 ≤ 1000000) (hB : B ≤ w.heap.size)
    (h : ∀ v' w', w'.ownsRow B 3 1 v' (n + 1) (xs ++ [u0]) → w.grownBy w' v.ownBlock → (∀ g, v'.ownBlock = some g → v.ownBlock = some g ∨ w.heap.size ≤ g) → K (a.put o.dst v') w') : if Region.wanted o (yielded ops a.tmps) = true then Oper.wp Try.prog o a w K Q else E := by
  have hw : Region.wanted o (yielded ops a.tmps) = true := by simp [Region.wanted, hgd]
  rw [if_pos hw]
  obtain ⟨v', w', hr, r1, r2, r3⟩ := run_appN w o.type B hown hcell h1 hlen hB
  unfold Oper.wp execOp
  simp only [ho, resolve, invoke, builtin, Sem.run_bind, Sem.run_pure, Result.andThen_ok, List.map_toArray, List.map_cons, List.map_nil, hs, hx]
  rw [hr]
  exact h _ _ r1 r2 r3
theorem evR_print {F g : Nat} {x y n : Int} {i : Bool} {ts : List Int} {a : Co} {e : En} {s : Nat} {ws : List Int} {o : Out Va} {s' : Nat} {ws' : List Int} (h : ev F (g + 1) (.mk 11 x y n i ts [a]) e s ws = some (o, s', ws')) :
    (∃ j, ev F g a e s ws = some (.stop j, s', ws') ∧ o = .stop j) ∨ ∃ u ws1, ev F g a e s ws = some (.ok u, s', ws1) ∧ (((∀ m, u ≠ .num m) ∧ o = .stop (-1) ∧ ws' = ws1) ∨ (∃ m, u = .num m ∧ ((ws1.length = 4096 ∧ o = .stop 4 ∧ ws' = ws1) ∨ (ws1.length ≠ 4096 ∧ o = .ok (.con 0 []) ∧ ws' = ws1 ++ [m])))) := by
  have h2 : bnd (evL (fun c s w => ev F g c e s w) [a] s ws) (fun vs s1 w1 => Ev.tell s1 w1 vs) = some (o, s', ws') := h
  rcases evL_one h2 with ⟨j, h3, rfl⟩ | ⟨u, s1, ws1, h3, h4⟩
  · exact .inl ⟨j, h3, rfl⟩
  · unfold Ev.tell at h4
    cases u with
    | clo x2 self b e2 => injection h4 with h4; injection h4 with h5 h4; injection h4 with h6 h7; subst h5 h6 h7; exact .inr ⟨_, _, h3, .inl ⟨fun m e => (by cases e), rfl, rfl⟩⟩
    | con t us => injection h4 with h4; injection h4 with h5 h4; injection h4 with h6 h7; subst h5 h6 h7; exact .inr ⟨_, _, h3, .inl ⟨fun m e => (by cases e), rfl, rfl⟩⟩
    | num m =>
      dsimp only at h4
      by_cases hw : ws1.length = 4096
      · rw [if_pos hw] at h4
        injection h4 with h4; injection h4 with h5 h4; injection h4 with h6 h7; subst h5 h6 h7
        exact .inr ⟨_, _, h3, .inr ⟨m, rfl, .inl ⟨hw, rfl, rfl⟩⟩⟩
      · rw [if_neg hw] at h4
        injection h4 with h4; injection h4 with h5 h4; injection h4 with h6 h7; subst h5 h6 h7
        exact .inr ⟨_, _, h3, .inr ⟨m, rfl, .inr ⟨hw, rfl, rfl⟩⟩⟩
theorem RAt.nonum {w : World} {S : Nat → Prop} {u : Va} {v : Value} (h : RAt w S u v) (hn : ∀ m, u ≠ .num m) : ∃ p n A l c x s bp ep, v = .pointer (some ⟨p, 0, none⟩) ∧ Blk w p 60 #[.bool false, .int .i64 n, .slice A l c, .int .i64 x, .int .i64 s, .pointer bp, .pointer ep] := by
  cases u with
  | num n => exact absurd rfl (hn n)
  | con t us => rw [RAt] at h; obtain ⟨⟨p, A, c, h1, h2, h3, _⟩, _⟩ := h; exact ⟨p, t, A, _, c, 0, 0, none, none, h1, h3⟩
  | clo x self b e => rw [RAt] at h; obtain ⟨⟨p, bp, ep, h1, h2, h3, _⟩, _⟩ := h; exact ⟨p, 0, none, 0, 0, x, self, some bp, ep, h1, h3⟩
theorem evq_after {T : Nat → Prop} {k : Int} {F s : Nat} {ws : List Int} {M : Nat} {wv : Value} {w w1 w2 : World} {e : Ending} {pp : Option Addr} (h : EvQ T (.stop k) F s ws M wv w e w1) (hb : Below w1.heap.size w1 w2) : EvQ T (.stop k) F s ws M wv w (.returned (.pointer pp)) w2 := by
  obtain ⟨wv1, h1, h2, _⟩ := h
  exact ⟨wv1, h1.below hb, h2.below hb, _, rfl⟩
set_option maxHeartbeats 8000000 in
set_option maxRecDepth 100000 in
theorem print_st (F g : Nat) (IH : EvR F g) (T : Nat → Prop) (w : World) (M s : Nat) (ws : List Int) (wv : Value) (cp : Addr) (x y n : Int) (i : Bool) (ts : List Int) (a : Co) (e : En) (ep : Option Addr) (s' : Nat) (ws' : List Int) (hm : RSt w M F s 0 ws wv) (hc : CPt w (SfT M wv T) cp (.mk 11 x y n i ts [a])) (he : REAt w (SfT M wv T) e ep) (hfa : FoT a) (k : Int) (h1 : Ev.ev F g a e s ws = some (.stop k, s', ws')) : Calls Try.prog 32 #[.pointer (some ⟨M, 0, none⟩), .pointer (some cp), .pointer ep] w (EvQ T (.stop k) F s' ws' M wv w) := by
  obtain ⟨x0, x1, x2, x3⟩ := hm.blk.four
  have hlM := hm.blk.lt
  obtain ⟨T0, tc, A, c, ⟨z0, z1, z2, z3, z4, z5, z6⟩, hI, hsz, hrow, hwf⟩ := hc.cells
  have hlc := cell_lt z0
  have hcS := hc.1
  obtain ⟨ad, rfl, ha⟩ := one_pt hrow
  have z6' : w.cell? ⟨cp.block, cp.off + 6, none⟩ = some (.slice (some ad) 1 c) := z6
  have C1 := hid ((IH a e s ws _ _ _ h1 hfa T w M ad ep wv hm ha he).mono (fun _ _ h => evq_stR h))
  have hkb : (k != 0) = true := by simpa using Ev.stop_ne h1
  clear hm hc hI hsz hrow hwf he hfa ha h1 z6 hcS
  go_enter Try.func32, Try.ntmps32
  go_wp2_with (go_at_call 32; (refine C1.out.mono ?_); clear C1; rintro e1 w1 ⟨wv1, pp, rfl, hm1, hs1⟩; clear z0 z1 z2 z3 z4 z5 z6' x0 x1 x2 x3 hlM hlc; (obtain ⟨x0, x1, x2, x3⟩ := hm1.blk.four; have hlM := hm1.blk.lt; have D1 := hid (And.intro hm1 hs1); clear hm1 hs1))
  go_ret
  exact st_evq D1.out.1 D1.out.2 (al1 _ _)
set_option maxHeartbeats 8000000 in
set_option maxRecDepth 100000 in
theorem print_bad (F g : Nat) (IH : EvR F g) (T : Nat → Prop) (w : World) (M s : Nat) (ws : List Int) (wv : Value) (cp : Addr) (x y n : Int) (i : Bool) (ts : List Int) (a : Co) (e : En) (ep : Option Addr) (s' : Nat) (ws' : List Int) (hm : RSt w M F s 0 ws wv) (hc : CPt w (SfT M wv T) cp (.mk 11 x y n i ts [a])) (he : REAt w (SfT M wv T) e ep) (hfa : FoT a) (u : Va) (hu : ∀ m, u ≠ .num m) (h1 : Ev.ev F g a e s ws = some (.ok u, s', ws')) : Calls Try.prog 32 #[.pointer (some ⟨M, 0, none⟩), .pointer (some cp), .pointer ep] w (EvQ T (.stop (-1)) F s' ws' M wv w) := by
  obtain ⟨x0, x1, x2, x3⟩ := hm.blk.four
  have hlM := hm.blk.lt
  obtain ⟨T0, tc, A, c, ⟨z0, z1, z2, z3, z4, z5, z6⟩, hI, hsz, hrow, hwf⟩ := hc.cells
  have hlc := cell_lt z0
  have hcS := hc.1
  obtain ⟨ad, rfl, ha⟩ := one_pt hrow
  have z6' : w.cell? ⟨cp.block, cp.off + 6, none⟩ = some (.slice (some ad) 1 c) := z6
  have C1 := hid ((IH a e s ws _ _ _ h1 hfa T w M ad ep wv hm ha he).mono (fun _ _ h => evq_okR h))
  have HU := hid hu
  clear hm hc hI hsz hrow hwf he hfa ha h1 z6 hcS hu
  go_enter Try.func32, Try.ntmps32
  go_wp2_with (first
    | (go_at_call 32; (refine C1.out.mono ?_); clear C1; rintro e1 w1 ⟨wv1, pp, rfl, hm1, hs1, hr1⟩; clear z0 z1 z2 z3 z4 z5 z6' x0 x1 x2 x3 hlM hlc; (obtain ⟨x0, x1, x2, x3⟩ := hm1.blk.four; have hlM := hm1.blk.lt; have D1 := hid (And.intro hm1 hs1); clear hm1 hs1; (obtain ⟨p, n8, A8, l8, c8, q8, s8, b8, e8, hpp, hb⟩ := hr1.nonum HU.out); (injection hpp with hpp); subst hpp; (obtain ⟨u0, u1, u2, u3, u4, u5, u6⟩ := hb.seven); have hlp := hb.lt; clear hb hr1))
    | (go_at_call 40; (refine (r21_stops (Now T w) M F s' ws' wv1 (-1) w1 D1.out.1).mono ?_); rintro e3 w3 hE; obtain ⟨pp3, rfl⟩ := hE.ptr; have R := hid hE; clear hE))
  go_ret
  exact evq_after (R.out.hop D1.out.2) (al1 _ _)
set_option maxHeartbeats 8000000 in
set_option maxRecDepth 100000 in
theorem print_long (F g : Nat) (IH : EvR F g) (T : Nat → Prop) (w : World) (M s : Nat) (ws : List Int) (wv : Value) (cp : Addr) (x y n : Int) (i : Bool) (ts : List Int) (a : Co) (e : En) (ep : Option Addr) (s' : Nat) (ws' : List Int) (hm : RSt w M F s 0 ws wv) (hc : CPt w (SfT M wv T) cp (.mk 11 x y n i ts [a])) (he : REAt w (SfT M wv T) e ep) (hfa : FoT a) (m : Int) (hl : ws'.length = 4096) (h1 : Ev.ev F g a e s ws = some (.ok (.num m), s', ws')) : Calls Try.prog 32 #[.pointer (some ⟨M, 0, none⟩), .pointer (some cp), .pointer ep] w (EvQ T (.stop 4) F s' ws' M wv w) := by
  obtain ⟨x0, x1, x2, x3⟩ := hm.blk.four
  have hlM := hm.blk.lt
  obtain ⟨T0, tc, A, c, ⟨z0, z1, z2, z3, z4, z5, z6⟩, hI, hsz, hrow, hwf⟩ := hc.cells
  have hlc := cell_lt z0
  have hcS := hc.1
  obtain ⟨ad, rfl, ha⟩ := one_pt hrow
  have z6' : w.cell? ⟨cp.block, cp.off + 6, none⟩ = some (.slice (some ad) 1 c) := z6
  have C1 := hid ((IH a e s ws _ _ _ h1 hfa T w M ad ep wv hm ha he).mono (fun _ _ h => evq_okR h))
  have HL := hid hl
  clear hm hc hI hsz hrow hwf he hfa ha h1 z6 hcS hl
  go_enter Try.func32, Try.ntmps32
  go_wp2_with (first
    | (go_at_call 32; (refine C1.out.mono ?_); clear C1; rintro e1 w1 ⟨wv1, pp, rfl, hm1, hs1, hr1⟩; clear z0 z1 z2 z3 z4 z5 z6' x0 x1 x2 x3 hlM hlc; ((obtain ⟨A3, c3, hwv, _⟩ := hm1.own.slice); subst hwv; (rw [HL.out] at hm1 hs1); obtain ⟨x0, x1, x2, x3⟩ := hm1.blk.four; have hlM := hm1.blk.lt; have D1 := hid (And.intro hm1 hs1); clear hm1 hs1; (rw [RAt] at hr1); (obtain ⟨⟨p, hpp, hSp, hb⟩, _⟩ := hr1); (injection hpp with hpp); subst hpp; (obtain ⟨u0, u1, u2, u3, u4, u5, u6⟩ := hb.seven); have hlp := hb.lt; clear hb hSp))
    | (go_at_call 40; (refine (r21_stops (Now T w) M F s' ws' _ 4 w1 D1.out.1).mono ?_); rintro e3 w3 hE; obtain ⟨pp3, rfl⟩ := hE.ptr; have R := hid hE; clear hE))
  go_ret
  exact evq_after (R.out.hop D1.out.2) (al1 _ _)
/-- A number more is written. -/
theorem RSt.wrote {w w2 : World} {M F s : Nat} {ws : List Int} {wv wv' : Value} {o : Obj} {m : Int} (h : RSt w M F s 0 ws wv) (hl : ws.length ≠ 4096) (hw : (Lit.int .i64 m).wf = true) (hr : w2.ownsRow (M + 1) 3 1 wv' (ws.length + 1) (ws.map (Value.int .i64) ++ [.int .i64 m])) (hg : ((w.alloc o).drew).grownBy w2 wv.ownBlock) : RSt (w2.setCell ⟨M, 3, none⟩ wv') M F s 0 (ws ++ [m]) wv' := by
  have hM : w2.heap[M]? = w.heap[M]? := (hg.block M (by have := h.blk.lt; simp [World.drew]; omega) (fun e => by have := (h.own.own.lt M e.symm).1; omega)).trans (Below.heap_alloc _ _ _ h.blk.lt)
  have hb : Blk w2 M 54 _ := hM.trans h.blk
  refine ⟨hb.set_ 3 _, OwnI.set_ (a := ⟨M, 3, none⟩) ⟨?_, fun z hz => ?_⟩ (Nat.lt_succ_self M) _, h.hF, h.hs, by have := h.hw; simp; omega⟩
  · unfold Own
    simpa using hr
  · rcases List.mem_append.1 hz with hz | hz
    · exact h.own.wf z hz
    · simp at hz; subst hz; exact hw
theorem wrote_step {w w2 : World} {M : Nat} {wv wv' u : Value} {o : Obj} (hg : ((w.alloc o).drew).grownBy w2 wv.ownBlock) (hn : ∀ g, wv'.ownBlock = some g → wv.ownBlock = some g ∨ ((w.alloc o).drew).heap.size ≤ g) : MStep M wv wv' w (w2.setCell ⟨M, 3, none⟩ u) := by
  have hsz : ((w.alloc o).drew).heap.size = w.heap.size + 1 := by simp [World.drew]
  refine ⟨hg.os, hg.tape, hg.output, by have := hg.size; simp [World.setCell]; omega, fun k hk hM hne => ?_, fun g hgo => ?_⟩
  · refine (Below.heap_setCell w2 ⟨M, 3, none⟩ u k hM).trans ((hg.block k (by omega) (fun e => hne e.symm)).trans (Below.heap_alloc _ _ _ hk))
  · rcases hn g hgo with e | e
    · exact .inl e
    · exact .inr (by omega)
theorem wrote_cells {w w2 : World} {M F s : Nat} {ws : List Int} {wv : Value} {o : Obj} (h : RSt w M F s 0 ws wv) (hg : ((w.alloc o).drew).grownBy w2 wv.ownBlock) : w2.cell? ⟨M, 3, none⟩ = some wv ∧ w2.frozen? ⟨M, 3, none⟩ = false ∧ M < w2.heap.size := by
  have hM : w2.heap[M]? = w.heap[M]? := (hg.block M (by have := h.blk.lt; simp [World.drew]; omega) (fun e => by have := (h.own.own.lt M e.symm).1; omega)).trans (Below.heap_alloc _ _ _ h.blk.lt)
  have hb : Blk w2 M 54 _ := hM.trans h.blk
  exact ⟨hb.cell 3, hb.frozen 3, hb.lt⟩
theorem wrote_keep {w w2 : World} {M F s p : Nat} {ws : List Int} {wv u : Value} {o : Obj} (hp : wv.ownBlock ≠ some p) (h : RSt w M F s 0 ws wv) (hg : ((w.alloc o).drew).grownBy w2 wv.ownBlock) (hc : w.cell? ⟨p, 1, none⟩ = some u) : w2.cell? ⟨p, 1, none⟩ = some u := by
  have hl : p < w.heap.size := cell_lt hc
  exact cell_of ((hg.block p (by simp [World.drew]; omega) (fun e => hp e.symm)).trans (Below.heap_alloc _ _ _ hl)) rfl hc
theorem row_sliceG {w : World} {B n : Nat} {t : TypeId} {v : Value} {xs : List Value} (h : w.ownsRow B t 1 v n xs) : ∃ A c, v = .slice A n c := by
  rcases h.2 with ⟨rfl, rfl⟩ | ⟨g, cap, cur, rfl, _⟩
  · exact ⟨none, 0, rfl⟩
  · exact ⟨_, cap, rfl⟩
theorem con0_new {W : World} {S : Nat → Prop} {g : Nat} (hg : g = W.heap.size) (hS : ∀ b, W.heap.size ≤ b → S b) : RAt (W.alloc (.cells #[.bool false, .int .i64 0, .slice none 0 0, .int .i64 0, .int .i64 0, .pointer none, .pointer none] 60)) S (.con 0 []) (.pointer (some ⟨g, 0, none⟩)) := by
  subst hg
  rw [RAt]
  exact ⟨⟨_, none, 0, rfl, hS _ (Nat.le_refl _), Blk.new _ _ _, by rw [RRow]; trivial⟩, by decide, by simp⟩
theorem own_row {w : World} {B : Nat} {v : Value} {xs : List Int} (h : OwnI w B v xs) : w.ownsRow B 3 1 v xs.length (xs.map (.int .i64)) := by
  have := h.own
  unfold Own at this
  rwa [List.length_map] at this
set_option maxHeartbeats 8000000 in
set_option maxRecDepth 100000 in
theorem print_okR (F g : Nat) (IH : EvR F g) (T : Nat → Prop) (w : World) (M s : Nat) (ws : List Int) (wv : Value) (cp : Addr) (x y n : Int) (i : Bool) (ts : List Int) (a : Co) (e : En) (ep : Option Addr) (s' : Nat) (ws' : List Int) (hm : RSt w M F s 0 ws wv) (hc : CPt w (SfT M wv T) cp (.mk 11 x y n i ts [a])) (he : REAt w (SfT M wv T) e ep) (hfa : FoT a) (m : Int) (ws1 : List Int) (hl : ws1.length ≠ 4096) (h1 : Ev.ev F g a e s ws = some (.ok (.num m), s', ws1)) : Calls Try.prog 32 #[.pointer (some ⟨M, 0, none⟩), .pointer (some cp), .pointer ep] w (EvQ T (.ok (.con 0 [])) F s' (ws1 ++ [m]) M wv w) := by
  obtain ⟨x0, x1, x2, x3⟩ := hm.blk.four
  have hlM := hm.blk.lt
  obtain ⟨T0, tc, A, c, ⟨z0, z1, z2, z3, z4, z5, z6⟩, hI, hsz, hrow, hwf⟩ := hc.cells
  have hlc := cell_lt z0
  have hcS := hc.1
  obtain ⟨ad, rfl, ha⟩ := one_pt hrow
  have z6' : w.cell? ⟨cp.block, cp.off + 6, none⟩ = some (.slice (some ad) 1 c) := z6
  have C1 := hid ((IH a e s ws _ _ _ h1 hfa T w M ad ep wv hm ha he).mono (fun _ _ h => evq_okR h))
  have HL := hid hl
  have hl2 : ((ws1.length : Int) == 4096) = false := by simp; omega
  clear hm hc hI hsz hrow hwf he hfa ha h1 z6 hcS hl
  go_enter Try.func32, Try.ntmps32
  go_wp2_with (go_at_call 32; (refine C1.out.mono ?_); clear C1; rintro e1 w1 ⟨wv1, pp, rfl, hm1, hs1, hr1⟩; clear z0 z1 z2 z3 z4 z5 z6' x0 x1 x2 x3 hlM hlc; ((obtain ⟨A3, c3, hwv, _⟩ := hm1.own.slice); subst hwv; obtain ⟨x0, x1, x2, x3⟩ := hm1.blk.four; have hlM := hm1.blk.lt; have f3 := hm1.blk.frozen 3; have D1 := hid (And.intro hm1 hs1); clear hm1 hs1; (rw [RAt] at hr1); (obtain ⟨⟨p, hpp, hSp, hb⟩, hwm⟩ := hr1); (injection hpp with hpp); subst hpp; (obtain ⟨u0, u1, u2, u3, u4, u5, u6⟩ := hb.seven); have HW := hid (And.intro hwm hSp.1.2); have HPM := hid hSp.1.1; have hlp := hb.lt; clear hb hSp hwm))
  have hpM : ¬ p = M := HPM.out
  have hpM2 : ¬ M = p := fun h => hpM h.symm
  have hlMM : M + 1 ≤ w1.heap.size := hlM
  have HS := hid (show w1.drew.cell? ⟨p, 1, none⟩ = some (.int .i64 m) ∧ w1.drew.cell? ⟨M, 3, none⟩ = some (.slice A3 ws1.length c3) from ⟨u1, x3.1⟩)
  refine wp_region_T (n := 13) (S := fun w' => w'.cell? ⟨p, 1, none⟩ = some (.int .i64 m) ∧ w'.cell? ⟨M, 3, none⟩ = some (.slice A3 ws1.length c3)) (by kernel_rfl) ?_
  refine wpAnyT_takeW (i := 0) (v := .pointer (some ⟨M, 0, none⟩)) rfl (by decide) (by kernel_rfl) (fun _ _ _ h => h) (.inl ⟨by simp [Region.wanted], fun w7 _ => ?_⟩) (fun _ => HS.out) ?_
  · go_simp
  refine wpAnyT_takeW (i := 1) (v := .pointer (some ⟨M, 0, none⟩)) rfl (by decide) (by kernel_rfl) (fun _ _ _ h => h) (.inl ⟨by simp [Region.wanted], fun w7 _ => ?_⟩) (fun _ => HS.out) ?_
  · go_simp
  refine wpAnyT_takeW (i := 2) (v := .pointer (some ⟨M, 0, none⟩)) rfl (by decide) (by kernel_rfl) (fun _ _ _ h => h) (.inl ⟨by simp [Region.wanted], fun w7 _ => ?_⟩) (fun _ => HS.out) ?_
  · go_simp
  refine wpAnyT_takeW (i := 3) (v := .pointer (some ⟨M, 3, none⟩)) rfl (by decide) (by kernel_rfl) (fun _ _ _ h => h) (.inl ⟨by simp [Region.wanted], fun w7 _ => ?_⟩) (fun _ => HS.out) ?_
  · go_simp
  refine wpAnyT_takeW (i := 5) (v := .pointer (some ⟨p, 0, none⟩)) rfl (by decide) (by kernel_rfl) (fun _ _ _ h => h) (.inl ⟨by simp [Region.wanted], fun w7 _ => ?_⟩) (fun _ => HS.out) ?_
  · go_simp
  refine wpAnyT_takeW (i := 6) (v := .pointer (some ⟨p, 0, none⟩)) rfl (by decide) (by kernel_rfl) (fun _ _ _ h => h) (.inl ⟨by simp [Region.wanted], fun w7 _ => ?_⟩) (fun _ => HS.out) ?_
  · go_simp
  refine wpAnyT_takeW (i := 7) (v := .pointer (some ⟨p, 1, none⟩)) rfl (by decide) (by kernel_rfl) (fun _ _ _ h => h) (.inl ⟨by simp [Region.wanted], fun w7 _ => ?_⟩) (fun _ => HS.out) ?_
  · go_simp
  refine wpAnyT_takeP (i := 4) (v := .slice A3 ws1.length c3) [10, 13] rfl (by decide) (by kernel_rfl) (fun _ _ _ h => h) (.inl ⟨by simp [Region.wanted], fun w7 hS7 => ?_⟩) HS.out ?_
  · (obtain ⟨s0, s1⟩ := hS7; go_simp)
  refine wpAnyT_takeP (i := 8) (v := .int .i64 m) [9, 10, 13] rfl (by decide) (by kernel_rfl) (fun _ _ _ h => h) (.inl ⟨by simp [Region.wanted], fun w7 hS7 => ?_⟩) HS.out ?_
  · (obtain ⟨s0, s1⟩ := hS7; go_simp)
  refine wpAnyT_ready (rs := [9]) (by kernel_rfl) (by simp) ?_
  refine AllT.cons rfl (fun K' hK => ?_) AllT.nil
  go_simp
  refine hK.out _ _ (fun _ => ⟨((al1 w1 _).drew.cell (p := ⟨p, 1, none⟩) hlp).trans u1, ((al1 w1 _).drew.cell (p := ⟨M, 3, none⟩) hlM).trans x3.1⟩) ?_
  clear hK
  refine wpAnyT_ready (rs := [10]) (by kernel_rfl) (by simp) ?_
  refine AllT.cons rfl (fun K' hK => ?_) AllT.nil
  (refine step_appN (by rfl) _ _ (by rfl) (M + 1) (v := .slice A3 ws1.length c3) (n := ws1.length) (xs := ws1.map (Value.int .i64)) (by rfl) ?_ (ad := ⟨w1.heap.size, 0, none⟩) (c := 1) (u0 := .int .i64 m) (by rfl) ?_ (by rfl) ?_ ?_ ?_; (· exact (World.ownsRow.alloc (own_row D1.out.1.own) _).drew); (· exact (Blk.drew (Blk.new w1 3 #[.int .i64 m])).cell 0); (· have := D1.out.1.hw; omega); (· simp [World.drew]; omega); intro v' w2 hr hg hn; (obtain ⟨A9, c9, hv9⟩ := row_sliceG hr); subst hv9; have HA := hid (And.intro hr (And.intro hg hn)); have hM2 := wrote_cells D1.out.1 hg; (obtain ⟨k3, g3, hl2M⟩ := hM2); have k1 := wrote_keep HW.out.2 D1.out.1 hg u1; clear hr hg hn)
  refine hK.out _ _ (fun _ => ⟨k1, k3⟩) ?_
  clear hK HS
  have HS := hid (And.intro k1 k3)
  refine wpAnyT_takeW (i := 11) (v := .pointer (some ⟨M, 0, none⟩)) rfl (by decide) (by kernel_rfl) (fun _ _ _ h => h) (.inl ⟨by simp [Region.wanted], fun w7 _ => ?_⟩) (fun _ => HS.out) ?_
  · go_simp
  refine wpAnyT_takeW (i := 12) (v := .pointer (some ⟨M, 3, none⟩)) rfl (by decide) (by kernel_rfl) (fun _ _ _ h => h) (.inl ⟨by simp [Region.wanted], fun w7 _ => ?_⟩) (fun _ => HS.out) ?_
  · go_simp
  refine wpAnyT_ready (rs := [13]) (by kernel_rfl) (by simp) ?_
  refine AllT.cons rfl (fun K' hK => ?_) AllT.nil
  go_simp
  refine hK.out _ _ (fun h => absurd h (by decide)) ?_
  clear hK
  refine wpAnyT_done (by kernel_rfl) ?_ _
  all_goals
    go_wp2
    go_ret
    have h1 := D1.out.1.wrote HL.out HW.out.1 HA.out.1 HA.out.2.1
    have h2 := wrote_step (M := M) (u := .slice A9 (ws1.length + 1) c9) HA.out.2.1 HA.out.2.2
    exact ⟨_, h1.below (al1 _ _), (D1.out.2.trans h2).below (al1 _ _), _, rfl, con0_new (by simp [World.setCell]) (fun g hg => ⟨h1.sf hg, .inr (Nat.le_trans (D1.out.2.trans h2).size hg)⟩)⟩
theorem r_print (F g : Nat) (IH : EvR F g) (T : Nat → Prop) (w : World) (M s : Nat) (ws : List Int) (wv : Value) (cp : Addr) (x y n : Int) (i : Bool) (ts : List Int) (a : Co) (e : En) (ep : Option Addr) (o : Out Va) (s' : Nat) (ws' : List Int) (hm : RSt w M F s 0 ws wv) (hc : CPt w (SfT M wv T) cp (.mk 11 x y n i ts [a])) (he : REAt w (SfT M wv T) e ep) (hfa : FoT a) (hE : ev F (g + 1) (.mk 11 x y n i ts [a]) e s ws = some (o, s', ws')) :
    Calls Try.prog 32 #[.pointer (some ⟨M, 0, none⟩), .pointer (some cp), .pointer ep] w (EvQ T o F s' ws' M wv w) := by
  rcases evR_print hE with ⟨j, h1, rfl⟩ | ⟨u, ws1, h1, ⟨hu, rfl, rfl⟩ | ⟨m, rfl, ⟨hl, rfl, rfl⟩ | ⟨hl, rfl, rfl⟩⟩⟩
  · exact print_st F g IH T w M s ws wv cp x y n i ts a e ep s' ws' hm hc he hfa j h1
  · exact print_bad F g IH T w M s ws wv cp x y n i ts a e ep s' _ hm hc he hfa u hu h1
  · exact print_long F g IH T w M s ws wv cp x y n i ts a e ep s' _ hm hc he hfa m hl h1
  · exact print_okR F g IH T w M s ws wv cp x y n i ts a e ep s' [] hm hc he hfa m ws1 hl h1
end Go.Proofs.Ytohdaclbgedeiaa
/-
  THE WALK OF athanorref21's prim.
-/
namespace Go.Proofs.Ytohdaclbgedeiaa
set_option linter.all false
open Go.ChangeShapes Go.WideShapes Go.ChangeAt Go.RowKit
open Ev (Co Va En Out evL ev evS R bnd)
theorem evL_two {f : Co → Nat → List Int → R Va} {a b : Co} {s : Nat} {ws : List Int} {α : Type} {k : List Va → Nat → List Int → R α} {o : Out α} {s' : Nat} {ws' : List Int} (h : bnd (evL f [a, b] s ws) k = some (o, s', ws')) :
    (∃ j, f a s ws = some (.stop j, s', ws') ∧ o = .stop j) ∨ ∃ u s1 ws1, f a s ws = some (.ok u, s1, ws1) ∧ ((∃ j, f b s1 ws1 = some (.stop j, s', ws') ∧ o = .stop j) ∨ ∃ v s2 ws2, f b s1 ws1 = some (.ok v, s2, ws2) ∧ k [u, v] s2 ws2 = some (o, s', ws')) := by
  rcases Ev.bnd_some h with ⟨j, h1, rfl⟩ | ⟨vs, s1, ws1, h1, h2⟩
  · rcases evL_cons h1 with ⟨j2, h3, h4⟩ | ⟨v, s2, w2, r2, h3, h4, h5⟩
    · injection h4 with h4
      subst h4
      exact .inl ⟨_, h3, rfl⟩
    · refine .inr ⟨v, s2, w2, h3, ?_⟩
      rcases evL_cons h4 with ⟨j3, h6, h7⟩ | ⟨v3, s3, w3, r3, h6, h7, h8⟩
      · subst h7
        simp [pre] at h5
        subst h5
        exact .inl ⟨_, h6, rfl⟩
      · rw [evL] at h7
        injection h7 with h7; injection h7 with h9 h7
        subst h9
        subst h8
        simp [pre] at h5
  · rcases evL_cons h1 with ⟨j2, h3, h4⟩ | ⟨v, s2, w2, r2, h3, h4, h5⟩
    · cases h4
    · refine .inr ⟨v, s2, w2, h3, .inr ?_⟩
      rcases evL_cons h4 with ⟨j3, h6, h7⟩ | ⟨v3, s3, w3, r3, h6, h7, h8⟩
      · subst h7
        simp [pre] at h5
      · rw [evL] at h7
        injection h7 with h7; injection h7 with h9 h7; injection h7 with h10 h11
        subst h9 h10 h11
        subst h8
        simp [pre] at h5
        subst h5
        exact ⟨v3, _, _, h6, h2⟩
theorem evR_prim {F g : Nat} {x y n : Int} {i : Bool} {ts : List Int} {a b : Co} {e : En} {s : Nat} {ws : List Int} {o : Out Va} {s' : Nat} {ws' : List Int} (h : ev F (g + 1) (.mk 10 x y n i ts [a, b]) e s ws = some (o, s', ws')) :
    (∃ j, ev F g a e s ws = some (.stop j, s', ws') ∧ o = .stop j) ∨ ∃ u s1 ws1, ev F g a e s ws = some (.ok u, s1, ws1) ∧ ((∃ j, ev F g b e s1 ws1 = some (.stop j, s', ws') ∧ o = .stop j) ∨ ∃ v, ev F g b e s1 ws1 = some (.ok v, s', ws') ∧
      ((((∀ m, u ≠ .num m) ∨ (∀ m, v ≠ .num m)) ∧ o = .stop (-1)) ∨ ∃ p q, u = .num p ∧ v = .num q ∧ ((dok n q = false ∧ o = .stop 2) ∨ (dok n q = true ∧ o = .ok (if n < 6 then .num (dov n p q) else .con (dov n p q) []))))) := by
  have h2 : bnd (evL (fun c s w => ev F g c e s w) [a, b] s ws) (fun vs s1 w1 => if 1 ≤ n ∧ n ≤ 7 then Ev.prim n s1 w1 vs else none) = some (o, s', ws') := h
  rcases evL_two h2 with ⟨j, h3, rfl⟩ | ⟨u, s1, ws1, h3, ⟨j, h4, rfl⟩ | ⟨v, s2, ws2, h4, h5⟩⟩
  · exact .inl ⟨j, h3, rfl⟩
  · exact .inr ⟨u, s1, ws1, h3, .inl ⟨j, h4, rfl⟩⟩
  · refine .inr ⟨u, s1, ws1, h3, .inr ⟨v, ?_⟩⟩
    by_cases hn : 1 ≤ n ∧ n ≤ 7
    · rw [if_pos hn] at h5
      unfold Ev.prim at h5
      cases u with
      | num p =>
        cases v with
        | num q =>
          dsimp only at h5
          cases hd : dok n q with
          | true =>
            rw [hd] at h5
            simp only [if_true] at h5
            injection h5 with h5; injection h5 with h6 h5; injection h5 with h7 h8; subst h6 h7 h8
            exact ⟨h4, .inr ⟨p, q, rfl, rfl, .inr ⟨hd, rfl⟩⟩⟩
          | false =>
            rw [hd] at h5
            simp only [Bool.false_eq_true, if_false] at h5
            injection h5 with h5; injection h5 with h6 h5; injection h5 with h7 h8; subst h6 h7 h8
            exact ⟨h4, .inr ⟨p, q, rfl, rfl, .inl ⟨hd, rfl⟩⟩⟩
        | con t us => injection h5 with h5; injection h5 with h6 h5; injection h5 with h7 h8; subst h6 h7 h8; exact ⟨h4, .inl ⟨.inr (fun m e => by cases e), rfl⟩⟩
        | clo x2 self b2 e2 => injection h5 with h5; injection h5 with h6 h5; injection h5 with h7 h8; subst h6 h7 h8; exact ⟨h4, .inl ⟨.inr (fun m e => by cases e), rfl⟩⟩
      | con t us => injection h5 with h5; injection h5 with h6 h5; injection h5 with h7 h8; subst h6 h7 h8; exact ⟨h4, .inl ⟨.inl (fun m e => by cases e), rfl⟩⟩
      | clo x2 self b2 e2 => injection h5 with h5; injection h5 with h6 h5; injection h5 with h7 h8; subst h6 h7 h8; exact ⟨h4, .inl ⟨.inl (fun m e => by cases e), rfl⟩⟩
    · rw [if_neg hn] at h5; cases h5
theorem dr9 (X : World) : Below X.heap.size X X.drew := (Below.refl _ _).drew
theorem rp_val {W : World} {S : Nat → Prop} (n : Int) {d : Int} (hd : (Lit.int .i64 d).wf = true) (hS : S W.heap.size) : RAt (W.alloc (.cells #[.bool (decide (n < 6)), .int .i64 d, .slice none 0 0, .int .i64 0, .int .i64 0, .pointer none, .pointer none] 60)) S (if n < 6 then .num d else .con d []) (.pointer (some ⟨W.heap.size, 0, none⟩)) := by
  by_cases h : n < 6
  · rw [if_pos h, decide_eq_true h, RAt]
    exact ⟨⟨_, rfl, hS, Blk.new _ _ _⟩, hd⟩
  · rw [if_neg h, decide_eq_false h, RAt]
    exact ⟨⟨_, none, 0, rfl, hS, Blk.new _ _ _, by rw [RRow]; trivial⟩, hd, by simp⟩
set_option maxHeartbeats 8000000 in
set_option maxRecDepth 100000 in
theorem rp_st1 (F g : Nat) (IH : EvR F g) (T : Nat → Prop) (w : World) (M s : Nat) (ws : List Int) (wv : Value) (cp : Addr) (x y n : Int) (i : Bool) (ts : List Int) (a b : Co) (e : En) (ep : Option Addr) (s' : Nat) (ws' : List Int) (hm : RSt w M F s 0 ws wv) (hc : CPt w (SfT M wv T) cp (.mk 10 x y n i ts [a, b])) (he : REAt w (SfT M wv T) e ep) (hfa : FoT a) (hfb : FoT b) (k : Int) (h1 : Ev.ev F g a e s ws = some (.stop k, s', ws')) : Calls Try.prog 42 #[.pointer (some ⟨M, 0, none⟩), .pointer (some cp), .pointer ep] w (EvQ T (.stop k) F s' ws' M wv w) := by
  obtain ⟨x0, x1, x2, x3⟩ := hm.blk.four
  have hlM := hm.blk.lt
  obtain ⟨T0, tc, A, c, ⟨z0, z1, z2, z3, z4, z5, z6⟩, hI, hsz, hrow, hwf⟩ := hc.cells
  have hlc := cell_lt z0
  have hcS := hc.1
  obtain ⟨ad, rfl, ha, hb⟩ := two_pts hrow
  have z6' : w.cell? ⟨cp.block, cp.off + 6, none⟩ = some (.slice (some ad) 2 c) := z6
  have z3' : w.cell? ⟨cp.block, cp.off + 3, none⟩ = some (.int .i64 n) := z3
  have HC := hid (And.intro z6' (And.intro z3' (And.intro hcS (And.intro hb (And.intro he hfb)))))
  have C1 := hid ((IH a e s ws _ _ _ h1 hfa T w M ad ep wv hm ha he).mono (fun _ _ h => evq_stR h))
  have HK := hid (Ev.stop_ne h1)
  have hkb : (k != 0) = true := by simpa using HK.out
  clear hm hc hI hsz hrow hwf he hfa hfb ha hb h1 z6 z3 hcS
  go_enter Try.func42, Try.ntmps42
  go_wp2_with (first
    | (go_at_call 32; (refine C1.out.mono ?_); clear C1; rintro e1 w1 ⟨wv1, pp, rfl, hm1, hs1⟩; (have z6 : w1.cell? ⟨cp.block, cp.off + 6, none⟩ = some (.slice (some ad) 2 c) := hs1.cellR HC.out.2.2.1 HC.out.1); clear z0 z1 z2 z3' z4 z5 z6' x0 x1 x2 x3 hlM hlc; (have hlc := cell_lt z6); obtain ⟨x0, x1, x2, x3⟩ := hm1.blk.four; have hlM := hm1.blk.lt; have D1 := hid (And.intro hm1 hs1); have C2 := hid (fun ep2 => r21_idle M F s' k ws' wv1 (.pointer (some ⟨ad.block, ad.off + 7, none⟩)) ep2 w1 hm1 HK.out); clear hm1 hs1)
    | (go_at_call 32; (refine (C2.out _).mono ?_); clear C2; rintro e2 w2 ⟨⟨pp2, rfl⟩, b2⟩; have B2 := hid b2; (have hm2 := D1.out.1.below b2); clear x0 x1 x2 x3 hlM z6 hlc b2; obtain ⟨x0, x1, x2, x3⟩ := hm2.blk.four; have hlM := hm2.blk.lt; clear hm2)
    | (go_at_call 30; (refine (r21_number _ _).mono ?_); rintro e3 w3 ⟨rfl, rfl⟩))
  go_ret
  exact st_evq D1.out.1 D1.out.2 (below_hop (al1 _ _) B2.out)
set_option maxHeartbeats 8000000 in
set_option maxRecDepth 100000 in
theorem rp_st2 (F g : Nat) (IH : EvR F g) (T : Nat → Prop) (w : World) (M s : Nat) (ws : List Int) (wv : Value) (cp : Addr) (x y n : Int) (i : Bool) (ts : List Int) (a b : Co) (e : En) (ep : Option Addr) (s' : Nat) (ws' : List Int) (hm : RSt w M F s 0 ws wv) (hc : CPt w (SfT M wv T) cp (.mk 10 x y n i ts [a, b])) (he : REAt w (SfT M wv T) e ep) (hfa : FoT a) (hfb : FoT b) (k : Int) (u : Va) (s1 : Nat) (ws1 : List Int) (h1 : Ev.ev F g a e s ws = some (.ok u, s1, ws1)) (h2 : Ev.ev F g b e s1 ws1 = some (.stop k, s', ws')) : Calls Try.prog 42 #[.pointer (some ⟨M, 0, none⟩), .pointer (some cp), .pointer ep] w (EvQ T (.stop k) F s' ws' M wv w) := by
  obtain ⟨x0, x1, x2, x3⟩ := hm.blk.four
  have hlM := hm.blk.lt
  obtain ⟨T0, tc, A, c, ⟨z0, z1, z2, z3, z4, z5, z6⟩, hI, hsz, hrow, hwf⟩ := hc.cells
  have hlc := cell_lt z0
  have hcS := hc.1
  obtain ⟨ad, rfl, ha, hb⟩ := two_pts hrow
  have z6' : w.cell? ⟨cp.block, cp.off + 6, none⟩ = some (.slice (some ad) 2 c) := z6
  have z3' : w.cell? ⟨cp.block, cp.off + 3, none⟩ = some (.int .i64 n) := z3
  have HC := hid (And.intro z6' (And.intro z3' (And.intro hcS (And.intro hb (And.intro he hfb)))))
  have C1 := hid ((IH a e s ws _ _ _ h1 hfa T w M ad ep wv hm ha he).mono (fun _ _ h => evq_okR h))
  have HK := hid (Ev.stop_ne h2)
  have HE := hid h2
  have hkb : (k != 0) = true := by simpa using HK.out
  clear hm hc hI hsz hrow hwf he hfa hfb ha hb h1 h2 z6 z3 hcS
  go_enter Try.func42, Try.ntmps42
  go_wp2_with (first
    | (go_at_call 32; (refine C1.out.mono ?_); clear C1; rintro e1 w1 ⟨wv1, pp, rfl, hm1, hs1, hr1⟩; (have z6 : w1.cell? ⟨cp.block, cp.off + 6, none⟩ = some (.slice (some ad) 2 c) := hs1.cellR HC.out.2.2.1 HC.out.1); (have z3 : w1.cell? ⟨cp.block, cp.off + 3, none⟩ = some (.int .i64 n) := hs1.cellR HC.out.2.2.1 HC.out.2.1); clear z0 z1 z2 z3' z4 z5 z6' x0 x1 x2 x3 hlM hlc; (have hlc := cell_lt z6); obtain ⟨x0, x1, x2, x3⟩ := hm1.blk.four; have hlM := hm1.blk.lt; have D1 := hid (And.intro hs1 hr1); have C2 := hid ((IH b e s1 ws1 _ _ _ HE.out HC.out.2.2.2.2.2 (Now T w) w1 M ⟨ad.block, ad.off + 7, none⟩ ep wv1 hm1 (HC.out.2.2.2.1.keep (now_keepR hs1)) (REAt.keep (now_keepR hs1) _ _ HC.out.2.2.2.2.1)).mono (fun _ _ h => evq_stR h)); clear hm1 hs1 hr1)
    | (go_at_call 32; (refine C2.out.mono ?_); clear C2; rintro e2 w2 ⟨wv2, pp2, rfl, hm2, hs2⟩; clear x0 x1 x2 x3 hlM z6 z3 hlc; obtain ⟨x0, x1, x2, x3⟩ := hm2.blk.four; have hlM := hm2.blk.lt; have D2 := hid (And.intro hm2 hs2); clear hm2 hs2)
    | (go_at_call 30; (refine (r21_number _ _).mono ?_); rintro e3 w3 ⟨rfl, rfl⟩))
  go_ret
  exact st_evq D2.out.1 (D1.out.1.trans D2.out.2) (al1 _ _)
set_option maxHeartbeats 8000000 in
set_option maxRecDepth 100000 in
theorem rp_bad (F g : Nat) (IH : EvR F g) (T : Nat → Prop) (w : World) (M s : Nat) (ws : List Int) (wv : Value) (cp : Addr) (x y n : Int) (i : Bool) (ts : List Int) (a b : Co) (e : En) (ep : Option Addr) (s' : Nat) (ws' : List Int) (hm : RSt w M F s 0 ws wv) (hc : CPt w (SfT M wv T) cp (.mk 10 x y n i ts [a, b])) (he : REAt w (SfT M wv T) e ep) (hfa : FoT a) (hfb : FoT b) (u v : Va) (s1 : Nat) (ws1 : List Int) (hb9 : (∀ m, u ≠ .num m) ∨ (∃ m, u = .num m) ∧ (∀ m, v ≠ .num m)) (h1 : Ev.ev F g a e s ws = some (.ok u, s1, ws1)) (h2 : Ev.ev F g b e s1 ws1 = some (.ok v, s', ws')) : Calls Try.prog 42 #[.pointer (some ⟨M, 0, none⟩), .pointer (some cp), .pointer ep] w (EvQ T (.stop (-1)) F s' ws' M wv w) := by
  obtain ⟨x0, x1, x2, x3⟩ := hm.blk.four
  have hlM := hm.blk.lt
  obtain ⟨T0, tc, A, c, ⟨z0, z1, z2, z3, z4, z5, z6⟩, hI, hsz, hrow, hwf⟩ := hc.cells
  have hlc := cell_lt z0
  have hcS := hc.1
  obtain ⟨ad, rfl, ha, hb⟩ := two_pts hrow
  have z6' : w.cell? ⟨cp.block, cp.off + 6, none⟩ = some (.slice (some ad) 2 c) := z6
  have z3' : w.cell? ⟨cp.block, cp.off + 3, none⟩ = some (.int .i64 n) := z3
  have HC := hid (And.intro z6' (And.intro z3' (And.intro hcS (And.intro hb (And.intro he hfb)))))
  have C1 := hid ((IH a e s ws _ _ _ h1 hfa T w M ad ep wv hm ha he).mono (fun _ _ h => evq_okR h))
  have HE := hid h2
  clear hm hc hI hsz hrow hwf he hfa hfb ha hb h1 h2 z6 z3 hcS
  rcases hb9 with hu | ⟨⟨m, rfl⟩, hv⟩
  · have HU := hid hu
    clear hu
    go_enter Try.func42, Try.ntmps42
    go_wp2_with (first
      | (go_at_call 32; (refine C1.out.mono ?_); clear C1; rintro e1 w1 ⟨wv1, pp, rfl, hm1, hs1, hr1⟩; (have z6 : w1.cell? ⟨cp.block, cp.off + 6, none⟩ = some (.slice (some ad) 2 c) := hs1.cellR HC.out.2.2.1 HC.out.1); (have z3 : w1.cell? ⟨cp.block, cp.off + 3, none⟩ = some (.int .i64 n) := hs1.cellR HC.out.2.2.1 HC.out.2.1); clear z0 z1 z2 z3' z4 z5 z6' x0 x1 x2 x3 hlM hlc; (have hlc := cell_lt z6); obtain ⟨x0, x1, x2, x3⟩ := hm1.blk.four; have hlM := hm1.blk.lt; have D1 := hid (And.intro hs1 hr1); have C2 := hid ((IH b e s1 ws1 _ _ _ HE.out HC.out.2.2.2.2.2 (Now T w) w1 M ⟨ad.block, ad.off + 7, none⟩ ep wv1 hm1 (HC.out.2.2.2.1.keep (now_keepR hs1)) (REAt.keep (now_keepR hs1) _ _ HC.out.2.2.2.2.1)).mono (fun _ _ h => evq_okR h)); clear hm1 hs1 hr1)
      | (go_at_call 32; (refine C2.out.mono ?_); clear C2; rintro e2 w2 ⟨wv2, pp2, rfl, hm2, hs2, hr2⟩; (have z3b : w2.cell? ⟨cp.block, cp.off + 3, none⟩ = some (.int .i64 n) := (D1.out.1.trans hs2).cellR HC.out.2.2.1 HC.out.2.1); clear x0 x1 x2 x3 hlM z6 z3 hlc; (have hlc := cell_lt z3b); obtain ⟨x0, x1, x2, x3⟩ := hm2.blk.four; have hlM := hm2.blk.lt; have D2 := hid (And.intro hm2 hs2); (have r1 := RAt.keep hs2.keepT _ _ D1.out.2); (obtain ⟨p, n8, A8, l8, c8, q8, s8, b8, e8, hpp, hbk⟩ := r1.nonum HU.out); (injection hpp with hpp); subst hpp; (obtain ⟨u0, u1, u2, u3, u4, u5, u6⟩ := hbk.seven); have hlp := hbk.lt; clear hbk; clear hm2 hs2 hr2 r1)
      | (go_at_call 40; (refine (r21_stops (Now T w) M F s' ws' wv2 (-1) _ D2.out.1).mono ?_); rintro e3 w3 hE; obtain ⟨pp3, rfl⟩ := hE.ptr; have R := hid hE; clear hE))
    go_ret
    exact R.out.hop (D1.out.1.trans D2.out.2)
  · have HU := hid hv
    clear hv
    go_enter Try.func42, Try.ntmps42
    go_wp2_with (first
      | (go_at_call 32; (refine C1.out.mono ?_); clear C1; rintro e1 w1 ⟨wv1, pp, rfl, hm1, hs1, hr1⟩; (have z6 : w1.cell? ⟨cp.block, cp.off + 6, none⟩ = some (.slice (some ad) 2 c) := hs1.cellR HC.out.2.2.1 HC.out.1); (have z3 : w1.cell? ⟨cp.block, cp.off + 3, none⟩ = some (.int .i64 n) := hs1.cellR HC.out.2.2.1 HC.out.2.1); clear z0 z1 z2 z3' z4 z5 z6' x0 x1 x2 x3 hlM hlc; (have hlc := cell_lt z6); obtain ⟨x0, x1, x2, x3⟩ := hm1.blk.four; have hlM := hm1.blk.lt; have D1 := hid (And.intro hs1 hr1); have C2 := hid ((IH b e s1 ws1 _ _ _ HE.out HC.out.2.2.2.2.2 (Now T w) w1 M ⟨ad.block, ad.off + 7, none⟩ ep wv1 hm1 (HC.out.2.2.2.1.keep (now_keepR hs1)) (REAt.keep (now_keepR hs1) _ _ HC.out.2.2.2.2.1)).mono (fun _ _ h => evq_okR h)); clear hm1 hs1 hr1)
      | (go_at_call 32; (refine C2.out.mono ?_); clear C2; rintro e2 w2 ⟨wv2, pp2, rfl, hm2, hs2, hr2⟩; (have z3b : w2.cell? ⟨cp.block, cp.off + 3, none⟩ = some (.int .i64 n) := (D1.out.1.trans hs2).cellR HC.out.2.2.1 HC.out.2.1); clear x0 x1 x2 x3 hlM z6 z3 hlc; (have hlc := cell_lt z3b); obtain ⟨x0, x1, x2, x3⟩ := hm2.blk.four; have hlM := hm2.blk.lt; have D2 := hid (And.intro hm2 hs2); (have r1 := RAt.keep hs2.keepT _ _ D1.out.2); (rw [RAt] at r1); (obtain ⟨⟨p, hpp, hSp, hbk⟩, _⟩ := r1); (injection hpp with hpp); subst hpp; (obtain ⟨u0, u1, u2, u3, u4, u5, u6⟩ := hbk.seven); have hlp := hbk.lt; clear hbk hSp; (obtain ⟨p9, n9, A9, l9, c9, q9, s9, b9, e9, hpp9, hbk9⟩ := hr2.nonum HU.out); (injection hpp9 with hpp9); subst hpp9; (obtain ⟨v0, v1, v2, v3, v4, v5, v6⟩ := hbk9.seven); have hlp9 := hbk9.lt; clear hbk9; clear hm2 hs2 hr2)
      | (go_at_call 40; (refine (r21_stops (Now T w) M F s' ws' wv2 (-1) _ D2.out.1).mono ?_); rintro e3 w3 hE; obtain ⟨pp3, rfl⟩ := hE.ptr; have R := hid hE; clear hE))
    go_ret
    exact R.out.hop (D1.out.1.trans D2.out.2)
set_option maxHeartbeats 8000000 in
set_option maxRecDepth 100000 in
theorem rp_div (F g : Nat) (IH : EvR F g) (T : Nat → Prop) (w : World) (M s : Nat) (ws : List Int) (wv : Value) (cp : Addr) (x y n : Int) (i : Bool) (ts : List Int) (a b : Co) (e : En) (ep : Option Addr) (s' : Nat) (ws' : List Int) (hm : RSt w M F s 0 ws wv) (hc : CPt w (SfT M wv T) cp (.mk 10 x y n i ts [a, b])) (he : REAt w (SfT M wv T) e ep) (hfa : FoT a) (hfb : FoT b) (pv qv : Int) (s1 : Nat) (ws1 : List Int) (hd : dok n qv = false) (h1 : Ev.ev F g a e s ws = some (.ok (.num pv), s1, ws1)) (h2 : Ev.ev F g b e s1 ws1 = some (.ok (.num qv), s', ws')) : Calls Try.prog 42 #[.pointer (some ⟨M, 0, none⟩), .pointer (some cp), .pointer ep] w (EvQ T (.stop 2) F s' ws' M wv w) := by
  obtain ⟨x0, x1, x2, x3⟩ := hm.blk.four
  have hlM := hm.blk.lt
  obtain ⟨T0, tc, A, c, ⟨z0, z1, z2, z3, z4, z5, z6⟩, hI, hsz, hrow, hwf⟩ := hc.cells
  have hlc := cell_lt z0
  have hcS := hc.1
  obtain ⟨ad, rfl, ha, hb⟩ := two_pts hrow
  have z6' : w.cell? ⟨cp.block, cp.off + 6, none⟩ = some (.slice (some ad) 2 c) := z6
  have z3' : w.cell? ⟨cp.block, cp.off + 3, none⟩ = some (.int .i64 n) := z3
  have HC := hid (And.intro z6' (And.intro z3' (And.intro hcS (And.intro hb (And.intro he hfb)))))
  have C1 := hid ((IH a e s ws _ _ _ h1 hfa T w M ad ep wv hm ha he).mono (fun _ _ h => evq_okR h))
  have HE := hid h2
  have HD := hid hd
  clear hm hc hI hsz hrow hwf he hfa hfb ha hb h1 h2 z6 z3 hcS hd
  go_enter Try.func42, Try.ntmps42
  go_wp2_with (first
    | (go_at_call 32; (refine C1.out.mono ?_); clear C1; rintro e1 w1 ⟨wv1, pp, rfl, hm1, hs1, hr1⟩; (have z6 : w1.cell? ⟨cp.block, cp.off + 6, none⟩ = some (.slice (some ad) 2 c) := hs1.cellR HC.out.2.2.1 HC.out.1); (have z3 : w1.cell? ⟨cp.block, cp.off + 3, none⟩ = some (.int .i64 n) := hs1.cellR HC.out.2.2.1 HC.out.2.1); clear z0 z1 z2 z3' z4 z5 z6' x0 x1 x2 x3 hlM hlc; (have hlc := cell_lt z6); obtain ⟨x0, x1, x2, x3⟩ := hm1.blk.four; have hlM := hm1.blk.lt; have D1 := hid (And.intro hs1 hr1); have C2 := hid ((IH b e s1 ws1 _ _ _ HE.out HC.out.2.2.2.2.2 (Now T w) w1 M ⟨ad.block, ad.off + 7, none⟩ ep wv1 hm1 (HC.out.2.2.2.1.keep (now_keepR hs1)) (REAt.keep (now_keepR hs1) _ _ HC.out.2.2.2.2.1)).mono (fun _ _ h => evq_okR h)); clear hm1 hs1 hr1)
    | (go_at_call 32; (refine C2.out.mono ?_); clear C2; rintro e2 w2 ⟨wv2, pp2, rfl, hm2, hs2, hr2⟩; (have z3b : w2.cell? ⟨cp.block, cp.off + 3, none⟩ = some (.int .i64 n) := (D1.out.1.trans hs2).cellR HC.out.2.2.1 HC.out.2.1); clear x0 x1 x2 x3 hlM z6 z3 hlc; (have hlc := cell_lt z3b); obtain ⟨x0, x1, x2, x3⟩ := hm2.blk.four; have hlM := hm2.blk.lt; have D2 := hid (And.intro hm2 hs2); (have r1 := RAt.keep hs2.keepT _ _ D1.out.2); (rw [RAt] at r1 hr2); (obtain ⟨⟨p, hpp, hSp, hbk⟩, _⟩ := r1); (injection hpp with hpp); subst hpp; (obtain ⟨u0, u1, u2, u3, u4, u5, u6⟩ := hbk.seven); have hlp := hbk.lt; clear hbk hSp; (obtain ⟨⟨p9, hpp9, hSp9, hbk9⟩, _⟩ := hr2); (injection hpp9 with hpp9); subst hpp9; (obtain ⟨v0, v1, v2, v3, v4, v5, v6⟩ := hbk9.seven); have hlp9 := hbk9.lt; clear hbk9 hSp9; clear hm2 hs2))
  go_region_held3 (fun w' => w'.cell? ⟨cp.block, cp.off + 3, none⟩ = some (.int .i64 n) ∧ w'.cell? ⟨p, 1, none⟩ = some (.int .i64 pv) ∧ w'.cell? ⟨p9, 1, none⟩ = some (.int .i64 qv)) (first | exact ⟨z3b, u1, v1⟩ | go_keep) ((go_at_call 55; (refine (ref10_Do n pv qv _).mono ?_); rw [HD.out]; rintro e3 w3 ⟨rfl, h8⟩; subst h8))
  go_wp2_with (go_at_call 40; (refine (r21_stops (Now T w) M F s' ws' wv2 2 _ (D2.out.1.below (dr9 _))).mono ?_); rintro e3 w3 hE; obtain ⟨pp3, rfl⟩ := hE.ptr; have R := hid hE; clear hE)
  go_ret
  exact R.out.hop ((D1.out.1.trans D2.out.2).below (dr9 _))
set_option maxHeartbeats 8000000 in
set_option maxRecDepth 100000 in
theorem rp_okR (F g : Nat) (IH : EvR F g) (T : Nat → Prop) (w : World) (M s : Nat) (ws : List Int) (wv : Value) (cp : Addr) (x y n : Int) (i : Bool) (ts : List Int) (a b : Co) (e : En) (ep : Option Addr) (s' : Nat) (ws' : List Int) (hm : RSt w M F s 0 ws wv) (hc : CPt w (SfT M wv T) cp (.mk 10 x y n i ts [a, b])) (he : REAt w (SfT M wv T) e ep) (hfa : FoT a) (hfb : FoT b) (pv qv : Int) (vv : Va) (hvv : vv = if n < 6 then .num (dov n pv qv) else .con (dov n pv qv) []) (s1 : Nat) (ws1 : List Int) (hd : dok n qv = true) (h1 : Ev.ev F g a e s ws = some (.ok (.num pv), s1, ws1)) (h2 : Ev.ev F g b e s1 ws1 = some (.ok (.num qv), s', ws')) : Calls Try.prog 42 #[.pointer (some ⟨M, 0, none⟩), .pointer (some cp), .pointer ep] w (EvQ T (.ok vv) F s' ws' M wv w) := by
  obtain ⟨x0, x1, x2, x3⟩ := hm.blk.four
  have hlM := hm.blk.lt
  obtain ⟨T0, tc, A, c, ⟨z0, z1, z2, z3, z4, z5, z6⟩, hI, hsz, hrow, hwf⟩ := hc.cells
  have hlc := cell_lt z0
  have hcS := hc.1
  obtain ⟨ad, rfl, ha, hb⟩ := two_pts hrow
  have z6' : w.cell? ⟨cp.block, cp.off + 6, none⟩ = some (.slice (some ad) 2 c) := z6
  have z3' : w.cell? ⟨cp.block, cp.off + 3, none⟩ = some (.int .i64 n) := z3
  have HC := hid (And.intro z6' (And.intro z3' (And.intro hcS (And.intro hb (And.intro he hfb)))))
  have C1 := hid ((IH a e s ws _ _ _ h1 hfa T w M ad ep wv hm ha he).mono (fun _ _ h => evq_okR h))
  have HE := hid h2
  have HD := hid hd
  have HVV := hid hvv
  clear hvv
  clear hm hc hI hsz hrow hwf he hfa hfb ha hb h1 h2 z6 z3 hcS hd
  go_enter Try.func42, Try.ntmps42
  go_wp2_with (first
    | (go_at_call 32; (refine C1.out.mono ?_); clear C1; rintro e1 w1 ⟨wv1, pp, rfl, hm1, hs1, hr1⟩; (have z6 : w1.cell? ⟨cp.block, cp.off + 6, none⟩ = some (.slice (some ad) 2 c) := hs1.cellR HC.out.2.2.1 HC.out.1); (have z3 : w1.cell? ⟨cp.block, cp.off + 3, none⟩ = some (.int .i64 n) := hs1.cellR HC.out.2.2.1 HC.out.2.1); clear z0 z1 z2 z3' z4 z5 z6' x0 x1 x2 x3 hlM hlc; (have hlc := cell_lt z6); obtain ⟨x0, x1, x2, x3⟩ := hm1.blk.four; have hlM := hm1.blk.lt; have D1 := hid (And.intro hs1 hr1); have C2 := hid ((IH b e s1 ws1 _ _ _ HE.out HC.out.2.2.2.2.2 (Now T w) w1 M ⟨ad.block, ad.off + 7, none⟩ ep wv1 hm1 (HC.out.2.2.2.1.keep (now_keepR hs1)) (REAt.keep (now_keepR hs1) _ _ HC.out.2.2.2.2.1)).mono (fun _ _ h => evq_okR h)); clear hm1 hs1 hr1)
    | (go_at_call 32; (refine C2.out.mono ?_); clear C2; rintro e2 w2 ⟨wv2, pp2, rfl, hm2, hs2, hr2⟩; (have z3b : w2.cell? ⟨cp.block, cp.off + 3, none⟩ = some (.int .i64 n) := (D1.out.1.trans hs2).cellR HC.out.2.2.1 HC.out.2.1); clear x0 x1 x2 x3 hlM z6 z3 hlc; (have hlc := cell_lt z3b); obtain ⟨x0, x1, x2, x3⟩ := hm2.blk.four; have hlM := hm2.blk.lt; have D2 := hid (And.intro hm2 hs2); (have r1 := RAt.keep hs2.keepT _ _ D1.out.2); (rw [RAt] at r1 hr2); (obtain ⟨⟨p, hpp, hSp, hbk⟩, _⟩ := r1); (injection hpp with hpp); subst hpp; (obtain ⟨u0, u1, u2, u3, u4, u5, u6⟩ := hbk.seven); have hlp := hbk.lt; clear hbk hSp; (obtain ⟨⟨p9, hpp9, hSp9, hbk9⟩, _⟩ := hr2); (injection hpp9 with hpp9); subst hpp9; (obtain ⟨v0, v1, v2, v3, v4, v5, v6⟩ := hbk9.seven); have hlp9 := hbk9.lt; clear hbk9 hSp9; clear hm2 hs2))
  go_region_held3 (fun w' => w'.cell? ⟨cp.block, cp.off + 3, none⟩ = some (.int .i64 n) ∧ w'.cell? ⟨p, 1, none⟩ = some (.int .i64 pv) ∧ w'.cell? ⟨p9, 1, none⟩ = some (.int .i64 qv)) (first | exact ⟨z3b, u1, v1⟩ | go_keep) ((go_at_call 55; (refine (ref10_Do n pv qv _).mono ?_); rw [HD.out]; rintro e3 w3 ⟨rfl, h8⟩; subst h8))
  go_wp2
  go_ret
  refine ⟨wv2, D2.out.1.below (al1 _ _).drew, (D1.out.1.trans D2.out.2).below (al1 _ _).drew, .pointer (some ⟨w2.heap.size, 0, none⟩), rfl, ?_⟩
  rw [HVV.out]
  exact (rp_val n (dov_wf n pv qv) (⟨D2.out.1.sf (Nat.le_refl _), .inr (D1.out.1.trans D2.out.2).size⟩ : SfT M wv2 (Now T w) w2.heap.size)).up (dr9 _)
set_option maxHeartbeats 8000000 in
set_option maxRecDepth 100000 in
theorem r_prim (F g : Nat) (IH : EvR F g) (T : Nat → Prop) (w : World) (M s : Nat) (ws : List Int) (wv : Value) (cp : Addr) (x y n : Int) (i : Bool) (ts : List Int) (a b : Co) (e : En) (ep : Option Addr) (o : Out Va) (s' : Nat) (ws' : List Int) (hm : RSt w M F s 0 ws wv) (hc : CPt w (SfT M wv T) cp (.mk 10 x y n i ts [a, b])) (he : REAt w (SfT M wv T) e ep) (hfa : FoT a) (hfb : FoT b) (hE : ev F (g + 1) (.mk 10 x y n i ts [a, b]) e s ws = some (o, s', ws')) :
    Calls Try.prog 42 #[.pointer (some ⟨M, 0, none⟩), .pointer (some cp), .pointer ep] w (EvQ T o F s' ws' M wv w) := by
  rcases evR_prim hE with ⟨j, h1, rfl⟩ | ⟨u, s1, ws1, h1, ⟨j, h2, rfl⟩ | ⟨v, h2, ⟨hb9, rfl⟩ | ⟨p, q, rfl, rfl, ⟨hd, rfl⟩ | ⟨hd, rfl⟩⟩⟩⟩
  · exact rp_st1 F g IH T w M s ws wv cp x y n i ts a b e ep s' ws' hm hc he hfa hfb j h1
  · exact rp_st2 F g IH T w M s ws wv cp x y n i ts a b e ep s' ws' hm hc he hfa hfb j u s1 ws1 h1 h2
  · refine rp_bad F g IH T w M s ws wv cp x y n i ts a b e ep s' ws' hm hc he hfa hfb u v s1 ws1 ?_ h1 h2
    cases u with
    | num m => exact .inr ⟨⟨m, rfl⟩, hb9.resolve_left (fun h => h m rfl)⟩
    | con t us => exact .inl (fun m e => by cases e)
    | clo x2 self b2 e2 => exact .inl (fun m e => by cases e)
  · exact rp_div F g IH T w M s ws wv cp x y n i ts a b e ep s' ws' hm hc he hfa hfb p q s1 ws1 hd h1 h2
  · exact rp_okR F g IH T w M s ws wv cp x y n i ts a b e ep s' ws' hm hc he hfa hfb p q _ rfl s1 ws1 hd h1 h2
set_option maxHeartbeats 8000000 in
set_option maxRecDepth 100000 in
theorem r_prim_ev (F g : Nat) (IH : EvR F g) (T : Nat → Prop) (w : World) (M s : Nat) (ws : List Int) (wv : Value) (cp : Addr) (x y n : Int) (i : Bool) (ts : List Int) (a b : Co) (e : En) (ep : Option Addr) (o : Out Va) (s' : Nat) (ws' : List Int) (hm : RSt w M F s 0 ws wv) (hc : CPt w (SfT M wv T) cp (.mk 10 x y n i ts [a, b])) (he : REAt w (SfT M wv T) e ep) (hfa : FoT a) (hfb : FoT b) (hE : ev F (g + 1) (.mk 10 x y n i ts [a, b]) e s ws = some (o, s', ws')) :
    Calls Try.prog 32 #[.pointer (some ⟨M, 0, none⟩), .pointer (some cp), .pointer ep] w (EvQ T o F s' ws' M wv w) := by
  have C := hid (r_prim F g IH T w M s ws wv cp x y n i ts a b e ep o s' ws' hm hc he hfa hfb hE)
  obtain ⟨x0, x1, x2, x3⟩ := hm.blk.four
  have hlM := hm.blk.lt
  obtain ⟨T0, tc, A, c, ⟨z0, z1, z2, z3, z4, z5, z6⟩, hI, hsz, hrow, hwf⟩ := hc.cells
  have hlc := cell_lt z0
  have hcS := hc.1
  clear hm hc hI hsz hrow hwf he hfa hfb hE hcS
  go_enter Try.func32, Try.ntmps32
  go_wp2_with (go_at_call 42; (refine C.out.mono ?_); clear C; rintro e3 w3 hE; obtain ⟨pp3, rfl⟩ := hE.ptr; have R := hid hE; clear hE)
  go_ret
  exact R.out
end Go.Proofs.Ytohdaclbgedeiaa
/-
  THE WALK OF athanorref21's arm; A SWITCH.
-/
namespace Go.Proofs.Ytohdaclbgedeiaa
set_option linter.all false
open Go.ChangeShapes Go.WideShapes Go.ChangeAt Go.RowKit
open Ev (Co Va En Out evL ev evS R bnd arm idxI tagOf)
theorem idxR_at : ∀ {ts : List Int} {n : Int} {q : Nat}, (hq : q < ts.length) → ts[q] = n → (∀ j, (hj : j < ts.length) → j < q → ts[j] ≠ n) → idxI ts n = q
  | [], n, q, hq, _, _ => by simp at hq
  | t :: ts, n, 0, hq, h, _ => by rw [idxI, if_pos (by simpa using h)]
  | t :: ts, n, q + 1, hq, h, hn => by
    have h0 : t ≠ n := hn 0 (by simp) (by omega)
    rw [idxI, if_neg h0, idxR_at (ts := ts) (q := q) (by simpa using hq) (by simpa using h) (fun j hj hjq => by have := hn (j + 1) (by simpa using hj) (by omega); simpa using this)]
theorem idxR_no : ∀ {ts : List Int} {n : Int}, (∀ j, (hj : j < ts.length) → ts[j] ≠ n) → idxI ts n = ts.length
  | [], n, _ => rfl
  | t :: ts, n, hn => by
    have h0 : t ≠ n := hn 0 (by simp)
    rw [idxI, if_neg h0, idxR_no (fun j hj => by have := hn (j + 1) (by simpa using hj); simpa using this)]
    simp
/-- Which part it is. -/
def armK (ts : List Int) (ul : Nat) (n : Int) : Int := if idxI ts n < ts.length then (idxI ts n : Int) + 1 else if ul = ts.length + 2 then (ul : Int) - 1 else -1
set_option maxHeartbeats 8000000 in
set_option maxRecDepth 100000 in
theorem arm_bad (w : World) (cp : Addr) (k x y m : Int) (i : Bool) (T0 A : Option Addr) (tl tc ul c p : Nat) (nb : Bool) (n : Int) (A8 : Option Addr) (l8 c8 : Nat) (q8 s8 : Int) (bp e8 : Option Addr) (hz : (w).cell? (cp) = some (.int .i64 k) ∧ (w).cell? ⟨(cp).block, (cp).off + 1, none⟩ = some (.int .i64 x) ∧ (w).cell? ⟨(cp).block, (cp).off + 2, none⟩ = some (.int .i64 y) ∧ (w).cell? ⟨(cp).block, (cp).off + 3, none⟩ = some (.int .i64 m) ∧ (w).cell? ⟨(cp).block, (cp).off + 4, none⟩ = some (.bool i) ∧ (w).cell? ⟨(cp).block, (cp).off + 5, none⟩ = some (.slice T0 tl tc) ∧ (w).cell? ⟨(cp).block, (cp).off + 6, none⟩ = some (.slice A ul c)) (hp : Blk w p 60 #[.bool nb, .int .i64 n, .slice A8 l8 c8, .int .i64 q8, .int .i64 s8, .pointer bp, .pointer e8]) (hb : (∃ b, bp = some b) ∨ bp = none ∧ nb ≠ i) :
    Calls Try.prog 41 #[.pointer (some cp), .pointer (some ⟨p, 0, none⟩)] w fun e w' => e = .returned (.int .i64 (-1)) ∧ Below w.heap.size w w' := by
  obtain ⟨z0, z1, z2, z3, z4, z5, z6⟩ := hz
  obtain ⟨r0, r1, r2, r3, r4, r5, r6⟩ := hp.seven
  have hlc := cell_lt z0
  have hlp := hp.lt
  clear hp
  rcases hb with ⟨b, rfl⟩ | ⟨rfl, hne⟩
  · go_enter Try.func41, Try.ntmps41
    go_wp2
    go_quiet (fail)
    go_wp2
    go_ret
    exact ⟨rfl, drewN_below _ _⟩
  · cases nb <;> cases i
    · exact absurd rfl hne
    · clear hne
      go_enter Try.func41, Try.ntmps41
      go_wp2
      go_quiet (fail)
      go_wp2
      go_ret
      exact ⟨rfl, drewN_below _ _⟩
    · clear hne
      go_enter Try.func41, Try.ntmps41
      go_wp2
      go_quiet (fail)
      go_wp2
      go_ret
      exact ⟨rfl, drewN_below _ _⟩
    · exact absurd rfl hne
set_option maxHeartbeats 8000000 in
set_option maxRecDepth 100000 in
theorem arm_good (w : World) (cp : Addr) (S : Nat → Prop) (k x y m : Int) (i : Bool) (T0 A : Option Addr) (ts : List Int) (tc ul c p : Nat) (n : Int) (A8 : Option Addr) (l8 c8 : Nat) (q8 s8 : Int) (e8 : Option Addr) (hz : (w).cell? (cp) = some (.int .i64 k) ∧ (w).cell? ⟨(cp).block, (cp).off + 1, none⟩ = some (.int .i64 x) ∧ (w).cell? ⟨(cp).block, (cp).off + 2, none⟩ = some (.int .i64 y) ∧ (w).cell? ⟨(cp).block, (cp).off + 3, none⟩ = some (.int .i64 m) ∧ (w).cell? ⟨(cp).block, (cp).off + 4, none⟩ = some (.bool i) ∧ (w).cell? ⟨(cp).block, (cp).off + 5, none⟩ = some (.slice T0 ts.length tc) ∧ (w).cell? ⟨(cp).block, (cp).off + 6, none⟩ = some (.slice A ul c)) (hp : Blk w p 60 #[.bool i, .int .i64 n, .slice A8 l8 c8, .int .i64 q8, .int .i64 s8, .pointer none, .pointer e8]) (hI : IAt w S ts T0 tc) (hul : ul ≤ 17592186044416) :
    Calls Try.prog 41 #[.pointer (some cp), .pointer (some ⟨p, 0, none⟩)] w fun e w' => e = .returned (.int .i64 (armK ts ul n)) ∧ Below w.heap.size w w' := by
  have HZ := hid hz
  have HPB := hid hp
  have HI := hid hI
  obtain ⟨z0, z1, z2, z3, z4, z5, z6⟩ := hz
  obtain ⟨r0, r1, r2, r3, r4, r5, r6⟩ := hp.seven
  have hlc := cell_lt z0
  have hlp := hp.lt
  have hts := hI.1.2.2.2
  have q1 : IntKind.i64.wrap ((ts.length : Int) + 2) = (ts.length : Int) + 2 := IntWalk.i64_in _ (by omega)
  have q2 : IntKind.i64.wrap ((ul : Int) - 1) = (ul : Int) - 1 := IntWalk.i64_in _ (by omega)
  have hii : (i != i) = false := by simp
  clear hp hI
  go_enter Try.func41, Try.ntmps41
  go_wp2
  go_quiet (fail)
  have HQ1 := hid (drewN_below w nq)
  go_wp2
  go_loopg [5] ts.length (fun g z wr => ∃ q : Nat, q + g = ts.length ∧ z = .int .i64 q ∧ Hid (∀ j, (hj : j < ts.length) → j < q → ts[j] ≠ n) ∧ Hid (Below w.heap.size w wr))
  case atStart => exact ⟨0, by omega, rfl, hid (fun j hj h => by omega), HQ1⟩
  case round =>
    obtain ⟨q, hq, rfl, hn, hb⟩ := hrel
    have Hq := hid hq
    clear r0 r1 r2 r3 r4 r5 r6
    obtain ⟨r0, r1, r2, r3, r4, r5, r6⟩ := (HPB.out.below hb.out hlp).seven
    obtain ⟨z0, z1, z2, z3, z4, z5, z6⟩ := at7_keep (hb.out.block _ hlc) rfl HZ.out
    by_cases hlt : q < ts.length
    case neg =>
      obtain rfl : q = ts.length := by omega
      clear hq
      have hidx := hid (idxR_no (fun j hj => hn.out j hj hj))
      by_cases h2 : ul = ts.length + 2
      · have h2' : ((ul : Int) == (ts.length : Int) + 2) = true := by simp; omega
        have H2 := hid h2
        clear h2
        go_wp2
        go_quiet (fail)
        go_wp2
        go_ret
        refine ⟨?_, hb.out.trans ((drewN_below _ _).mono hb.out.size)⟩
        unfold armK
        rw [hidx.out, if_neg (by omega), if_pos H2.out]
        rfl
      · have h2' : ((ul : Int) == (ts.length : Int) + 2) = false := by simp; omega
        have H2 := hid h2
        clear h2
        go_wp2
        go_quiet (fail)
        go_wp2
        go_ret
        refine ⟨?_, hb.out.trans ((drewN_below _ _).mono hb.out.size)⟩
        unfold armK
        rw [hidx.out, if_neg (by omega), if_neg H2.out]
        rfl
    have hlt' : (q : Int) < ts.length := by omega
    have hq0 : (0 : Int) ≤ q := by omega
    have hqw : IntKind.i64.wrap ((q : Int) + 1) = (q : Int) + 1 := IntWalk.i64_in _ (by omega)
    obtain ⟨ad, rfl, hS9, y0, _⟩ := (HI.out.keep (fun b hb' hl => ⟨hb.out.block b hl, hb'⟩)).2 q hlt
    obtain ⟨t, ht9⟩ : ∃ t, t = ts[q]'hlt := ⟨_, rfl⟩
    rw [← ht9] at y0
    have HT := hid ht9
    have HLT := hid hlt
    clear hq ht9 hS9
    by_cases he : t = n
    · subst he
      go_wp2
      go_quiet (fail)
      go_wp2
      go_ret
      refine ⟨?_, hb.out.trans ((drewN_below _ _).mono hb.out.size)⟩
      have := idxR_at HLT.out HT.out.symm hn.out
      unfold armK
      rw [this, if_pos HLT.out]
      rfl
    · have he' : (t == n) = false := by simpa using he
      have HE := hid he
      go_wp2
      go_quiet (fail)
      go_wp2
      have hgk := Hq.out
      have hlt9 := HLT.out
      go_roundg (gk - 1)
      case rel => exact ⟨q + 1, by omega, by go_num, hid (fun j hj hjq => by
        by_cases e : j = q
        · subst e; rw [← HT.out]; exact HE.out
        · exact hn.out j hj (by omega)), hid (hb.out.trans ((drewN_below _ _).mono hb.out.size))⟩
      case measure => omega
end Go.Proofs.Ytohdaclbgedeiaa
/-
  THE WALK OF athanorref21's eval: A SWITCH.
-/
namespace Go.Proofs.Ytohdaclbgedeiaa
set_option linter.all false
open Go.ChangeShapes Go.WideShapes Go.ChangeAt Go.RowKit
open Ev (Co Va En Out evL ev evS R bnd arm idxI tagOf)
theorem idxR_le : ∀ (ts : List Int) (n : Int), idxI ts n ≤ ts.length
  | [], n => Nat.le_refl _
  | t :: ts, n => by
    rw [idxI]
    split
    · simp
    · have := idxR_le ts n; simp; omega
theorem armK_some {ts : List Int} {rest : List Co} {n : Int} {c : Co} (hl : rest.length = ts.length ∨ rest.length = ts.length + 1) (h : rest[idxI ts n]? = some c) : armK ts (rest.length + 1) n = ((idxI ts n + 1 : Nat) : Int) := by
  have h1 := (List.getElem?_eq_some_iff.1 h).1
  have h2 := idxR_le ts n
  unfold armK
  by_cases h3 : idxI ts n < ts.length
  · rw [if_pos h3]; omega
  · rw [if_neg h3, if_pos (by omega)]; omega
theorem armK_none {ts : List Int} {rest : List Co} {n : Int} (hl : rest.length = ts.length ∨ rest.length = ts.length + 1) (h : rest[idxI ts n]? = none) : armK ts (rest.length + 1) n = -1 := by
  have h1 := List.getElem?_eq_none_iff.1 h
  have h2 := idxR_le ts n
  unfold armK
  rw [if_neg (by omega), if_neg (by omega)]
/-- What arm tells. -/
def ArmC (i : Bool) (ts : List Int) (rest : List Co) (u : Va) (cp : Addr) (pp : Option Addr) (w : World) : Prop := (arm i ts rest u = none → Calls Try.prog 41 #[.pointer (some cp), .pointer pp] w fun e w' => e = .returned (.int .i64 (-1)) ∧ Below w.heap.size w w') ∧ ∀ d, arm i ts rest u = some d → ∃ j, rest[j]? = some d ∧ Calls Try.prog 41 #[.pointer (some cp), .pointer pp] w fun e w' => e = .returned (.int .i64 ((j + 1 : Nat) : Int)) ∧ Below w.heap.size w w'
theorem arm_of {w : World} {S S2 : Nat → Prop} {cp : Addr} {k x y m : Int} {i : Bool} {T0 A : Option Addr} {ts : List Int} {tc c : Nat} {rest : List Co} {u : Va} {pp : Option Addr} (hr : RAt w S u (.pointer pp)) (hz : (w).cell? (cp) = some (.int .i64 k) ∧ (w).cell? ⟨(cp).block, (cp).off + 1, none⟩ = some (.int .i64 x) ∧ (w).cell? ⟨(cp).block, (cp).off + 2, none⟩ = some (.int .i64 y) ∧ (w).cell? ⟨(cp).block, (cp).off + 3, none⟩ = some (.int .i64 m) ∧ (w).cell? ⟨(cp).block, (cp).off + 4, none⟩ = some (.bool i) ∧ (w).cell? ⟨(cp).block, (cp).off + 5, none⟩ = some (.slice T0 ts.length tc) ∧ (w).cell? ⟨(cp).block, (cp).off + 6, none⟩ = some (.slice A (rest.length + 1) c)) (hI : IAt w S2 ts T0 tc) (hul : rest.length + 1 ≤ 17592186044416) (hl : rest.length = ts.length ∨ rest.length = ts.length + 1) :
    ArmC i ts rest u cp pp w := by
  have key : ∀ n, tagOf i u = some n → (∃ p A8 l8 c8 q8 s8 e8, pp = some ⟨p, 0, none⟩ ∧ Blk w p 60 #[.bool i, .int .i64 n, .slice A8 l8 c8, .int .i64 q8, .int .i64 s8, .pointer none, .pointer e8]) → ArmC i ts rest u cp pp w := fun n ht ⟨p, A8, l8, c8, q8, s8, e8, hp, hb⟩ => by
    subst hp
    have C := arm_good w cp S2 k x y m i T0 A ts tc (rest.length + 1) c p n A8 l8 c8 q8 s8 e8 hz hb hI hul
    refine ⟨fun h => ?_, fun d h => ?_⟩
    · unfold arm at h
      rw [ht] at h
      rw [armK_none hl h] at C
      exact C
    · unfold arm at h
      rw [ht] at h
      rw [armK_some hl h] at C
      exact ⟨_, h, C⟩
  have bad : tagOf i u = none → (∃ p nb n A8 l8 c8 q8 s8 bp e8, pp = some ⟨p, 0, none⟩ ∧ Blk w p 60 #[.bool nb, .int .i64 n, .slice A8 l8 c8, .int .i64 q8, .int .i64 s8, .pointer bp, .pointer e8] ∧ ((∃ b, bp = some b) ∨ bp = none ∧ nb ≠ i)) → ArmC i ts rest u cp pp w := fun ht ⟨p, nb, n, A8, l8, c8, q8, s8, bp, e8, hp, hb, hne⟩ => by
    subst hp
    refine ⟨fun h => arm_bad w cp k x y m i T0 A _ tc _ c p nb n A8 l8 c8 q8 s8 bp e8 hz hb hne, fun d h => ?_⟩
    unfold arm at h
    rw [ht] at h
    cases h
  cases u with
  | num n =>
    rw [RAt] at hr
    obtain ⟨⟨p, hp, _, hb⟩, _⟩ := hr
    injection hp with hp
    cases i with
    | true => subst hp; exact key n rfl ⟨p, _, _, _, _, _, _, rfl, hb⟩
    | false => exact bad rfl ⟨p, _, _, _, _, _, _, _, _, _, hp, hb, .inr ⟨rfl, by decide⟩⟩
  | con t us =>
    rw [RAt] at hr
    obtain ⟨⟨p, A8, c8, hp, _, hb, _⟩, _⟩ := hr
    injection hp with hp
    cases i with
    | false => subst hp; exact key t rfl ⟨p, _, _, _, _, _, _, rfl, hb⟩
    | true => exact bad rfl ⟨p, _, _, _, _, _, _, _, _, _, hp, hb, .inr ⟨rfl, by decide⟩⟩
  | clo x2 self b e2 =>
    rw [RAt] at hr
    obtain ⟨⟨p, bp, ep, hp, _, hb, _, _⟩, _⟩ := hr
    injection hp with hp
    exact bad rfl ⟨p, _, _, _, _, _, _, _, _, _, hp, hb, .inl ⟨bp, rfl⟩⟩
theorem first_pt {w : World} {S : Nat → Prop} {a : Co} {us : List Co} {A : Option Addr} (h : CRow w S (a :: us) A 0) : ∃ ad, A = some ad ∧ CPt w S ad a := by
  obtain ⟨ad, rfl, h1⟩ := h.pt (j := 0) (by simp)
  have e0 : (ad.add (0 * 7)) = ad := by unfold Addr.add; simp
  rw [e0] at h1
  exact ⟨ad, rfl, h1⟩
set_option maxHeartbeats 8000000 in
set_option maxRecDepth 100000 in
theorem sw_st (F g : Nat) (IH : EvR F g) (T : Nat → Prop) (w : World) (M s : Nat) (ws : List Int) (wv : Value) (cp : Addr) (x y n : Int) (i : Bool) (ts : List Int) (a : Co) (rest : List Co) (e : En) (ep : Option Addr) (s' : Nat) (ws' : List Int) (hm : RSt w M F s 0 ws wv) (hc : CPt w (SfT M wv T) cp (.mk 9 x y n i ts (a :: rest))) (he : REAt w (SfT M wv T) e ep) (hfa : FoT a) (k : Int) (h1 : Ev.ev F g a e s ws = some (.stop k, s', ws')) : Calls Try.prog 32 #[.pointer (some ⟨M, 0, none⟩), .pointer (some cp), .pointer ep] w (EvQ T (.stop k) F s' ws' M wv w) := by
  obtain ⟨x0, x1, x2, x3⟩ := hm.blk.four
  have hlM := hm.blk.lt
  obtain ⟨T0, tc, A, c, ⟨z0, z1, z2, z3, z4, z5, z6⟩, hI, hsz, hrow, hwf⟩ := hc.cells
  have hlc := cell_lt z0
  have hcS := hc.1
  obtain ⟨ad, rfl, ha⟩ := first_pt hrow
  have hln : (0 : Int) < ((a :: rest).length : Nat) := by simp
  have hul := hsz.2.2.2
  obtain ⟨ul, hulq⟩ : ∃ ul, (a :: rest).length = ul := ⟨_, rfl⟩
  rw [hulq] at z6 hln hul
  have C1 := hid ((IH a e s ws _ _ _ h1 hfa T w M ad ep wv hm ha he).mono (fun _ _ h => evq_stR h))
  have hkb : (k != 0) = true := by simpa using Ev.stop_ne h1
  clear hm hc hI hsz hrow hwf he hfa ha h1 hcS hulq
  go_enter Try.func32, Try.ntmps32
  go_wp2_with (first
    | (go_at_call 32; (refine C1.out.mono ?_); clear C1; rintro e1 w1 ⟨wv1, pp, rfl, hm1, hs1⟩; clear z0 z1 z2 z3 z4 z5 z6 x0 x1 x2 x3 hlM hlc; obtain ⟨x0, x1, x2, x3⟩ := hm1.blk.four; have hlM := hm1.blk.lt; have D1 := hid (And.intro hm1 hs1); clear hm1 hs1)
    | (go_at_call 30; (refine (r21_number _ _).mono ?_); rintro e3 w3 ⟨rfl, rfl⟩))
  go_ret
  exact st_evq D1.out.1 D1.out.2 (al1 _ _)
set_option maxHeartbeats 8000000 in
set_option maxRecDepth 100000 in
theorem sw_bad (F g : Nat) (IH : EvR F g) (T : Nat → Prop) (w : World) (M s : Nat) (ws : List Int) (wv : Value) (cp : Addr) (x y n : Int) (i : Bool) (ts : List Int) (a : Co) (rest : List Co) (e : En) (ep : Option Addr) (s' : Nat) (ws' : List Int) (hm : RSt w M F s 0 ws wv) (hc : CPt w (SfT M wv T) cp (.mk 9 x y n i ts (a :: rest))) (he : REAt w (SfT M wv T) e ep) (hfa : FoT a) (u : Va) (hform : rest.length = ts.length ∨ rest.length = ts.length + 1) (h1 : Ev.ev F g a e s ws = some (.ok u, s', ws')) (h2 : arm i ts rest u = none) : Calls Try.prog 32 #[.pointer (some ⟨M, 0, none⟩), .pointer (some cp), .pointer ep] w (EvQ T (.stop (-1)) F s' ws' M wv w) := by
  obtain ⟨x0, x1, x2, x3⟩ := hm.blk.four
  have hlM := hm.blk.lt
  obtain ⟨T0, tc, A, c, ⟨z0, z1, z2, z3, z4, z5, z6⟩, hI, hsz, hrow, hwf⟩ := hc.cells
  have hlc := cell_lt z0
  have hcS := hc.1
  obtain ⟨ad, rfl, ha⟩ := first_pt hrow
  have hln : (0 : Int) < ((a :: rest).length : Nat) := by simp
  have hul := hsz.2.2.2
  obtain ⟨ul, hulq⟩ : ∃ ul, (a :: rest).length = ul := ⟨_, rfl⟩
  rw [hulq] at z6 hln hul
  have C1 := hid ((IH a e s ws _ _ _ h1 hfa T w M ad ep wv hm ha he).mono (fun _ _ h => evq_okR h))
  have HC := hid (And.intro (And.intro z0 (And.intro z1 (And.intro z2 (And.intro z3 (And.intro z4 (And.intro z5 z6)))))) (And.intro hI (And.intro hcS hlc)))
  have HUL := hid (show rest.length + 1 = ul by rw [← hulq]; rfl)
  have HH := hid (And.intro hul hform)
  have H2 := hid h2
  clear hm hc hI hsz hrow hwf he hfa ha h1 h2 hcS hulq hform hul
  go_enter Try.func32, Try.ntmps32
  go_wp2_with (first
    | (go_at_call 32; (refine C1.out.mono ?_); clear C1; rintro e1 w1 ⟨wv1, pp, rfl, hm1, hs1, hr1⟩; have hz1 := at7_keep (hs1.block _ HC.out.2.2.2 HC.out.2.2.1.1.1 HC.out.2.2.1.1.2) rfl HC.out.1; have hI1 := HC.out.2.1.keep (now_keepR hs1); have AC := hid (arm_of hr1 (by rw [HUL.out]; exact hz1) hI1 (by rw [HUL.out]; exact HH.out.1) HH.out.2); clear z0 z1 z2 z3 z4 z5 z6 x0 x1 x2 x3 hlM hlc; obtain ⟨x0, x1, x2, x3⟩ := hm1.blk.four; have hlM := hm1.blk.lt; have D1 := hid (And.intro hm1 (And.intro hs1 hz1)); clear hm1 hs1 hr1 hz1 hI1)
    | (go_at_call 41; (refine (AC.out.1 H2.out).mono ?_); clear AC; rintro e2 w2 ⟨rfl, b2⟩; have D2 := hid (D1.out.1.below b2); have B2 := hid b2; clear b2)
    | (go_at_call 40; (refine (r21_stops (Now T w) M F s' ws' wv1 (-1) _ D2.out).mono ?_); rintro e3 w3 hE; obtain ⟨pp3, rfl⟩ := hE.ptr; have R := hid hE; clear hE))
  go_ret
  exact R.out.hop (D1.out.2.1.below B2.out)
set_option maxHeartbeats 8000000 in
set_option maxRecDepth 100000 in
theorem sw_okR (F g : Nat) (IH : EvR F g) (T : Nat → Prop) (w : World) (M s : Nat) (ws : List Int) (wv : Value) (cp : Addr) (x y n : Int) (i : Bool) (ts : List Int) (a : Co) (rest : List Co) (e : En) (ep : Option Addr) (s' : Nat) (ws' : List Int) (hm : RSt w M F s 0 ws wv) (hc : CPt w (SfT M wv T) cp (.mk 9 x y n i ts (a :: rest))) (he : REAt w (SfT M wv T) e ep) (hfa : FoT a) (u : Va) (d : Co) (s1 : Nat) (ws1 : List Int) (o : Out Va) (hform : rest.length = ts.length ∨ rest.length = ts.length + 1) (hfr : ∀ c ∈ rest, FoT c) (h1 : Ev.ev F g a e s ws = some (.ok u, s1, ws1)) (h2 : arm i ts rest u = some d) (h3 : Ev.ev F g d e s1 ws1 = some (o, s', ws')) : Calls Try.prog 32 #[.pointer (some ⟨M, 0, none⟩), .pointer (some cp), .pointer ep] w (EvQ T o F s' ws' M wv w) := by
  obtain ⟨x0, x1, x2, x3⟩ := hm.blk.four
  have hlM := hm.blk.lt
  obtain ⟨T0, tc, A, c, ⟨z0, z1, z2, z3, z4, z5, z6⟩, hI, hsz, hrow, hwf⟩ := hc.cells
  have hlc := cell_lt z0
  have hcS := hc.1
  obtain ⟨ad, rfl, ha⟩ := first_pt hrow
  have hln : (0 : Int) < ((a :: rest).length : Nat) := by simp
  have hul := hsz.2.2.2
  obtain ⟨ul, hulq⟩ : ∃ ul, (a :: rest).length = ul := ⟨_, rfl⟩
  rw [hulq] at z6 hln hul
  have C1 := hid ((IH a e s ws _ _ _ h1 hfa T w M ad ep wv hm ha he).mono (fun _ _ h => evq_okR h))
  have HC := hid (And.intro (And.intro z0 (And.intro z1 (And.intro z2 (And.intro z3 (And.intro z4 (And.intro z5 z6)))))) (And.intro hI (And.intro hcS hlc)))
  have HUL := hid (show rest.length + 1 = ul by rw [← hulq]; rfl)
  have HH := hid (And.intro hul hform)
  have H2 := hid (And.intro h2 (And.intro h3 (And.intro hfr (And.intro hrow he))))
  clear hm hc hI hsz hrow hwf he hfa ha h1 h2 h3 hcS hulq hform hul hfr
  go_enter Try.func32, Try.ntmps32
  go_wp2_with (first
    | (go_at_call 32; (refine C1.out.mono ?_); clear C1; rintro e1 w1 ⟨wv1, pp, rfl, hm1, hs1, hr1⟩; have hz1 := at7_keep (hs1.block _ HC.out.2.2.2 HC.out.2.2.1.1.1 HC.out.2.2.1.1.2) rfl HC.out.1; have hI1 := HC.out.2.1.keep (now_keepR hs1); have AC := hid (arm_of hr1 (by rw [HUL.out]; exact hz1) hI1 (by rw [HUL.out]; exact HH.out.1) HH.out.2); clear z0 z1 z2 z3 z4 z5 z6 x0 x1 x2 x3 hlM hlc; obtain ⟨x0, x1, x2, x3⟩ := hm1.blk.four; have hlM := hm1.blk.lt; have D1 := hid (And.intro hm1 (And.intro hs1 hz1)); clear hm1 hs1 hr1 hz1 hI1)
    | (go_at_call 41; (obtain ⟨j, hj, CA⟩ := AC.out.2 d H2.out.1); (refine CA.mono ?_); clear AC CA; rintro e2 w2 ⟨rfl, b2⟩; (have hjl := (List.getElem?_eq_some_iff.1 hj).1); (have hje := (List.getElem?_eq_some_iff.1 hj).2); (obtain ⟨jj, hjj⟩ : ∃ jj, j + 1 = jj := ⟨_, rfl⟩); rw [hjj]; (have hj1 : (jj : Int) < ul := by have := HUL.out; omega); (have hj0 : (0 : Int) ≤ (jj : Int) := by omega); (have hjn : ¬ (jj : Int) < 0 := by omega); have HJ := hid (show d ∈ rest by rw [← hje]; exact List.getElem_mem _); (obtain ⟨ad2, e9, hpt⟩ := H2.out.2.2.2.1.pt (j := jj) (by rw [← hjj]; simpa using hjl)); (injection e9 with e9); subst e9; (have kc := now_keepR (T := T) (D1.out.2.1.below b2)); (have e5 : (a :: rest)[jj]'(by rw [← hjj]; simpa using hjl) = d := by (subst hjj; exact hje)); (rw [e5] at hpt); (have hpt2 := CPt.keep hpt kc); have E2 := hid (And.intro hpt2 (REAt.keep kc _ _ H2.out.2.2.2.2)); (obtain ⟨z0, z1, z2, z3, z4, z5, z6⟩ := at7_keep (b2.block _ (cell_lt D1.out.2.2.1)) rfl D1.out.2.2); have hlc := cell_lt z0; have D2 := hid (D1.out.1.below b2); have B2 := hid b2; clear b2 hpt hpt2 kc e5 hjj hje hjl hj)
    | (go_at_call 32; (refine (IH d e s1 ws1 o s' ws' H2.out.2.1 (H2.out.2.2.1 d HJ.out) (Now T w) _ M _ ep wv1 D2.out E2.out.1 E2.out.2).mono ?_); rintro e3 w3 hE; obtain ⟨pp3, rfl⟩ := hE.ptr; have R := hid hE; clear hE))
  go_ret
  exact R.out.hop (D1.out.2.1.below B2.out)
end Go.Proofs.Ytohdaclbgedeiaa
/-
  THE WALK OF athanorref21's eval: A CONSTRUCTOR.
-/
namespace Go.Proofs.Ytohdaclbgedeiaa
set_option linter.all false
open Go.ChangeShapes Go.WideShapes Go.ChangeAt Go.RowKit
open Ev (Co Va En Out evL ev evS R bnd)
theorem RSt.keepB {w w' : World} {M F s : Nat} {en : Int} {ws : List Int} {wv : Value} (h : RSt w M F s en ws wv) (hM : w'.heap[M]? = w.heap[M]?) (hO : ∀ g, wv.ownBlock = some g → w'.heap[g]? = w.heap[g]?) : RSt w' M F s en ws wv :=
  ⟨hM.trans h.blk, ⟨row_keep h.own.own hO, h.own.wf⟩, h.hF, h.hs, h.hw⟩
theorem MStep.setFar {M : Nat} {wv wv1 u : Value} {w w2 : World} {p : Addr} (h : MStep M wv wv1 w w2) (hp : w.heap.size ≤ p.block) : MStep M wv wv1 w (w2.setCell p u) :=
  ⟨h.os, h.tape, h.output, by have := h.size; simp [World.setCell]; omega, fun k hk hM hn => (Below.heap_setCell w2 p u k (by omega)).trans (h.block k hk hM hn), h.own⟩
/-- A constructor that is being built: its block behind w, its parts' row behind that. -/
structure ConB (w : World) (M : Nat) (wv : Value) (n : Int) (q : Nat) (lv wvi : Value) (xs : List Value) (wr : World) : Prop where
  st : MStep M wv wvi w wr
  own0 : ∀ g, wvi.ownBlock = some g → wv.ownBlock = some g ∨ w.heap.size + 1 ≤ g
  blk : Blk wr w.heap.size 60 #[.bool false, .int .i64 n, lv, .int .i64 0, .int .i64 0, .pointer none, .pointer none]
  row : wr.ownsRow (w.heap.size + 1) 55 1 lv q xs
  out : ∀ g, lv.ownBlock = some g → Sf M wvi g
/-- Its block is none of the runner's. -/
theorem ConB.sfP {w wr : World} {M F s : Nat} {ws : List Int} {wv lv wvi : Value} {n : Int} {q : Nat} {xs : List Value} (h : ConB w M wv n q lv wvi xs wr) (hm : RSt w M F s 0 ws wv) : Sf M wvi w.heap.size := ⟨fun e => by have := hm.blk.lt; omega, fun e => by
  rcases h.own0 _ e with e2 | e2
  · have := (hm.own.own.lt _ e2).2; omega
  · omega⟩
theorem ConB.called {w wr w1 : World} {M F s : Nat} {ws : List Int} {wv lv wvi wv1 : Value} {n : Int} {q : Nat} {xs : List Value} (h : ConB w M wv n q lv wvi xs wr) (hm : RSt w M F s 0 ws wv) (hs : MStep M wvi wv1 wr w1) : ConB w M wv n q lv wv1 xs w1 := by
  have hP := h.sfP hm
  have hl := h.blk.lt
  refine ⟨h.st.trans hs, fun g hg => ?_, blk_keep h.blk (fun hl => hs.block _ hl hP.1 hP.2), row_keep h.row (fun g hg => hs.block g (h.row.lt g hg).2 (h.out g hg).1 (h.out g hg).2), fun g hg => (hs.keeps g (h.out g hg) (h.row.lt g hg).2).2⟩
  rcases hs.own g hg with e | e
  · exact h.own0 g e
  · exact .inr (by omega)
theorem ConB.next {w w1 w2 : World} {M F s s1 : Nat} {en : Int} {ws ws1 : List Int} {wv lv lv' wv1 v : Value} {n : Int} {q : Nat} {xs : List Value} {o : Obj} (h : ConB w M wv n q lv wv1 xs w1) (hm : RSt w M F s 0 ws wv) (hm1 : RSt w1 M F s1 en ws1 wv1)
    (hr : w2.ownsRow (w.heap.size + 1) 55 1 lv' (q + 1) (xs ++ [v])) (hg : (w1.alloc o).grownBy w2 lv.ownBlock) (hn : ∀ g, lv'.ownBlock = some g → lv.ownBlock = some g ∨ (w1.alloc o).heap.size ≤ g) :
    ConB w M wv n (q + 1) lv' wv1 (xs ++ [v]) (w2.setCell ⟨w.heap.size, 2, none⟩ lv') ∧ RSt (w2.setCell ⟨w.heap.size, 2, none⟩ lv') M F s1 en ws1 wv1 ∧ ∀ k, k < w1.heap.size → k ≠ w.heap.size → lv.ownBlock ≠ some k → (w2.setCell ⟨w.heap.size, 2, none⟩ lv').heap[k]? = w1.heap[k]? := by
  have hP := h.sfP hm
  have hl := h.blk.lt
  have hlo : ∀ g, lv.ownBlock = some g → w.heap.size + 1 ≤ g := fun g e => (h.row.lt g e).1
  have hk : ∀ k, k < w1.heap.size → lv.ownBlock ≠ some k → w2.heap[k]? = w1.heap[k]? := fun k hk hne => (hg.block k (by simp; omega) (fun e => hne e.symm)).trans (Below.heap_alloc _ _ _ hk)
  have hk2 : ∀ k, k < w1.heap.size → k ≠ w.heap.size → lv.ownBlock ≠ some k → (w2.setCell ⟨w.heap.size, 2, none⟩ lv').heap[k]? = w1.heap[k]? := fun k hk' hne hno => (Below.heap_setCell w2 ⟨w.heap.size, 2, none⟩ lv' k hne).trans (hk k hk' hno)
  have hbP : Blk w2 w.heap.size 60 #[.bool false, .int .i64 n, lv, .int .i64 0, .int .i64 0, .pointer none, .pointer none] := (hk _ hl (fun e => by have := hlo _ e; omega)).trans h.blk
  refine ⟨⟨(h.st.other hg (fun g e => by have := hlo g e; omega)).setFar (Nat.le_refl _), h.own0, hbP.set_ 2 _, ownsRow_setCell_below hr (a := ⟨w.heap.size, 2, none⟩) (Nat.lt_succ_self _) _, fun g e => ?_⟩, hm1.keepB (hk2 M hm1.blk.lt hP.1.symm (fun e => (h.out M e).1 rfl)) (fun g e => hk2 g (hm1.own.own.lt g e).2 (fun e2 => by subst e2; exact hP.2 e) (fun e2 => (h.out g e2).2 e)), hk2⟩
  rcases hn g e with e2 | e2
  · exact h.out g e2
  · exact hm1.sf (by simp at e2; omega)
/-- Its parts so far. -/
def ConK (w : World) (M : Nat) (T : Nat → Prop) (lv wvi : Value) (xs : List Value) (ds : List Va) (wr : World) : Prop := ∀ j, (h : j < ds.length) → ∃ v, xs[j]? = some v ∧ RAt wr (fun b => SfT M wvi (Now T w) b ∧ b ≠ w.heap.size ∧ lv.ownBlock ≠ some b) (ds[j]'h) v
theorem ConK.next {w w1 w3 : World} {M : Nat} {T : Nat → Prop} {lv lv' wv1 v : Value} {xs : List Value} {ds : List Va} {u : Va} (h : ConK w M T lv wv1 xs ds w1) (hx : xs.length = ds.length) (hu : RAt w1 (fun b => SfT M wv1 (Now T w) b ∧ b ≠ w.heap.size ∧ lv.ownBlock ≠ some b) u v)
    (hk : ∀ k, k < w1.heap.size → k ≠ w.heap.size → lv.ownBlock ≠ some k → w3.heap[k]? = w1.heap[k]?) (hn : ∀ g, lv'.ownBlock = some g → lv.ownBlock = some g ∨ w1.heap.size ≤ g) : ConK w M T lv' wv1 (xs ++ [v]) (ds ++ [u]) w3 := by
  have hkk : ∀ k, (SfT M wv1 (Now T w) k ∧ k ≠ w.heap.size ∧ lv.ownBlock ≠ some k) → k < w1.heap.size → w3.heap[k]? = w1.heap[k]? ∧ (SfT M wv1 (Now T w) k ∧ k ≠ w.heap.size ∧ lv'.ownBlock ≠ some k) := fun k hk' hl => ⟨hk k hl hk'.2.1 hk'.2.2, hk'.1, hk'.2.1, fun e => by
    rcases hn k e with e | e
    · exact hk'.2.2 e
    · omega⟩
  intro j hj
  by_cases hjj : j < ds.length
  · obtain ⟨v2, h1, h2⟩ := h j hjj
    refine ⟨v2, by rw [List.getElem?_append_left (by omega)]; exact h1, ?_⟩
    have e : (ds ++ [u])[j]'hj = ds[j]'hjj := List.getElem_append_left hjj
    rw [e]
    exact RAt.keep hkk _ _ h2
  · have hjl : j = ds.length := by simp at hj; omega
    subst hjl
    refine ⟨v, by rw [List.getElem?_append_right (by omega), hx]; simp, ?_⟩
    have e : (ds ++ [u])[ds.length]'hj = u := by simp
    rw [e]
    exact RAt.keep hkk _ _ hu
theorem ConK.called {w wr w1 : World} {M : Nat} {T : Nat → Prop} {lv wvi wv1 : Value} {xs : List Value} {ds : List Va} (h : ConK w M T lv wvi xs ds wr) (hs : MStep M wvi wv1 wr w1) : ConK w M T lv wv1 xs ds w1 := fun j hj => by
  obtain ⟨v, h1, h2⟩ := h j hj
  exact ⟨v, h1, RAt.keep (fun k hk hl => ⟨(hs.keepT k hk.1 hl).1, (hs.keepT k hk.1 hl).2, hk.2⟩) _ _ h2⟩
end Go.Proofs.Ytohdaclbgedeiaa
/-
  THE WALK OF athanorref21's eval: A CONSTRUCTOR.
-/
namespace Go.Proofs.Ytohdaclbgedeiaa
set_option linter.all false
open Go.ChangeShapes Go.WideShapes Go.ChangeAt Go.RowKit
open Ev (Co Va En Out evL ev evS R bnd)
/-- So far all parts have values, or an evaluation has stopped. -/
def Mode (w : World) (M F : Nat) (T : Nat → Prop) (f : Co → Nat → List Int → R Va) (us : List Co) (r : Out (List Va)) (s' : Nat) (ws' : List Int) (q : Nat) (lv wvi : Value) (xs : List Value) (wr : World) : Prop :=
  (∃ ds si wsi r2, RSt wr M F si 0 wsi wvi ∧ evL f (us.drop q) si wsi = some (r2, s', ws') ∧ r = pre ds r2 ∧ ds.length = q ∧ ConK w M T lv wvi xs ds wr) ∨ (∃ k, k ≠ 0 ∧ r = .stop k ∧ RSt wr M F s' k ws' wvi)
def T1 (T : Nat → Prop) (w : World) : Nat → Prop := fun b => T b ∧ b < w.heap.size
theorem t1_keep {M : Nat} {wv wv1 : Value} {w w1 : World} {T : Nat → Prop} (h : MStep M wv wv1 w w1) : ∀ k, SfT M wv T k → k < w.heap.size → w1.heap[k]? = w.heap[k]? ∧ SfT M wv1 (T1 T w) k := fun k hk hl => ⟨(h.keepT k hk hl).1, (h.keepT k hk hl).2.1, hk.2, hl⟩
/-- What one more evaluation tells. -/
def CallP (w : World) (M F : Nat) (T : Nat → Prop) (f : Co → Nat → List Int → R Va) (us : List Co) (r : Out (List Va)) (s' : Nat) (ws' : List Int) (q : Nat) (lv wvi : Value) (xs : List Value) (wr : World) (e : Ending) (w1 : World) : Prop :=
  ∃ wv1 pp, e = .returned (.pointer pp) ∧ MStep M wvi wv1 wr w1 ∧ ∃ sA en wsA, RSt w1 M F sA en wsA wv1 ∧ ∀ lv' w3, RSt w3 M F sA en wsA wv1 → (∀ k, k < w1.heap.size → k ≠ w.heap.size → lv.ownBlock ≠ some k → w3.heap[k]? = w1.heap[k]?) → (∀ g, lv'.ownBlock = some g → lv.ownBlock = some g ∨ w1.heap.size ≤ g) → Mode w M F T f us r s' ws' (q + 1) lv' wv1 (xs ++ [.pointer pp]) w3
theorem mode_call (F g : Nat) (IH : EvR F g) (T : Nat → Prop) (w : World) (M : Nat) (wv : Value) (us : List Co) (e : En) (ep : Option Addr) (r : Out (List Va)) (s' : Nat) (ws' : List Int) (n : Int) (q : Nat) (lv wvi : Value) (xs : List Value) (wr : World) (cp : Addr) (hq : q < us.length) (hfr : ∀ c ∈ us, FoT c) (hcp : CPt w (SfT M wv T) cp us[q]) (he : REAt w (SfT M wv T) e ep) (hB : ConB w M wv n q lv wvi xs wr) (hx : xs.length = q)
    (hM : Mode w M F T (fun c s w => ev F g c e s w) us r s' ws' q lv wvi xs wr) : Calls Try.prog 32 #[.pointer (some ⟨M, 0, none⟩), .pointer (some cp), .pointer ep] wr.drew (CallP w M F T (fun c s w => ev F g c e s w) us r s' ws' q lv wvi xs wr) := by
  have hd : Below wr.heap.size wr wr.drew := (Below.refl _ _).drew
  rcases hM with ⟨ds, si, wsi, r2, hm, hE, hr, hl, hK⟩ | ⟨k, hk, hr, hm⟩
  · rw [List.drop_eq_getElem_cons hq] at hE
    have hkeep := t1_keep (T := T) (hB.st.below hd)
    rcases evL_cons hE with ⟨j, h1, h2⟩ | ⟨v, s1, w1', r3, h1, h2, h3⟩
    · refine (IH us[q] e si wsi _ _ _ h1 (hfr _ (List.getElem_mem hq)) (T1 T w) wr.drew M cp ep wvi (hm.below hd) (hcp.keep hkeep) (REAt.keep hkeep _ _ he)).mono (fun e9 w1 h => ?_)
      obtain ⟨wv1, pp, rfl, hm1, hs1⟩ := evq_stR h
      refine ⟨wv1, pp, rfl, ((MStep.refl M wvi wr).below hd).trans hs1, s', j, ws', hm1, fun lv' w3 h3 _ _ => .inr ⟨j, Ev.stop_ne h1, by rw [hr, h2]; rfl, h3⟩⟩
    · refine (IH us[q] e si wsi _ _ _ h1 (hfr _ (List.getElem_mem hq)) (T1 T w) wr.drew M cp ep wvi (hm.below hd) (hcp.keep hkeep) (REAt.keep hkeep _ _ he)).mono (fun e9 w1 h => ?_)
      obtain ⟨wv1, pp, rfl, hm1, hs1, hr1⟩ := evq_okR h
      have hs := ((MStep.refl M wvi wr).below hd).trans hs1
      refine ⟨wv1, pp, rfl, hs, s1, 0, w1', hm1, fun lv' w3 h4 h5 h6 => .inl ⟨ds ++ [v], s1, w1', r3, h4, h2, by rw [hr, h3, pre_pre], by simp [hl], ?_⟩⟩
      refine (hK.called hs).next (by omega) (RAt.keep (fun b hb _ => ⟨rfl, ⟨hb.1, ?_⟩, ?_, ?_⟩) _ _ hr1) h5 h6
      · rcases hb.2 with h7 | h7
        · exact .inl h7.1
        · exact .inr (Nat.le_trans (hB.st.below hd).size h7)
      · rcases hb.2 with h7 | h7
        · have := h7.2; omega
        · have := hB.blk.lt; have h8 : wr.heap.size ≤ b := h7; omega
      · intro e9
        have := hB.row.lt b e9
        rcases hb.2 with h7 | h7
        · have := h7.2; omega
        · have h8 : wr.heap.size ≤ b := h7; omega
  · refine (r21_idle M F s' k ws' wvi (.pointer (some cp)) (.pointer ep) wr.drew (hm.below hd) hk).mono (fun e9 w1 h => ?_)
    obtain ⟨⟨pp, rfl⟩, hb⟩ := h
    exact ⟨wvi, pp, rfl, ((MStep.refl M wvi wr).below hd).below hb, s', k, ws', (hm.below hd).below hb, fun lv' w3 h3 _ _ => .inr ⟨k, hk, hr, h3⟩⟩
/-- What a constructor comes to. -/
def conR (n : Int) : Out (List Va) → Out Va
  | .ok vs => .ok (.con n vs)
  | .stop k => .stop k
theorem evR_con {F g : Nat} {x y n : Int} {i : Bool} {ts : List Int} {us : List Co} {e : En} {s : Nat} {ws : List Int} {o : Out Va} {s' : Nat} {ws' : List Int} (h : ev F (g + 1) (.mk 7 x y n i ts us) e s ws = some (o, s', ws')) : ∃ r, evL (fun c s w => ev F g c e s w) us s ws = some (r, s', ws') ∧ o = conR n r := by
  have h2 : bnd (evL (fun c s w => ev F g c e s w) us s ws) (fun vs s1 w1 => some (.ok (.con n vs), s1, w1)) = some (o, s', ws') := h
  rcases Ev.bnd_some h2 with ⟨k, h1, rfl⟩ | ⟨vs, s1, w1, h1, h3⟩
  · exact ⟨_, h1, rfl⟩
  · injection h3 with h3; injection h3 with h4 h3; injection h3 with h5 h6
    subst h4 h5 h6
    exact ⟨_, h1, rfl⟩
theorem con_start {w : World} {M F s : Nat} {ws : List Int} {wv : Value} {n : Int} {T : Nat → Prop} {f : Co → Nat → List Int → R Va} {us : List Co} {r : Out (List Va)} {s' : Nat} {ws' : List Int} (hm : RSt w M F s 0 ws wv) (hE : evL f us s ws = some (r, s', ws')) :
    ConB w M wv n 0 (.slice none 0 0) wv [] (w.alloc (.cells #[.bool false, .int .i64 n, .slice none 0 0, .int .i64 0, .int .i64 0, .pointer none, .pointer none] 60)) ∧ Mode w M F T f us r s' ws' 0 (.slice none 0 0) wv [] (w.alloc (.cells #[.bool false, .int .i64 n, .slice none 0 0, .int .i64 0, .int .i64 0, .pointer none, .pointer none] 60)) := by
  refine ⟨⟨(MStep.refl M wv w).below (al1 _ _), fun g h => .inl h, Blk.new _ _ _, World.ownsRow_nil _ _ _ _, fun g h => by simp [Value.ownBlock] at h⟩, .inl ⟨[], s, ws, r, hm.below (al1 _ _), by simpa using hE, by cases r <;> simp [pre], rfl, fun j hj => by simp at hj⟩⟩
/-- The constructor, done. -/
theorem con_done {w wr : World} {M F s : Nat} {ws : List Int} {wv wvi : Value} {A : Option Addr} {c : Nat} {n : Int} {T : Nat → Prop} {f : Co → Nat → List Int → R Va} {us : List Co} {r : Out (List Va)} {s' : Nat} {ws' : List Int} {xs : List Value} (hm : RSt w M F s 0 ws wv) (hn : (Lit.int .i64 n).wf = true) (hul : us.length ≤ 17592186044416) (hB : ConB w M wv n us.length (.slice A us.length c) wvi xs wr) (hx : xs.length = us.length)
    (hM : Mode w M F T f us r s' ws' us.length (.slice A us.length c) wvi xs wr) : EvQ T (conR n r) F s' ws' M wv w (.returned (.pointer (some ⟨w.heap.size, 0, none⟩))) wr := by
  rcases hM with ⟨ds, si, wsi, r2, hm1, hE, hr, hl, hK⟩ | ⟨k, hk, hr, hm1⟩
  · rw [List.drop_length, evL] at hE
    injection hE with hE; injection hE with h1 hE; injection hE with h2 h3
    subst h1 h2 h3
    have hr' : r = .ok ds := by rw [hr]; simp [pre]
    subst hr'
    refine ⟨wvi, hm1, hB.st, _, rfl, ?_⟩
    rw [RAt]
    refine ⟨⟨w.heap.size, A, c, rfl, ⟨hB.sfP hm, .inr (Nat.le_refl _)⟩, by rw [hl]; exact hB.blk, ?_⟩, hn, by omega⟩
    have hrow := hB.row
    rcases hB.row.2 with ⟨e, h0⟩ | ⟨g, cap, cur, e, hBg, hg, hc, hcm, hs, ht⟩
    · have : ds = [] := List.length_eq_zero_iff.1 (by omega)
      subst this
      rw [RRow]; trivial
    · injection e with e1 e2 e3
      subst e1
      refine RRow.mk (by exact ⟨hB.out g rfl, .inr (by have := (hB.row.lt g rfl).1; show w.heap.size ≤ g; omega)⟩) ds 0 (fun j hj => ?_)
      obtain ⟨v, h1, h2⟩ := hK j hj
      refine ⟨v, ?_, RAt.keep (fun k hk _ => ⟨rfl, hk.1⟩) _ _ h2⟩
      rw [Nat.zero_add]
      exact hrow.cells (g := g) rfl j v h1
  · subst hr
    exact ⟨wvi, hm1, hB.st, _, rfl⟩
/-- The cells of what is being built. -/
theorem ConB.cells {w wr : World} {M : Nat} {wv lv wvi : Value} {n : Int} {q : Nat} {xs : List Value} (h : ConB w M wv n q lv wvi xs wr) : wr.cell? ⟨w.heap.size, 2, none⟩ = some lv ∧ wr.frozen? ⟨w.heap.size, 2, none⟩ = false ∧ w.heap.size < wr.heap.size := ⟨h.blk.cell 2, h.blk.frozen 2, h.blk.lt⟩
theorem con_cells {w w1 w2 : World} {M : Nat} {wv lv wv1 : Value} {n : Int} {q : Nat} {xs : List Value} {o : Obj} (h : ConB w M wv n q lv wv1 xs w1) (hg : (w1.alloc o).grownBy w2 lv.ownBlock) : w2.cell? ⟨w.heap.size, 2, none⟩ = some lv ∧ w2.frozen? ⟨w.heap.size, 2, none⟩ = false ∧ w.heap.size < w2.heap.size := by
  have hl := h.blk.lt
  have hb : Blk w2 w.heap.size 60 #[.bool false, .int .i64 n, lv, .int .i64 0, .int .i64 0, .pointer none, .pointer none] := ((hg.block _ (by simp; omega) (fun e => by have := (h.row.lt _ e.symm).1; omega)).trans (Below.heap_alloc _ _ _ hl)).trans h.blk
  exact ⟨hb.cell 2, hb.frozen 2, hb.lt⟩
theorem con_old {w w1 w2 : World} {M : Nat} {wv lv wv1 : Value} {n : Int} {q : Nat} {xs : List Value} {o : Obj} {p : Addr} {v : Value} (h : ConB w M wv n q lv wv1 xs w1) (hg : (w1.alloc o).grownBy w2 lv.ownBlock) (hp : p.block < w.heap.size) (hc : w1.cell? p = some v) : w2.cell? p = some v := by
  have hl := h.blk.lt
  exact cell_of ((hg.block _ (by simp; omega) (fun e => by have := (h.row.lt _ e.symm).1; omega)).trans (Below.heap_alloc _ _ _ (by omega))) rfl hc
set_option maxHeartbeats 8000000 in
set_option maxRecDepth 100000 in
theorem r_con (F g : Nat) (IH : EvR F g) (T : Nat → Prop) (w : World) (M s : Nat) (ws : List Int) (wv : Value) (cp : Addr) (x y n : Int) (i : Bool) (ts : List Int) (us : List Co) (e : En) (ep : Option Addr) (o : Out Va) (s' : Nat) (ws' : List Int) (hm : RSt w M F s 0 ws wv) (hc : CPt w (SfT M wv T) cp (.mk 7 x y n i ts us)) (he : REAt w (SfT M wv T) e ep) (hfr : ∀ c ∈ us, FoT c) (hE : ev F (g + 1) (.mk 7 x y n i ts us) e s ws = some (o, s', ws')) :
    Calls Try.prog 32 #[.pointer (some ⟨M, 0, none⟩), .pointer (some cp), .pointer ep] w (EvQ T o F s' ws' M wv w) := by
  obtain ⟨x0, x1, x2, x3⟩ := hm.blk.four
  have hlM := hm.blk.lt
  obtain ⟨T0, tc, A, c, ⟨z0, z1, z2, z3, z4, z5, z6⟩, hI, hsz, hrow, hwf⟩ := hc.cells
  have hlc := cell_lt z0
  have hcS := hc.1
  obtain ⟨r, hR, rfl⟩ := evR_con hE
  have hlen := evL_len hR
  have HM := hid (And.intro hm (And.intro hrow (And.intro he (And.intro hfr (And.intro hwf.2.2.2 (And.intro hcS z6))))))
  have HS := hid (con_start (n := n) (T := T) hm hR)
  have HL := hid hlen
  have hul : us.length ≤ 281474976710656 := by omega
  have hcP : ¬ cp.block = w.heap.size := by omega
  have hcP2 : ¬ w.heap.size = cp.block := by omega
  have HLC := hid hlc
  clear hm hc hI hsz hrow hwf he hfr hE hR hcS hlen
  obtain ⟨P, hP⟩ : ∃ P, conR n r = P := ⟨_, rfl⟩
  rw [hP]
  have HP := hid hP
  clear hP
  go_enter Try.func32, Try.ntmps32
  go_wp2
  go_loopg [13] us.length (fun gg z wr => ∃ (q : Nat) (A8 : Option Addr) (c8 : Nat) (wvi : Value) (xs : List Value), q + gg = us.length ∧ z = .int .i64 q ∧ Hid (ConB w M wv n q (.slice A8 q c8) wvi xs wr) ∧ Hid (xs.length = q ∧ Mode w M F T (fun c s w => ev F g c e s w) us r s' ws' q (.slice A8 q c8) wvi xs wr))
  case atStart => exact ⟨0, none, 0, wv, [], by omega, rfl, hid HS.out.1, hid ⟨rfl, HS.out.2⟩⟩
  case round =>
    clear x0 x1 x2 x3 hlM z0 z1 z2 z3 z4 z5 z6 hlc
    obtain ⟨q, A8, c8, wvi, xs, hq, rfl, hB, hMo⟩ := hrel
    have Hq := hid hq
    obtain ⟨k2, f2, hlP⟩ := hB.out.cells
    have z6 : wr.cell? ⟨cp.block, cp.off + 6, none⟩ = some (.slice A us.length c) := hB.out.st.cellR HM.out.2.2.2.2.2.1 HM.out.2.2.2.2.2.2
    have hlc := cell_lt z6
    by_cases hlt : q < us.length
    case neg =>
      obtain rfl : q = us.length := by omega
      clear hq
      go_wp2
      go_ret
      rw [← HP.out]
      exact con_done HM.out.1 HM.out.2.2.2.2.1 (by have := HL.out; omega) hB.out hMo.out.1 hMo.out.2
    have hlt' : (q : Int) < us.length := by omega
    have hq0 : (0 : Int) ≤ q := by omega
    obtain ⟨ad, hA, hpt⟩ := HM.out.2.1.pt hlt
    subst hA
    have C1 := hid (mode_call F g IH T w M wv us e ep r s' ws' n q (.slice A8 q c8) wvi xs wr (ad.add (q * 7)) hlt HM.out.2.2.2.1 hpt HM.out.2.2.1 hB.out hMo.out.1 hMo.out.2)
    have HLT := hid hlt
    clear hq hpt
    have HSC := hid (hB.out.st.keepT cp.block HM.out.2.2.2.2.2.1 HLC.out).2
    go_wp2
    have HS := hid (show wr.drew.cell? ⟨cp.block, cp.off + 6, none⟩ = some (.slice (some ad) us.length c) ∧ wr.drew.cell? ⟨w.heap.size, 2, none⟩ = some (.slice A8 q c8) from ⟨z6, k2⟩)
    refine wp_region_T (n := 18) (S := fun w' => w'.cell? ⟨cp.block, cp.off + 6, none⟩ = some (.slice (some ad) us.length c) ∧ w'.cell? ⟨w.heap.size, 2, none⟩ = some (.slice A8 q c8)) (by kernel_rfl) ?_
    refine wpAnyT_takeW (i := 0) (v := .pointer (some ⟨w.heap.size, 0, none⟩)) rfl (by decide) (by kernel_rfl) (fun _ _ _ h => h) (.inl ⟨by simp [Region.wanted], fun w7 _ => ?_⟩) (fun _ => HS.out) ?_
    · go_simp
    refine wpAnyT_takeW (i := 1) (v := .pointer (some ⟨w.heap.size, 0, none⟩)) rfl (by decide) (by kernel_rfl) (fun _ _ _ h => h) (.inl ⟨by simp [Region.wanted], fun w7 _ => ?_⟩) (fun _ => HS.out) ?_
    · go_simp
    refine wpAnyT_takeW (i := 2) (v := .pointer (some ⟨w.heap.size, 0, none⟩)) rfl (by decide) (by kernel_rfl) (fun _ _ _ h => h) (.inl ⟨by simp [Region.wanted], fun w7 _ => ?_⟩) (fun _ => HS.out) ?_
    · go_simp
    refine wpAnyT_takeW (i := 3) (v := .pointer (some ⟨w.heap.size, 2, none⟩)) rfl (by decide) (by kernel_rfl) (fun _ _ _ h => h) (.inl ⟨by simp [Region.wanted], fun w7 _ => ?_⟩) (fun _ => HS.out) ?_
    · go_simp
    refine wpAnyT_takeW (i := 5) (v := .pointer (some ⟨M, 0, none⟩)) rfl (by decide) (by kernel_rfl) (fun _ _ _ h => h) (.inl ⟨by simp [Region.wanted], fun w7 _ => ?_⟩) (fun _ => HS.out) ?_
    · go_simp
    refine wpAnyT_takeW (i := 6) (v := .pointer (some cp)) rfl (by decide) (by kernel_rfl) (fun _ _ _ h => h) (.inl ⟨by simp [Region.wanted], fun w7 _ => ?_⟩) (fun _ => HS.out) ?_
    · go_simp
    refine wpAnyT_takeW (i := 7) (v := .pointer (some cp)) rfl (by decide) (by kernel_rfl) (fun _ _ _ h => h) (.inl ⟨by simp [Region.wanted], fun w7 _ => ?_⟩) (fun _ => HS.out) ?_
    · go_simp
    refine wpAnyT_takeW (i := 8) (v := .pointer (some ⟨cp.block, cp.off + 6, none⟩)) rfl (by decide) (by kernel_rfl) (fun _ _ _ h => h) (.inl ⟨by simp [Region.wanted], fun w7 _ => ?_⟩) (fun _ => HS.out) ?_
    · go_simp
    refine wpAnyT_takeW (i := 10) (v := .int .i64 q) rfl (by decide) (by kernel_rfl) (fun _ _ _ h => h) (.inl ⟨by simp [Region.wanted], fun w7 _ => ?_⟩) (fun _ => HS.out) ?_
    · go_simp
    refine wpAnyT_takeW (i := 12) (v := .pointer ep) rfl (by decide) (by kernel_rfl) (fun _ _ _ h => h) (.inl ⟨by simp [Region.wanted], fun w7 _ => ?_⟩) (fun _ => HS.out) ?_
    · go_simp
    refine wpAnyT_takeP (i := 4) (v := .slice A8 q c8) [15, 18] rfl (by decide) (by kernel_rfl) (fun _ _ _ h => h) (.inl ⟨by simp [Region.wanted], fun w7 hS7 => ?_⟩) HS.out ?_
    · (obtain ⟨s0, s1⟩ := hS7; go_simp)
    refine wpAnyT_takeP (i := 9) (v := .slice (some ad) us.length c) [11, 13, 14, 15, 18] rfl (by decide) (by kernel_rfl) (fun _ _ _ h => h) (.inl ⟨by simp [Region.wanted], fun w7 hS7 => ?_⟩) HS.out ?_
    · (obtain ⟨s0, s1⟩ := hS7; go_simp)
    refine wpAnyT_takeW (i := 11) (v := .pointer (some (ad.add (q * 7)))) rfl (by decide) (by kernel_rfl) (fun _ _ _ h => h) (.inl ⟨by simp [Region.wanted], fun w7 _ => ?_⟩) (fun _ => HS.out) ?_
    · go_simp
    refine wpAnyT_ready (rs := [13]) (by kernel_rfl) (by simp) ?_
    refine AllT.cons rfl (fun K' hK => ?_) AllT.nil
    go_simp
    go_wp2_with (go_at_call 32; (refine C1.out.mono ?_); rintro e1 w1 ⟨wv1, pp, rfl, hs1, sA, en, wsA, hm1, hnx⟩; have D1 := hid (And.intro (hB.out.called HM.out.1 hs1) (And.intro hm1 hnx)); (have k6 : w1.cell? ⟨cp.block, cp.off + 6, none⟩ = some (.slice (some ad) us.length c) := hs1.cellR HSC.out z6); (obtain ⟨k2b, f2b, hlPb⟩ := D1.out.1.cells); clear z6 k2 f2 hlP hlc; have hlc := cell_lt k6; clear hs1 hm1 hnx)
    refine hK.out _ _ (fun _ => ⟨k6, k2b⟩) ?_
    clear hK HS
    have HS := hid (And.intro k6 k2b)
    refine wpAnyT_ready (rs := [14]) (by kernel_rfl) (by simp) ?_
    refine AllT.cons rfl (fun K' hK => ?_) AllT.nil
    go_simp
    refine hK.out _ _ (fun _ => ⟨((al1 w1 _).cell (p := ⟨cp.block, cp.off + 6, none⟩) hlc).trans k6, ((al1 w1 _).cell (p := ⟨w.heap.size, 2, none⟩) hlPb).trans k2b⟩) ?_
    clear hK
    refine wpAnyT_ready (rs := [15]) (by kernel_rfl) (by simp) ?_
    refine AllT.cons rfl (fun K' hK => ?_) AllT.nil
    refine step_appP (by rfl) _ _ (by rfl) (w.heap.size + 1) (v := .slice A8 q c8) (n := q) (xs := xs) (by rfl) ?_ (ad := ⟨w1.heap.size, 0, none⟩) (c := 1) (u0 := .pointer pp) (by rfl) ?_ (by rfl) ?_ ?_ ?_; (· exact World.ownsRow.alloc D1.out.1.row _); (· exact (Blk.new w1 55 #[.pointer pp]).cell 0); (· have := HL.out; have := HLT.out; omega); (· have := D1.out.1.blk.lt; simp; omega); intro lv2 w2 hr hg hn; (obtain ⟨A9, c9, hv9⟩ := row_sliceG hr); subst hv9; have E1 := hid (And.intro hr (And.intro hg hn)); (obtain ⟨k2c, f2c, hlPc⟩ := con_cells D1.out.1 hg); (have k6c := con_old (p := ⟨cp.block, cp.off + 6, none⟩) D1.out.1 hg HLC.out k6); clear hr hg hn
    refine hK.out _ _ (fun _ => ⟨k6c, k2c⟩) ?_
    clear hK HS
    have HS := hid (And.intro k6c k2c)
    refine wpAnyT_takeW (i := 16) (v := .pointer (some ⟨w.heap.size, 0, none⟩)) rfl (by decide) (by kernel_rfl) (fun _ _ _ h => h) (.inl ⟨by simp [Region.wanted], fun w7 _ => ?_⟩) (fun _ => HS.out) ?_
    · go_simp
    refine wpAnyT_takeW (i := 17) (v := .pointer (some ⟨w.heap.size, 2, none⟩)) rfl (by decide) (by kernel_rfl) (fun _ _ _ h => h) (.inl ⟨by simp [Region.wanted], fun w7 _ => ?_⟩) (fun _ => HS.out) ?_
    · go_simp
    refine wpAnyT_ready (rs := [18]) (by kernel_rfl) (by simp) ?_
    refine AllT.cons rfl (fun K' hK => ?_) AllT.nil
    go_simp
    refine hK.out _ _ (fun h => absurd h (by decide)) ?_
    clear hK
    refine wpAnyT_done (by kernel_rfl) ?_ _
    all_goals
      go_wp2
      have hgk := Hq.out
      have hlt9 := HLT.out
      go_roundg (gk - 1)
      case rel =>
        have N := D1.out.1.next HM.out.1 D1.out.2.1 E1.out.1 E1.out.2.1 E1.out.2.2
        exact ⟨q + 1, A9, c9, wv1, xs ++ [.pointer pp], by omega, by go_num, hid N.1, hid ⟨by simp [hMo.out.1], D1.out.2.2 _ _ N.2.1 N.2.2 (fun g hg => (E1.out.2.2 g hg).imp id (fun h => by simp at h; omega))⟩⟩
      case measure => omega
end Go.Proofs.Ytohdaclbgedeiaa
/-
  athanorref21's eval, WHOLE.
-/
namespace Go.Proofs.Ytohdaclbgedeiaa
set_option linter.all false
open Go.ChangeShapes Go.WideShapes Go.ChangeAt Go.RowKit
open Ev (Co Va En Out evL ev evS R bnd formB)
/-- How many parts a node has. -/
theorem form_one {k x y n : Int} {i : Bool} {ts : List Int} {us : List Co} (h : formB k x y n i ts us.length = true) (hk : k = 8 ∨ k = 11) : ∃ a, us = [a] := by
  have : us.length = 1 := by
    unfold formB at h
    rcases hk with rfl | rfl
    · simp at h; exact h.1.1
    · simp at h; exact h.1.1
  exact List.length_eq_one_iff.1 this
theorem form_two {x y n : Int} {i : Bool} {ts : List Int} {us : List Co} (h : formB 10 x y n i ts us.length = true) : ∃ a b, us = [a, b] := by
  have : us.length = 2 := by
    unfold formB at h
    simp at h
    exact h.1.1
  match us, this with
  | [a, b], _ => exact ⟨a, b, rfl⟩
theorem form_sw {x y n : Int} {i : Bool} {ts : List Int} {a : Co} {rest : List Co} (h : formB 9 x y n i ts (a :: rest).length = true) : rest.length = ts.length ∨ rest.length = ts.length + 1 := by
  unfold formB Ev.taggedB at h
  simp at h
  omega
theorem evR_var {F g : Nat} {x y n : Int} {i : Bool} {ts : List Int} {us : List Co} {e : En} {s : Nat} {ws : List Int} {o : Out Va} {s' : Nat} {ws' : List Int} (h : ev F (g + 1) (.mk 1 x y n i ts us) e s ws = some (o, s', ws')) : ∃ v, e.find x = some v ∧ o = .ok v ∧ s' = s ∧ ws' = ws := by
  cases us with
  | cons _ _ => cases h
  | nil =>
    have h2 : (match e.find x with | some v => some (.ok v, s, ws) | none => none) = some (o, s', ws') := by
      rw [← h]
      show _ = evS F (ev F g) (.mk 1 x y n i ts []) e s ws
      unfold evS
      dsimp only
      rw [if_pos rfl]
      cases e.find x <;> rfl
    cases hf : e.find x with
    | none => rw [hf] at h2; cases h2
    | some v =>
      rw [hf] at h2
      injection h2 with h2; injection h2 with h3 h2; injection h2 with h4 h5
      exact ⟨v, rfl, h3.symm, h4.symm, h5.symm⟩
theorem evR_int {F g : Nat} {x y n : Int} {i : Bool} {ts : List Int} {us : List Co} {e : En} {s : Nat} {ws : List Int} {o : Out Va} {s' : Nat} {ws' : List Int} (h : ev F (g + 1) (.mk 2 x y n i ts us) e s ws = some (o, s', ws')) : o = .ok (.num n) ∧ s' = s ∧ ws' = ws := by
  cases us with
  | cons _ _ => cases h
  | nil =>
    have h2 : some ((.ok (.num n) : Out Va), s, ws) = some (o, s', ws') := h
    injection h2 with h2; injection h2 with h3 h2; injection h2 with h4 h5
    exact ⟨h3.symm, h4.symm, h5.symm⟩
theorem evR_lam {F g : Nat} {x y n : Int} {i : Bool} {ts : List Int} {us : List Co} {e : En} {s : Nat} {ws : List Int} {o : Out Va} {s' : Nat} {ws' : List Int} (h : ev F (g + 1) (.mk 3 x y n i ts us) e s ws = some (o, s', ws')) : ∃ b, us = [b] ∧ o = .ok (.clo x 0 b e) ∧ s' = s ∧ ws' = ws := by
  match us, h with
  | [], h => cases h
  | _ :: _ :: _, h => cases h
  | [b], h =>
    have h2 : some ((.ok (.clo x 0 b e) : Out Va), s, ws) = some (o, s', ws') := h
    injection h2 with h2; injection h2 with h3 h2; injection h2 with h4 h5
    exact ⟨b, rfl, h3.symm, h4.symm, h5.symm⟩
theorem evR_all (F : Nat) : ∀ g, EvR F g
  | 0 => fun c e s ws o s' ws' hE => by cases hE
  | g + 1 => fun c e s ws o s' ws' hE hFo T w M cp ep wv hm hc he => by
    have IH := evR_all F g
    obtain ⟨k, x, y, n, i, ts, us⟩ := c
    rw [FoT] at hFo
    obtain ⟨hF, hL⟩ := hFo
    have hA := hL.at_
    by_cases h1 : k = 1
    · subst h1
      obtain ⟨v, hf, rfl, rfl, rfl⟩ := evR_var hE
      exact r_var T w M F _ _ wv cp x y n i ts us e ep v hm hc he hf
    by_cases h2 : k = 2
    · subst h2
      obtain ⟨rfl, rfl, rfl⟩ := evR_int hE
      exact r_int T w M F _ _ wv cp x y n i ts us ep hm hc
    by_cases h3 : k = 3
    · subst h3
      obtain ⟨b, rfl, rfl, rfl, rfl⟩ := evR_lam hE
      exact r_lam T w M F _ _ wv cp x y n i ts b e ep hm hc he (hA b (by simp))
    by_cases h4 : k = 4
    · subst h4
      obtain ⟨a, b, rfl, h5⟩ := ev_app hE
      have ha := hA a (by simp)
      have hb := hA b (by simp)
      rcases h5 with ⟨j, h6, rfl⟩ | ⟨vf, s1, ws1, h6, ⟨j, h7, rfl⟩ | ⟨va, s2, ws2, h7, h8⟩⟩
      · exact app_st1 F g IH T w M s ws wv cp x y n i ts a b e ep j s' ws' hm hc he ha hb h6
      · exact app_st2 F g IH T w M s ws wv cp x y n i ts a b e ep s' ws' hm hc he ha hb j vf s1 ws1 h6 h7
      · exact app_okR F g IH T w M s ws wv cp x y n i ts a b e ep s' ws' hm hc he ha hb vf va s1 s2 ws1 ws2 o h6 h7 h8
    by_cases h5 : k = 5
    · subst h5
      obtain ⟨a, b, rfl, h6⟩ := ev_let hE
      have ha := hA a (by simp)
      have hb := hA b (by simp)
      rcases h6 with ⟨j, h6, rfl⟩ | ⟨va, s1, ws1, h6, h7⟩
      · exact let_st F g IH T w M s ws wv cp x y n i ts a b e ep s' ws' hm hc he ha hb j h6
      · exact let_okR F g IH T w M s ws wv cp x y n i ts a b e ep s' ws' hm hc he ha hb va s1 ws1 o h6 h7
    by_cases h6 : k = 6
    · subst h6
      obtain ⟨a, b, rfl, _, h7⟩ := ev_rec hE
      exact rec_okR F g IH T w M s ws wv cp x y n i ts a b e ep s' ws' hm hc he (hA a (by simp)) (hA b (by simp)) o h7
    by_cases h7 : k = 7
    · subst h7
      exact r_con F g IH T w M s ws wv cp x y n i ts us e ep o s' ws' hm hc he hA hE
    by_cases h8 : k = 8
    · subst h8
      obtain ⟨a, rfl⟩ := form_one hF (.inl rfl)
      exact r_field F g IH T w M s ws wv cp x y n i ts a e ep o s' ws' hm hc he (hA a (by simp)) hE
    by_cases h9 : k = 9
    · subst h9
      obtain ⟨a, rest, rfl, h10⟩ := ev_sw hE
      have ha := hA a (by simp)
      have hform := form_sw hF
      rcases h10 with ⟨j, h11, rfl⟩ | ⟨va, s1, ws1, h11, ⟨d, h12, h13⟩ | ⟨h12, rfl, rfl, rfl⟩⟩
      · exact sw_st F g IH T w M s ws wv cp x y n i ts a rest e ep s' ws' hm hc he ha j h11
      · exact sw_okR F g IH T w M s ws wv cp x y n i ts a rest e ep s' ws' hm hc he ha va d s1 ws1 o hform (fun c hc => hA c (by simp [hc])) h11 h12 h13
      · exact sw_bad F g IH T w M s ws wv cp x y n i ts a rest e ep _ _ hm hc he ha va hform h11 h12
    by_cases h10 : k = 10
    · subst h10
      obtain ⟨a, b, rfl⟩ := form_two hF
      exact r_prim_ev F g IH T w M s ws wv cp x y n i ts a b e ep o s' ws' hm hc he (hA a (by simp)) (hA b (by simp)) hE
    by_cases h11 : k = 11
    · subst h11
      obtain ⟨a, rfl⟩ := form_one hF (.inr rfl)
      exact r_print F g IH T w M s ws wv cp x y n i ts a e ep o s' ws' hm hc he (hA a (by simp)) hE
    · exfalso
      unfold formB at hF
      simp [h1, h2, h3, h4, h5, h6, h7, h8, h9, h10, h11] at hF
end Go.Proofs.Ytohdaclbgedeiaa
/-
  THE WALK OF athanorref21's show.
-/
namespace Go.Proofs.Ytohdaclbgedeiaa
set_option linter.all false
open Go.ChangeShapes Go.WideShapes Go.ChangeAt Go.RowKit
open Ev (Co Va En Out showV showL)
/-- What showing leaves. -/
def ShQ (o : Out (List Int)) (B : Nat) (lv : Value) (w : World) (e : Ending) (w' : World) : Prop := ∃ lv' en, e = .returned (.tuple #[lv', .int .i64 en]) ∧ w.grownBy w' lv.ownBlock ∧ match o with
  | .ok l => en = 1 ∧ OwnI w' B lv' l ∧ l.length ≤ 4096 ∧ (∀ g, lv'.ownBlock = some g → lv.ownBlock = some g ∨ w.heap.size ≤ g)
  | .stop k => en = k
/-- A value shows itself. -/
def ShR (u : Va) : Prop := ∀ (S : Nat → Prop) (w : World) (v : Value) (B : Nat) (lv : Value) (l : List Int), B ≤ w.heap.size → RAt w S u v → (∀ k, S k → k < w.heap.size → lv.ownBlock ≠ some k) → OwnI w B lv l → l.length ≤ 4096 → Calls Try.prog 34 #[v, lv] w (ShQ (showV u l) B lv w)
theorem showV_code : ∀ {u : Va} {l : List Int} {k : Int}, showV u l = .stop k → k = 4 ∨ k = -1 := by
  have key : ∀ (N : Nat) (u : Va), SizeOf.sizeOf u ≤ N → ∀ l k, showV u l = .stop k → k = 4 ∨ k = -1 := by
    intro N
    induction N with
    | zero => intro u h; cases u <;> simp at h
    | succ N ih =>
      intro u h l k hs
      cases u with
      | num n =>
        rw [showV] at hs
        split at hs
        · injection hs with hs; exact .inl hs.symm
        · cases hs
      | clo x self b e => rw [showV] at hs; injection hs with hs; exact .inr hs.symm
      | con t us =>
        rw [showV] at hs
        split at hs
        · injection hs with hs; exact .inl hs.symm
        · have hL : ∀ us' : List Va, (∀ u ∈ us', SizeOf.sizeOf u ≤ N) → ∀ l, showL us' l = .stop k → k = 4 ∨ k = -1 := by
            intro us'
            induction us' with
            | nil => intro _ l h; rw [showL] at h; cases h
            | cons a us' ih2 =>
              intro ha l h
              rw [showL] at h
              cases h3 : showV a l with
              | ok l1 => rw [h3] at h; exact ih2 (fun u hu => ha u (by simp [hu])) l1 h
              | stop j =>
                rw [h3] at h
                injection h with h
                subst h
                exact ih a (ha a (by simp)) l _ h3
          exact hL us (fun u hu => by have := List.sizeOf_lt_of_mem hu; simp at h; omega) _ hs
  intro u l k h
  exact key _ u (Nat.le_refl _) l k h
set_option maxHeartbeats 8000000 in
set_option maxRecDepth 100000 in
theorem show_clo (x self : Int) (b : Co) (e : En) : ShR (.clo x self b e) := by
  intro S w v B lv l hB hv hS ho hl
  rw [RAt] at hv
  obtain ⟨⟨p, bp, ep, rfl, _, hb, _, _⟩, _⟩ := hv
  obtain ⟨r0, r1, r2, r3, r4, r5, r6⟩ := hb.seven
  have hlp := hb.lt
  clear hb hS ho hl hB
  go_enter Try.func34, Try.ntmps34
  go_wp2
  go_ret2
  exact ⟨lv, -1, rfl, grown_refl _ _, by rw [showV]⟩
set_option maxHeartbeats 8000000 in
set_option maxRecDepth 100000 in
theorem show_node (t : Int) (nb : Bool) (us : List Va) (o : Out (List Int)) (S : Nat → Prop) (w : World) (g : Nat) (A : Option Addr) (c B : Nat) (lv : Value) (l : List Int) (ih : ∀ u ∈ us, ShR u) (hB : B ≤ w.heap.size) (hSg : S g) (hb : Blk w g 60 #[.bool nb, .int .i64 t, .slice A us.length c, .int .i64 0, .int .i64 0, .pointer none, .pointer none]) (hrow : RRow w S us A 0) (hwt : (Lit.int .i64 t).wf = true) (hS : ∀ k, S k → k < w.heap.size → lv.ownBlock ≠ some k) (ho : OwnI w B lv l) (hl : l.length ≤ 4096)
    (hul : us.length ≤ 17592186044416) (ho1 : l.length = 4096 → o = .stop 4) (ho2 : l.length ≠ 4096 → o = showL us (l ++ [t])) : Calls Try.prog 34 #[.pointer (some ⟨g, 0, none⟩), lv] w (ShQ o B lv w) := by
  obtain ⟨A9, c9, hwv, _⟩ := ho.slice
  subst hwv
  have HBK := hid hb
  obtain ⟨r0, r1, r2, r3, r4, r5, r6⟩ := hb.seven
  have hgl := hb.lt
  have hgn := hS g hSg hgl
  have HR := hid (And.intro hrow (And.intro hS (And.intro ih (And.intro hB hl))))
  have HOW := hid (own_row ho)
  have HH := hid (And.intro ho.wf hwt)
  have HO1 := hid ho1
  have HO2 := hid ho2
  clear hb ih hB hSg hrow hwt hS ho hl ho1 ho2
  by_cases h4 : l.length = 4096
  · have h4' : ((l.length : Int) == 4096) = true := by simp; omega
    have H4 := hid h4
    clear h4
    go_enter Try.func34, Try.ntmps34
    go_wp2
    go_ret2
    exact ⟨_, 4, rfl, grown_refl _ _, by rw [HO1.out H4.out]⟩
  have h4' : ((l.length : Int) == 4096) = false := by simp; omega
  have H4 := hid h4
  clear h4
  go_enter Try.func34, Try.ntmps34
  go_wp2_with (at_builtin; go_must (refine wpList_appN (by rfl) _ _ (by rfl) B (by rfl) (n := l.length) (World.ownsRow.alloc HOW.out _) (by rfl) ((Blk.new w _ #[.int .i64 t]).cell 0) (by rfl) (by have := HR.out.2.2.2.2; omega) (by have := HR.out.2.2.2.1; simp; omega) ?_); intro lv2 w2 hr2 hg2 hn2; go_must (obtain ⟨A8, c8, rfl⟩ := row_sliceN hr2); have R := hid (And.intro hr2 (And.intro hg2 hn2)); clear hr2 hg2 hn2)
  have HI : Hid (ShI w B (.slice A9 l.length c9) (.slice A8 (l.length + 1) c8) (l ++ [t]) w2) := hid (by
    obtain ⟨q1, q2, q3⟩ := R.out
    refine ⟨⟨?_, fun x hx => ?_⟩, by have := H4.out; have := HR.out.2.2.2.2; simp; omega, grown_then (grown_alloc _ _ _) q2 (fun g e => .inl e), fun g e => ?_⟩
    · have e : (l ++ [t]).map (Value.int .i64) = l.map (Value.int .i64) ++ [.int .i64 t] := by simp
      unfold Own
      rw [e]
      have e2 : (l.map (Value.int .i64) ++ [Value.int .i64 t]).length = l.length + 1 := by simp
      rw [e2]
      exact q1
    · rcases List.mem_append.1 hx with h9 | h9
      · exact HH.out.1 x h9
      · simp at h9; subst h9; exact HH.out.2
    · rcases q3 g e with h | h
      · exact .inl h
      · exact .inr (by simp at h; omega))
  go_loopg [1, 6, 7] us.length (fun gg z1 z6 z7 wr => (∃ (j : Nat) (lvi : Value) (li : List Int), j + gg = us.length ∧ z7 = .int .i64 j ∧ z6 = .int .i64 1 ∧ lvi = z1 ∧ Hid (ShI w B (.slice A9 l.length c9) lvi li wr) ∧ Hid (showL (us.drop j) li = showL us (l ++ [t]))) ∨ (∃ (j : Nat) (k : Int), j + gg = us.length ∧ z7 = .int .i64 j ∧ z6 = .int .i64 k ∧ k ≠ 1 ∧ Hid (showL us (l ++ [t]) = .stop k ∧ w.grownBy wr (Value.slice A9 l.length c9).ownBlock)))
  case atStart => exact .inl ⟨0, _, _, by omega, rfl, rfl, rfl, HI, hid rfl⟩
  case round =>
    clear r0 r1 r2 r3 r4 r5 r6
    rcases hrel with ⟨j, lvi, li, hj, rfl, rfl, hz9, hI, hE⟩ | ⟨j, k, hj, rfl, rfl, hk, hS⟩
    · subst hz9
      have Hj := hid hj
      obtain ⟨r0, r1, r2, r3, r4, r5, r6⟩ := (HBK.out.grown hI.out.grown (fun e => hgn e.symm)).seven
      by_cases hlt : j < us.length
      case neg =>
        obtain rfl : j = us.length := by omega
        have hE1 := hid hE.out
        clear hj
        go_wp2
        go_ret2
        refine ⟨_, 1, rfl, hI.out.grown, ?_⟩
        rw [HO2.out H4.out, ← hE1.out, List.drop_length, showL]
        exact ⟨rfl, hI.out.own, hI.out.len, hI.out.new⟩
      have hlt' : (j : Int) < us.length := by omega
      have hj0 : (0 : Int) ≤ (j : Int) := by omega
      have HLT := hid hlt
      have hdr : us.drop j = us[j]'hlt :: us.drop (j + 1) := List.drop_eq_getElem_cons hlt
      have hE1 := hE.out
      rw [hdr, showL_cons] at hE1
      obtain ⟨ad, vv, hA, hSa, hcell, hvv⟩ := HR.out.1.get hlt
      subst hA
      have eb := add_block ad (0 + j)
      have hSl : ad.block < w.heap.size := by have := cell_lt hcell; omega
      have hkeep : ∀ k, S k → k < w.heap.size → wr.heap[k]? = w.heap[k]? := fun k hk hl => hI.out.grown.block k hl (fun e => HR.out.2.1 k hk hl e.symm)
      have d5 : wr.cell? (ad.add j) = some vv := by rw [Nat.zero_add] at hcell eb; exact cell_of (hkeep _ hSa hSl) eb hcell
      have hvv2 : RAt wr (fun k => S k ∧ k < w.heap.size) (us[j]'hlt) vv := RAt.keep (fun k hk hl => ⟨hkeep k hk hl, hk, hl⟩) _ _ hvv
      have hdis : ∀ k, (S k ∧ k < w.heap.size) → k < wr.heap.size → lvi.ownBlock ≠ some k := fun k hk _ e => by
        rcases hI.out.new k e with e | e
        · exact HR.out.2.1 k hk.1 hk.2 e
        · omega
      have CU := hid (HR.out.2.2.1 _ (List.getElem_mem hlt) _ wr vv B lvi li (Nat.le_trans HR.out.2.2.2.1 hI.out.grown.size) hvv2 hdis hI.out.own hI.out.len)
      have HE1 := hid hE1
      obtain ⟨pv, hpv, _⟩ := hvv2.ptr
      subst hpv
      obtain ⟨uu, huu⟩ : ∃ uu, us[j]'hlt = uu := ⟨_, rfl⟩
      rw [huu] at CU HE1
      obtain ⟨oo, hoo⟩ : ∃ oo, showV uu li = oo := ⟨_, rfl⟩
      have HOO := hid hoo
      rw [hoo] at CU HE1
      clear hdr hcell hvv hdis hSa hSl hkeep eb hj hE1 hvv2 hoo huu hlt
      cases oo with
      | ok l2 =>
        go_wp2_with (go_at_call 34; go_must (refine CU.out.mono ?_); rintro e w3 ⟨lv3, en, rfl, g3, h8⟩; (obtain ⟨h9, h7⟩ := h8); subst h9; have G2 := hid (And.intro g3 h7); clear g3 h7)
        have hgk := Hj.out
        have hlt9 := HLT.out
        go_roundg (gk - 1)
        case rel => exact .inl ⟨j + 1, lv3, l2, by omega, by go_num, rfl, rfl, hid (hI.out.next G2.out.1 G2.out.2.1 G2.out.2.2.1 G2.out.2.2.2), hid HE1.out⟩
        case measure => omega
      | stop k =>
        have hk1 : k ≠ 1 := by have := showV_code HOO.out; omega
        have HK1 := hid hk1
        clear hk1
        go_wp2_with (go_at_call 34; go_must (refine CU.out.mono ?_); rintro e w3 ⟨lv3, en, rfl, g3, h8⟩; (have h9 : en = k := h8); subst h9; have G2 := hid g3; clear g3 h8)
        have hgk := Hj.out
        have hlt9 := HLT.out
        go_roundg (gk - 1)
        case rel => exact .inr ⟨j + 1, _, by omega, by go_num, rfl, HK1.out, hid ⟨HE1.out.symm, grown_then hI.out.grown G2.out hI.out.new⟩⟩
        case measure => omega
    · have hk2 : (k == 1) = false := by simpa using hk
      have hlk : j ≤ us.length := by omega
      have hS2 := hid hS.out
      obtain ⟨r0, r1, r2, r3, r4, r5, r6⟩ := (HBK.out.grown hS.out.2 (fun e => hgn e.symm)).seven
      by_cases hlt : j < us.length
      · have hlt' : (j : Int) < us.length := by omega
        clear hk hj
        go_wp2
        go_ret2
        exact ⟨_, k, rfl, hS2.out.2, by rw [HO2.out H4.out, hS2.out.1]⟩
      · have hlt' : ¬ (j : Int) < us.length := by omega
        clear hk hj
        go_wp2
        go_ret2
        exact ⟨_, k, rfl, hS2.out.2, by rw [HO2.out H4.out, hS2.out.1]⟩
/-- Every value shows itself. -/
theorem show_all : ∀ (N : Nat) (u : Va), SizeOf.sizeOf u ≤ N → ShR u := by
  intro N
  induction N with
  | zero => intro u h; cases u <;> simp at h
  | succ N ih =>
    intro u h
    cases u with
    | clo x self b e => exact show_clo x self b e
    | num n =>
      intro S w v B lv l hB hv hS ho hl
      rw [RAt] at hv
      obtain ⟨⟨p, rfl, hSp, hb⟩, hw⟩ := hv
      exact show_node n true [] _ S w p none 0 B lv l (fun u hu => by cases hu) hB hSp hb (by rw [RRow]; trivial) hw hS ho hl (by simp) (fun h => by rw [showV, if_pos h]) (fun h => by rw [showV, if_neg h, showL])
    | con t us =>
      intro S w v B lv l hB hv hS ho hl
      rw [RAt] at hv
      obtain ⟨⟨p, A, c, rfl, hSp, hb, hrow⟩, hw, hul⟩ := hv
      exact show_node t false us _ S w p A c B lv l (fun u hu => ih u (by have := List.sizeOf_lt_of_mem hu; simp at h; omega)) hB hSp hb hrow hw hS ho hl hul (fun h => by rw [showV, if_pos h]) (fun h => by rw [showV, if_neg h])
end Go.Proofs.Ytohdaclbgedeiaa
/-
  THE WALK OF athanorref21's Run.
-/
namespace Go.Proofs.Ytohdaclbgedeiaa
set_option linter.all false
open Go.ChangeShapes Go.WideShapes Go.ChangeAt Go.RowKit
open Ev (Co Va En Out goodB whole fin resO RunIs whole_ends inputV)
theorem ret_run21 {R : Ending → World → Prop} {a : Act} {w : World} {g : Nat} {v0 v1 v2 u7 u8 : Value} (h6 : a.tmps.getD 6 undef = .pointer (some ⟨g, 0, none⟩)) (h7 : a.tmps.getD 7 undef = u7) (h8 : a.tmps.getD 8 undef = u8) (hg : Blk w g 31 #[v0, v1, v2]) (hd : a.defers = [])
    (hR : R (.returned (.tuple #[.agg #[v0, v1, v2], u7, u8])) w) : bodyPost Try.prog Try.f19 R .ret a w := by
  have y0 : w.cell? ⟨g, 0, none⟩ = some v0 := hg.cell 0
  have y1 : w.cell? ⟨g, 1, none⟩ = some v1 := hg.cell 1
  have y2 : w.cell? ⟨g, 2, none⟩ = some v2 := hg.cell 2
  rw [Array.getD_eq_getD_getElem?] at h6 h7 h8
  refine bodyPost_ret ?_ hd hR
  simp [results, Try.results19, go_sem, h6, h7, h8, y0, y1, y2]
set_option maxHeartbeats 4000000 in
set_option maxRecDepth 100000 in
theorem run21_bad (w : World) (c : Co) (v : Value) (S : Nat → Prop) (l : List Int) (A : Option Addr) (cA : Nat) (fuel : Int) (hv : CAt w S c v) (hnn : Ev.nodes c ≤ 65536) (hg : goodB c = false) : Calls Try.prog 19 #[v, .slice A l.length cA, .int .i64 fuel] w (RunV c l fuel w) := by
  have HV := hid (And.intro hv.low (And.intro hg trivial))
  obtain ⟨k, x, y, m, i, T, tl, tc, A2, l2, c2, rfl⟩ := hv.agg
  have HNN := hid hnn
  clear hv hg hnn
  go_enter Try.func19, Try.ntmps19
  go_wp2_with (go_at_call 14; refine (ref20_GoodX c _ (fun b => b < w.heap.size) _ (HV.out.1.up (by go_grown : Below w.heap.size w _)) HNN.out).mono ?_; rw [HV.out.2.1]; rintro e w1 ⟨rfl, b1⟩; have B1 := hid (below_hop b1 (by go_grown : Below w.heap.size w _)); have BR := hid ((Blk.new' (w := w.alloc (.cells #[.int .i64 k, .int .i64 x, .int .i64 y, .int .i64 m, .bool i, .slice T tl tc, .slice A2 l2 c2] 25)) (by simp) 31 #[.int .i64 0, .slice none 0 0, .slice none 0 0] : Blk _ (w.heap.size + 1) _ _).below b1 (by simp)); have BC := hid (((Blk.new w 25 #[.int .i64 k, .int .i64 x, .int .i64 y, .int .i64 m, .bool i, .slice T tl tc, .slice A2 l2 c2]).alloc _).below b1 (by simp; omega)); obtain ⟨o0, o1, o2⟩ := BR.out.three; have f0 := BR.out.frozen 0; have f1 := BR.out.frozen 1; have f2 := BR.out.frozen 2; clear b1)
  have B3 := (((BR.out.set_ 0 (.int .i64 0)).set_ 1 (.slice none 0 0)).set_ 2 (.slice none 0 0))
  refine ret_run21 rfl rfl rfl (B3 : Blk _ (w.heap.size + 1) _ #[.int .i64 0, .slice none 0 0, .slice none 0 0]) rfl ?_
  exact ⟨(0, [], [], 190), 0, none, 0, none, 0, .inl ⟨HV.out.2.1, rfl, rfl⟩, rfl, OwnI.nil _ _, OwnI.nil _ _, below_set (below_set (below_set B1.out (by omega) _) (by omega) _) (by omega) _⟩
set_option maxHeartbeats 4000000 in
set_option maxRecDepth 100000 in
theorem run21_arg (w : World) (c : Co) (v : Value) (S : Nat → Prop) (l : List Int) (A : Option Addr) (cA : Nat) (fuel : Int) (hv : CAt w S c v) (hnn : Ev.nodes c ≤ 65536) (hg : goodB c = true) (hb : 256 < l.length ∨ fuel < 0 ∨ 65536 < fuel) : Calls Try.prog 19 #[v, .slice A l.length cA, .int .i64 fuel] w (RunV c l fuel w) := by
  have HV := hid (And.intro hv.low (And.intro hg hb))
  obtain ⟨k, x, y, m, i, T, tl, tc, A2, l2, c2, rfl⟩ := hv.agg
  have HNN := hid hnn
  clear hv hg hnn
  have H3 : (256 < (l.length : Int)) ∨ ¬ (256 < (l.length : Int)) ∧ (fuel < 0 ∨ 0 ≤ fuel ∧ 65536 < fuel) := by omega
  clear hb
  rcases H3 with h1 | ⟨h1, h2 | ⟨h2, h3⟩⟩
  all_goals
    go_enter Try.func19, Try.ntmps19
    go_wp2_with (go_at_call 14; refine (ref20_GoodX c _ (fun b => b < w.heap.size) _ (HV.out.1.up (by go_grown : Below w.heap.size w _)) HNN.out).mono ?_; rw [HV.out.2.1]; rintro e w1 ⟨rfl, b1⟩; have B1 := hid (below_hop b1 (by go_grown : Below w.heap.size w _)); have BR := hid ((Blk.new' (w := w.alloc (.cells #[.int .i64 k, .int .i64 x, .int .i64 y, .int .i64 m, .bool i, .slice T tl tc, .slice A2 l2 c2] 25)) (by simp) 31 #[.int .i64 0, .slice none 0 0, .slice none 0 0] : Blk _ (w.heap.size + 1) _ _).below b1 (by simp)); have BC := hid (((Blk.new w 25 #[.int .i64 k, .int .i64 x, .int .i64 y, .int .i64 m, .bool i, .slice T tl tc, .slice A2 l2 c2]).alloc _).below b1 (by simp; omega)); obtain ⟨o0, o1, o2⟩ := BR.out.three; have f0 := BR.out.frozen 0; have f1 := BR.out.frozen 1; have f2 := BR.out.frozen 2; clear b1)
    have B3 := (((BR.out.set_ 0 (.int .i64 0)).set_ 1 (.slice none 0 0)).set_ 2 (.slice none 0 0))
    refine ret_run21 rfl rfl rfl (B3 : Blk _ (w.heap.size + 1) _ #[.int .i64 0, .slice none 0 0, .slice none 0 0]) rfl ?_
    exact ⟨(0, [], [], 1), 0, none, 0, none, 0, .inr (.inl ⟨HV.out.2.1, HV.out.2.2, rfl, rfl⟩), rfl, OwnI.nil _ _, OwnI.nil _ _, below_set (below_set (below_set B1.out (by omega) _) (by omega) _) (by omega) _⟩
end Go.Proofs.Ytohdaclbgedeiaa
/-
  THE WALK OF athanorref21's Run: the inputs' list.
-/
namespace Go.Proofs.Ytohdaclbgedeiaa
set_option linter.all false
open Go.ChangeShapes Go.WideShapes Go.ChangeAt Go.RowKit
open Ev (Co Va En Out goodB whole fin resO RunIs whole_ends inputV goodM goodML addM bindL formB)
mutual
theorem fo_good : ∀ {t : Co} {d : Int} {f g : Int → Int}, goodM t d f = some g → FoT t
  | .mk k x y n i ts us, d, f, g, h => by
    rw [goodM] at h
    by_cases h1 : 1024 < d ∨ formB k x y n i ts us.length = false
    · rw [if_pos h1] at h; cases h
    · rw [if_neg h1] at h
      rw [FoT]
      cases h2 : addM (bindL k x y) f with
      | none => rw [h2] at h; cases h
      | some g2 =>
        rw [h2] at h
        exact ⟨by cases h3 : formB k x y n i ts us.length; exact absurd (.inr h3) h1; rfl, foL_good h⟩
theorem foL_good : ∀ {us : List Co} {d : Int} {f g : Int → Int}, goodML us d f = some g → FoL us
  | [], d, f, g, h => by rw [FoL]; trivial
  | t :: us, d, f, g, h => by
    rw [goodML] at h
    rw [FoL]
    cases h2 : goodM t d f with
    | none => rw [h2] at h; cases h
    | some g2 => rw [h2] at h; exact ⟨fo_good h2, foL_good h⟩
end
theorem fo_of {t : Co} (h : goodB t = true) : FoT t := by
  unfold goodB at h
  obtain ⟨h1, _⟩ := Ev.plain_false h
  obtain ⟨_, h1⟩ := Ev.plain_false h1
  obtain ⟨g, hg⟩ := Option.isSome_iff_exists.1 h1
  exact fo_good hg
theorem alR3 (X : World) (o o2 o3 : Obj) : Below X.heap.size X (((X.alloc o).alloc o2).alloc o3) := (al2 X o o2).alloc (by simp; omega) _
/-- One input more ahead of the list. -/
theorem con2_new {w : World} {S : Nat → Prop} {m : Int} {u : Va} {lp : Value} (hS : ∀ b, w.heap.size ≤ b → S b) (hm : (Lit.int .i64 m).wf = true) (hu : RAt w S u lp) :
    RAt (((w.alloc (.cells #[.bool true, .int .i64 m, .slice none 0 0, .int .i64 0, .int .i64 0, .pointer none, .pointer none] 60)).alloc (.cells #[.pointer (some ⟨w.heap.size, 0, none⟩), lp] 55)).alloc (.cells #[.bool false, .int .i64 1, .slice (some ⟨w.heap.size + 1, 0, none⟩) 2 2, .int .i64 0, .int .i64 0, .pointer none, .pointer none] 60)) S (.con 1 [.num m, u]) (.pointer (some ⟨w.heap.size + 1 + 1, 0, none⟩)) := by
  have hb := alR3 w (.cells #[.bool true, .int .i64 m, .slice none 0 0, .int .i64 0, .int .i64 0, .pointer none, .pointer none] 60) (.cells #[.pointer (some ⟨w.heap.size, 0, none⟩), lp] 55) (.cells #[.bool false, .int .i64 1, .slice (some ⟨w.heap.size + 1, 0, none⟩) 2 2, .int .i64 0, .int .i64 0, .pointer none, .pointer none] 60)
  have hrow : Blk (((w.alloc (.cells #[.bool true, .int .i64 m, .slice none 0 0, .int .i64 0, .int .i64 0, .pointer none, .pointer none] 60)).alloc (.cells #[.pointer (some ⟨w.heap.size, 0, none⟩), lp] 55)).alloc (.cells #[.bool false, .int .i64 1, .slice (some ⟨w.heap.size + 1, 0, none⟩) 2 2, .int .i64 0, .int .i64 0, .pointer none, .pointer none] 60)) (w.heap.size + 1) 55 #[.pointer (some ⟨w.heap.size, 0, none⟩), lp] := (Blk.new' (by simp) _ _).alloc _
  rw [RAt]
  refine ⟨⟨_, _, 2, rfl, hS _ (by omega), Blk.new' (by simp) _ _, ?_⟩, by decide, by simp⟩
  refine RRow.mk (hS _ (by simp)) [.num m, u] 0 (fun k hk => ?_)
  match k, hk with
  | 0, _ => exact ⟨_, hrow.cell 0, by rw [List.getElem_cons_zero, RAt]; exact ⟨⟨_, rfl, hS _ (Nat.le_refl _), ((Blk.new w _ _).alloc _).alloc _⟩, hm⟩⟩
  | 1, _ => exact ⟨lp, hrow.cell 1, hu.up hb⟩
theorem run_rst (F : Nat) (w1 : World) (hF : F ≤ 65536) : RSt (w1.alloc (.cells #[.int .i64 0, .int .i64 F, .int .i64 0, .slice none 0 0] 54)) w1.heap.size F 0 0 [] (.slice none 0 0) := ⟨Blk.new _ _ _, OwnI.nil _ _, hF, Nat.zero_le _, by simp⟩
theorem w31_wf (n : Int) : (Lit.int .i64 (w31 n)).wf = true := wf_small31 (w31_in n)
/-- The blocks of the inputs' list. -/
def SL (M : Nat) : Nat → Prop := SfT M (.slice none 0 0) (fun _ => True)
theorem sl_of {M b : Nat} (h : b ≠ M) : SL M b := ⟨⟨h, by simp [Value.ownBlock]⟩, trivial⟩
theorem keepB {w w1 : World} {M g : Nat} {wv : Value} {t : TypeId} {cs : Array Value} (h : MStep M (.slice none 0 0) wv w w1) (hb : Blk w g t cs) (hg : g ≠ M) : Blk w1 g t cs := blk_keep hb (fun hl => h.block g hl hg (by simp [Value.ownBlock]))
theorem run_end {w wr w3 : World} {c : Co} {l : List Int} {F s M B : Nat} {j : Int} {ws : List Int} {A3 : Option Addr} {c3 : Nat} (ho : OwnI w3 (M + 1) (.slice A3 ws.length c3) ws) (hb : Below w.heap.size w wr) (hs : MStep M (.slice none 0 0) (.slice A3 ws.length c3) wr w3) (hBM : B < M) (hwM : w.heap.size ≤ M) (hMl : M < wr.heap.size) (hR : RunIs c l F (j, ws, [], 0) s) (hwB : w.heap.size ≤ B := by omega) :
    RunV c l F w (.returned (.tuple #[.agg #[.int .i64 j, .slice A3 ws.length c3, .slice none 0 0], .int .i64 (s : Nat), .int .i64 0])) (((w3.setCell ⟨B, 0, none⟩ (.int .i64 j)).setCell ⟨B, 1, none⟩ (.slice A3 ws.length c3)).setCell ⟨B, 2, none⟩ (.slice none 0 0)).drew := by
  have h3 : Below w.heap.size w w3 := hb.trans (ms_below hs hwM hb.size)
  exact ⟨(j, ws, [], 0), s, A3, c3, none, 0, hR, rfl, (OwnI.low (((ho.set_ (a := ⟨B, 0, none⟩) (by dsimp only; omega) _).set_ (a := ⟨B, 1, none⟩) (by dsimp only; omega) _).set_ (a := ⟨B, 2, none⟩) (by dsimp only; omega) _) (by omega)).drew, OwnI.nil _ _, Below.drew (below_set (below_set (below_set h3 hwB _) hwB _) hwB _)⟩
set_option maxHeartbeats 8000000 in
set_option maxRecDepth 100000 in
theorem run21_a (w : World) (c : Co) (v : Value) (S S' : Nat → Prop) (l : List Int) (A : Option Addr) (cA : Nat) (F : Nat) (hv : CAt w S c v) (hI : IAt w S' l A cA) (hnn : Ev.nodes c ≤ 65536) (hg : goodB c = true) (hl : l.length ≤ 256) (hF : F ≤ 65536) (gg : Nat) (j : Int) (s : Nat) (ws : List Int) (hE : Ev.ev F gg c .nil 0 [] = some (.stop j, s, ws)) (hj : j ≠ -1 ∧ j ≠ 1) : Calls Try.prog 19 #[v, .slice A l.length cA, .int .i64 F] w (RunV c l F w) := by
  have HV := hid (And.intro hv.low (And.intro hg (And.intro hI (And.intro hl hF))))
  obtain ⟨k, x, y, m, i, T, tl, tc, A2, l2, c2, rfl⟩ := hv.agg
  have h1 : ¬ (256 < (l.length : Int)) := by omega
  have h2 : ¬ ((F : Int) < 0) := by omega
  have h3 : ¬ (65536 < (F : Int)) := by omega
  have q1 : IntKind.i64.wrap ((l.length : Int) - 1) = (l.length : Int) - 1 := IntWalk.i64_in _ (by omega)
  have HNN := hid hnn
  have HE := hid hE
  have HJ := hid hj
  clear hE hj
  clear hv hg hI hl hF hnn
  go_enter Try.func19, Try.ntmps19
  go_wp2_with (go_at_call 14; refine (ref20_GoodX c _ (fun b => b < w.heap.size) _ (HV.out.1.up (by go_grown : Below w.heap.size w _)) HNN.out).mono ?_; rw [HV.out.2.1]; rintro e w1 ⟨rfl, b1⟩; have B1 := hid (below_hop b1 (by go_grown : Below w.heap.size w _)); have BR := hid ((Blk.new' (w := w.alloc (.cells #[.int .i64 k, .int .i64 x, .int .i64 y, .int .i64 m, .bool i, .slice T tl tc, .slice A2 l2 c2] 25)) (by simp) 31 #[.int .i64 0, .slice none 0 0, .slice none 0 0] : Blk _ (w.heap.size + 1) _ _).below b1 (by simp)); have BC := hid (((Blk.new w 25 #[.int .i64 k, .int .i64 x, .int .i64 y, .int .i64 m, .bool i, .slice T tl tc, .slice A2 l2 c2]).alloc _).below b1 (by simp; omega)); obtain ⟨o0, o1, o2⟩ := BR.out.three; have f0 := BR.out.frozen 0; have f1 := BR.out.frozen 1; have f2 := BR.out.frozen 2; clear b1)
  have BW := hid (al2 w1 (.cells #[.int .i64 0, .int .i64 F, .int .i64 0, .slice none 0 0] 54) (.cells #[.bool false, .int .i64 0, .slice none 0 0, .int .i64 0, .int .i64 0, .pointer none, .pointer none] 60))
  have MM := hid ((run_rst F w1 HV.out.2.2.2.2).below (al1 _ (.cells #[.bool false, .int .i64 0, .slice none 0 0, .int .i64 0, .int .i64 0, .pointer none, .pointer none] 60)))
  have VV := hid (show RAt ((w1.alloc (.cells #[.int .i64 0, .int .i64 F, .int .i64 0, .slice none 0 0] 54)).alloc (.cells #[.bool false, .int .i64 0, .slice none 0 0, .int .i64 0, .int .i64 0, .pointer none, .pointer none] 60)) (SL w1.heap.size) (.con 0 []) (.pointer (some ⟨w1.heap.size + 1, 0, none⟩)) from con0_new (by simp) (fun b hb => sl_of (by simp at hb; omega)))
  go_loopg [10, 11] l.length (fun gg z10 z11 wr => ∃ (lp : Option Addr), gg ≤ l.length ∧ z11 = .int .i64 ((gg : Int) - 1) ∧ z10 = .pointer lp ∧ Hid (RAt wr (SL w1.heap.size) (inputV (l.drop gg)) (.pointer lp)) ∧ Hid (Below ((w1.alloc (.cells #[.int .i64 0, .int .i64 F, .int .i64 0, .slice none 0 0] 54)).alloc (.cells #[.bool false, .int .i64 0, .slice none 0 0, .int .i64 0, .int .i64 0, .pointer none, .pointer none] 60)).heap.size ((w1.alloc (.cells #[.int .i64 0, .int .i64 F, .int .i64 0, .slice none 0 0] 54)).alloc (.cells #[.bool false, .int .i64 0, .slice none 0 0, .int .i64 0, .int .i64 0, .pointer none, .pointer none] 60)) wr))
  case atStart => exact ⟨_, Nat.le_refl _, rfl, rfl, hid (by rw [List.drop_length, inputV]; exact VV.out), hid (Below.refl _ _)⟩
  case round =>
    obtain ⟨lp, hgl, rfl, rfl, hL, hB⟩ := hrel
    rcases Nat.eq_zero_or_pos gk with rfl | hp
    · have HWB := hid (below_hop hB.out (below_hop BW.out B1.out))
      have hMl : w1.heap.size < wr.heap.size := by have := hB.out.size; simp at this; omega
      have RM := hid (MM.out.below ((hB.out).mono (Nat.le_refl _)))
      have CP := hid (run_cpt (S := SL w1.heap.size) ((BC.out.below BW.out BC.out.lt).below hB.out (by have := BC.out.lt; simp; omega)) (sl_of (by have := BC.out.lt; omega)) ((HV.out.1.up HWB.out).mono (fun b hb _ => sl_of (by have := B1.out.size; omega))))
      have BRR := hid ((BR.out.below BW.out BR.out.lt).below hB.out (by have := BR.out.lt; simp; omega))
      have LL := hid (show RAt wr (SL w1.heap.size) (inputV l) (.pointer lp) from hL.out)
      have C1 := hid ((evR_all F gg c .nil 0 [] _ _ _ HE.out (fo_of HV.out.2.1) (fun _ => True) wr w1.heap.size ⟨w.heap.size, 0, none⟩ none (.slice none 0 0) RM.out CP.out (by rw [REAt])).mono (fun _ _ h => evq_stR h))
      have hkb : (j == 0) = false := by simpa using Ev.stop_ne HE.out
      have hk1 : (j == -1) = false := by simpa using HJ.out.1
      have hk2 : (j != 1) = true := by simpa using HJ.out.2
      clear hB hL hgl o0 o1 o2 f0 f1 f2
      go_wp2_with (go_at_call 32; (refine C1.out.mono ?_); clear C1; rintro e3 w3 ⟨wv3, pp, rfl, hm3, hs3⟩; (obtain ⟨A3, c3, hwv, _⟩ := hm3.own.slice); subst hwv; (obtain ⟨x0, x1, x2, x3⟩ := hm3.blk.four); have hlM := hm3.blk.lt; have D := hid (And.intro hm3 hs3); clear hm3 hs3)
      have BR3 := hid (keepB D.out.2 BRR.out (by have := BR.out.lt; omega))
      have BM3 := hid D.out.1.blk
      obtain ⟨p0, p1, p2⟩ := BR3.out.three
      have q0 := BR3.out.frozen 0
      have q1' := BR3.out.frozen 1
      have q2' := BR3.out.frozen 2
      have hlB := BR3.out.lt
      have nMB : ¬ w1.heap.size = w.heap.size + 1 := by have := BR.out.lt; omega
      have nBM : ¬ w.heap.size + 1 = w1.heap.size := fun h => nMB h.symm
      go_region
      go_wp2
      have BF := (((BR3.out.set_ 0 (.int .i64 j)).set_ 1 (.slice A3 ws.length c3)).set_ 2 (.slice none 0 0))
      refine ret_run21 rfl rfl rfl (Blk.drew BF : Blk _ (w.heap.size + 1) _ #[.int .i64 j, .slice A3 ws.length c3, .slice none 0 0]) rfl ?_
      exact run_end D.out.1.own HWB.out D.out.2 (by have := BR.out.lt; omega) (by have := B1.out.size; omega) hMl (.inr (.inr ⟨HV.out.2.1, HV.out.2.2.2.1, h2, h3, gg, .stop j, ws, by (show Ev.whole (F : Int).toNat gg c l = _); rw [Int.toNat_natCast]; exact Ev.bnd_stop HE.out, by rw [show resO (Out.stop j : Out Va) = .stop j from rfl, fin, if_neg (by have := Ev.Cd.ev F gg c .nil 0 [] _ _ _ HE.out; have := HJ.out.1; omega)]⟩))
    obtain ⟨j, hj⟩ : ∃ j, gk = j + 1 := ⟨gk - 1, by omega⟩
    subst hj
    have e1 : ((j + 1 : Nat) : Int) - 1 = j := by omega
    have hlt : j < l.length := by omega
    have hlt' : (j : Int) < l.length := by omega
    have hj0 : (0 : Int) ≤ j := by omega
    rw [e1]
    have HW := hid (below_hop hB.out (below_hop BW.out B1.out))
    obtain ⟨ad, rfl, hS9, y0, _⟩ := (HV.out.2.2.1.keep (fun b hb' hl => ⟨HW.out.block b hl, hb'⟩)).2 j hlt
    obtain ⟨t, ht9⟩ : ∃ t, t = l[j]'hlt := ⟨_, rfl⟩
    rw [← ht9] at y0
    have HT := hid (show inputV (l.drop j) = .con 1 [.num (w31 t), inputV (l.drop (j + 1))] by rw [List.drop_eq_getElem_cons hlt, inputV, ht9])
    have q2 : IntKind.i64.wrap ((j : Int) - 1) = (j : Int) - 1 := IntWalk.i64_in _ (by omega)
    clear ht9 hS9 e1
    go_wp2_with (first
      | (go_at_call 31; (refine (ref10_Wrap t _).mono ?_); rintro e w3 ⟨rfl, h9⟩; have h8 := h9.symm; subst h8; clear h9)
      | (go_at_call 30; (refine (r21_number _ _).mono ?_); rintro e w3 ⟨rfl, rfl⟩))
    go_roundg j
    case rel =>
      have hsz := hB.out.size
      exact ⟨_, by omega, rfl, rfl, hid (by rw [HT.out]; exact con2_new (fun b hb => sl_of (by simp at hsz; omega)) (w31_wf t) hL.out), hid (below_hop (alR3 _ _ _ _) hB.out)⟩
    case measure => omega
end Go.Proofs.Ytohdaclbgedeiaa
/-
  THE WALK OF athanorref21's Run: its other ends.
-/
namespace Go.Proofs.Ytohdaclbgedeiaa
set_option linter.all false
open Go.ChangeShapes Go.WideShapes Go.ChangeAt Go.RowKit
open Ev (Co Va En Out goodB whole fin resO RunIs whole_ends inputV goodM goodML addM bindL formB)
/-- A refusal. -/
theorem run_endB {w wr w3 : World} {c : Co} {l : List Int} {F s M B : Nat} {wv : Value} (hb : Below w.heap.size w wr) (hs : MStep M (.slice none 0 0) wv wr w3) (hwM : w.heap.size ≤ M) (hMl : M < wr.heap.size) (hR : RunIs c l F (0, [], [], 190) s) (hwB : w.heap.size ≤ B := by omega) :
    RunV c l F w (.returned (.tuple #[.agg #[.int .i64 0, .slice none 0 0, .slice none 0 0], .int .i64 (s : Nat), .int .i64 190])) (((w3.setCell ⟨B, 0, none⟩ (.int .i64 0)).setCell ⟨B, 1, none⟩ (.slice none 0 0)).setCell ⟨B, 2, none⟩ (.slice none 0 0)).drew := by
  have h3 : Below w.heap.size w w3 := hb.trans (ms_below hs hwM hb.size)
  exact ⟨(0, [], [], 190), s, none, 0, none, 0, hR, rfl, OwnI.nil _ _, OwnI.nil _ _, Below.drew (below_set (below_set (below_set h3 hwB _) hwB _) hwB _)⟩
set_option maxHeartbeats 8000000 in
set_option maxRecDepth 100000 in
theorem run21_b (w : World) (c : Co) (v : Value) (S S' : Nat → Prop) (l : List Int) (A : Option Addr) (cA : Nat) (F : Nat) (hv : CAt w S c v) (hI : IAt w S' l A cA) (hnn : Ev.nodes c ≤ 65536) (hg : goodB c = true) (hl : l.length ≤ 256) (hF : F ≤ 65536) (gg : Nat) (s : Nat) (ws : List Int) (hE : Ev.ev F gg c .nil 0 [] = some (.stop (-1), s, ws)) : Calls Try.prog 19 #[v, .slice A l.length cA, .int .i64 F] w (RunV c l F w) := by
  have HV := hid (And.intro hv.low (And.intro hg (And.intro hI (And.intro hl hF))))
  obtain ⟨k, x, y, m, i, T, tl, tc, A2, l2, c2, rfl⟩ := hv.agg
  have h1 : ¬ (256 < (l.length : Int)) := by omega
  have h2 : ¬ ((F : Int) < 0) := by omega
  have h3 : ¬ (65536 < (F : Int)) := by omega
  have q1 : IntKind.i64.wrap ((l.length : Int) - 1) = (l.length : Int) - 1 := IntWalk.i64_in _ (by omega)
  have HNN := hid hnn
  have HE := hid hE
  clear hE
  clear hv hg hI hl hF hnn
  go_enter Try.func19, Try.ntmps19
  go_wp2_with (go_at_call 14; refine (ref20_GoodX c _ (fun b => b < w.heap.size) _ (HV.out.1.up (by go_grown : Below w.heap.size w _)) HNN.out).mono ?_; rw [HV.out.2.1]; rintro e w1 ⟨rfl, b1⟩; have B1 := hid (below_hop b1 (by go_grown : Below w.heap.size w _)); have BR := hid ((Blk.new' (w := w.alloc (.cells #[.int .i64 k, .int .i64 x, .int .i64 y, .int .i64 m, .bool i, .slice T tl tc, .slice A2 l2 c2] 25)) (by simp) 31 #[.int .i64 0, .slice none 0 0, .slice none 0 0] : Blk _ (w.heap.size + 1) _ _).below b1 (by simp)); have BC := hid (((Blk.new w 25 #[.int .i64 k, .int .i64 x, .int .i64 y, .int .i64 m, .bool i, .slice T tl tc, .slice A2 l2 c2]).alloc _).below b1 (by simp; omega)); obtain ⟨o0, o1, o2⟩ := BR.out.three; have f0 := BR.out.frozen 0; have f1 := BR.out.frozen 1; have f2 := BR.out.frozen 2; clear b1)
  have BW := hid (al2 w1 (.cells #[.int .i64 0, .int .i64 F, .int .i64 0, .slice none 0 0] 54) (.cells #[.bool false, .int .i64 0, .slice none 0 0, .int .i64 0, .int .i64 0, .pointer none, .pointer none] 60))
  have MM := hid ((run_rst F w1 HV.out.2.2.2.2).below (al1 _ (.cells #[.bool false, .int .i64 0, .slice none 0 0, .int .i64 0, .int .i64 0, .pointer none, .pointer none] 60)))
  have VV := hid (show RAt ((w1.alloc (.cells #[.int .i64 0, .int .i64 F, .int .i64 0, .slice none 0 0] 54)).alloc (.cells #[.bool false, .int .i64 0, .slice none 0 0, .int .i64 0, .int .i64 0, .pointer none, .pointer none] 60)) (SL w1.heap.size) (.con 0 []) (.pointer (some ⟨w1.heap.size + 1, 0, none⟩)) from con0_new (by simp) (fun b hb => sl_of (by simp at hb; omega)))
  go_loopg [10, 11] l.length (fun gg z10 z11 wr => ∃ (lp : Option Addr), gg ≤ l.length ∧ z11 = .int .i64 ((gg : Int) - 1) ∧ z10 = .pointer lp ∧ Hid (RAt wr (SL w1.heap.size) (inputV (l.drop gg)) (.pointer lp)) ∧ Hid (Below ((w1.alloc (.cells #[.int .i64 0, .int .i64 F, .int .i64 0, .slice none 0 0] 54)).alloc (.cells #[.bool false, .int .i64 0, .slice none 0 0, .int .i64 0, .int .i64 0, .pointer none, .pointer none] 60)).heap.size ((w1.alloc (.cells #[.int .i64 0, .int .i64 F, .int .i64 0, .slice none 0 0] 54)).alloc (.cells #[.bool false, .int .i64 0, .slice none 0 0, .int .i64 0, .int .i64 0, .pointer none, .pointer none] 60)) wr))
  case atStart => exact ⟨_, Nat.le_refl _, rfl, rfl, hid (by rw [List.drop_length, inputV]; exact VV.out), hid (Below.refl _ _)⟩
  case round =>
    obtain ⟨lp, hgl, rfl, rfl, hL, hB⟩ := hrel
    rcases Nat.eq_zero_or_pos gk with rfl | hp
    · have HWB := hid (below_hop hB.out (below_hop BW.out B1.out))
      have hMl : w1.heap.size < wr.heap.size := by have := hB.out.size; simp at this; omega
      have RM := hid (MM.out.below ((hB.out).mono (Nat.le_refl _)))
      have CP := hid (run_cpt (S := SL w1.heap.size) ((BC.out.below BW.out BC.out.lt).below hB.out (by have := BC.out.lt; simp; omega)) (sl_of (by have := BC.out.lt; omega)) ((HV.out.1.up HWB.out).mono (fun b hb _ => sl_of (by have := B1.out.size; omega))))
      have BRR := hid ((BR.out.below BW.out BR.out.lt).below hB.out (by have := BR.out.lt; simp; omega))
      have LL := hid (show RAt wr (SL w1.heap.size) (inputV l) (.pointer lp) from hL.out)
      have C1 := hid ((evR_all F gg c .nil 0 [] _ _ _ HE.out (fo_of HV.out.2.1) (fun _ => True) wr w1.heap.size ⟨w.heap.size, 0, none⟩ none (.slice none 0 0) RM.out CP.out (by rw [REAt])).mono (fun _ _ h => evq_stR h))
      clear hB hL hgl o0 o1 o2 f0 f1 f2
      go_wp2_with (go_at_call 32; (refine C1.out.mono ?_); clear C1; rintro e3 w3 ⟨wv3, pp, rfl, hm3, hs3⟩; (obtain ⟨A3, c3, hwv, _⟩ := hm3.own.slice); subst hwv; (obtain ⟨x0, x1, x2, x3⟩ := hm3.blk.four); have hlM := hm3.blk.lt; have D := hid (And.intro hm3 hs3); clear hm3 hs3)
      have BR3 := hid (keepB D.out.2 BRR.out (by have := BR.out.lt; omega))
      have BM3 := hid D.out.1.blk
      obtain ⟨p0, p1, p2⟩ := BR3.out.three
      have q0 := BR3.out.frozen 0
      have q1' := BR3.out.frozen 1
      have q2' := BR3.out.frozen 2
      have hlB := BR3.out.lt
      have nMB : ¬ w1.heap.size = w.heap.size + 1 := by have := BR.out.lt; omega
      have nBM : ¬ w.heap.size + 1 = w1.heap.size := fun h => nMB h.symm
      go_region
      go_wp2
      have BF := (((BR3.out.set_ 0 (.int .i64 0)).set_ 1 (.slice none 0 0)).set_ 2 (.slice none 0 0))
      refine ret_run21 rfl rfl rfl (Blk.drew BF : Blk _ (w.heap.size + 1) _ #[.int .i64 0, .slice none 0 0, .slice none 0 0]) rfl ?_
      exact run_endB HWB.out D.out.2 (by have := B1.out.size; omega) hMl (.inr (.inr ⟨HV.out.2.1, HV.out.2.2.2.1, h2, h3, gg, .stop (-1), ws, by (show Ev.whole (F : Int).toNat gg c l = _); rw [Int.toNat_natCast]; exact Ev.bnd_stop HE.out, by rfl⟩))
    obtain ⟨j, hj⟩ : ∃ j, gk = j + 1 := ⟨gk - 1, by omega⟩
    subst hj
    have e1 : ((j + 1 : Nat) : Int) - 1 = j := by omega
    have hlt : j < l.length := by omega
    have hlt' : (j : Int) < l.length := by omega
    have hj0 : (0 : Int) ≤ j := by omega
    rw [e1]
    have HW := hid (below_hop hB.out (below_hop BW.out B1.out))
    obtain ⟨ad, rfl, hS9, y0, _⟩ := (HV.out.2.2.1.keep (fun b hb' hl => ⟨HW.out.block b hl, hb'⟩)).2 j hlt
    obtain ⟨t, ht9⟩ : ∃ t, t = l[j]'hlt := ⟨_, rfl⟩
    rw [← ht9] at y0
    have HT := hid (show inputV (l.drop j) = .con 1 [.num (w31 t), inputV (l.drop (j + 1))] by rw [List.drop_eq_getElem_cons hlt, inputV, ht9])
    have q2 : IntKind.i64.wrap ((j : Int) - 1) = (j : Int) - 1 := IntWalk.i64_in _ (by omega)
    clear ht9 hS9 e1
    go_wp2_with (first
      | (go_at_call 31; (refine (ref10_Wrap t _).mono ?_); rintro e w3 ⟨rfl, h9⟩; have h8 := h9.symm; subst h8; clear h9)
      | (go_at_call 30; (refine (r21_number _ _).mono ?_); rintro e w3 ⟨rfl, rfl⟩))
    go_roundg j
    case rel =>
      have hsz := hB.out.size
      exact ⟨_, by omega, rfl, rfl, hid (by rw [HT.out]; exact con2_new (fun b hb => sl_of (by simp at hsz; omega)) (w31_wf t) hL.out), hid (below_hop (alR3 _ _ _ _) hB.out)⟩
    case measure => omega
set_option maxHeartbeats 8000000 in
set_option maxRecDepth 100000 in
theorem run21_c (w : World) (c : Co) (v : Value) (S S' : Nat → Prop) (l : List Int) (A : Option Addr) (cA : Nat) (F : Nat) (hv : CAt w S c v) (hI : IAt w S' l A cA) (hnn : Ev.nodes c ≤ 65536) (hg : goodB c = true) (hl : l.length ≤ 256) (hF : F ≤ 65536) (gg : Nat) (j : Int) (s s1 : Nat) (ws ws1 : List Int) (vf : Va) (hE : Ev.ev F gg c .nil 0 [] = some (.ok vf, s1, ws1) ∧ Ev.app F (Ev.ev F gg) vf (inputV l) s1 ws1 = some (.stop j, s, ws)) (hj : j ≠ -1 ∧ j ≠ 1 ∧ j ≠ 0 ∧ ¬ j < 0) : Calls Try.prog 19 #[v, .slice A l.length cA, .int .i64 F] w (RunV c l F w) := by
  have HV := hid (And.intro hv.low (And.intro hg (And.intro hI (And.intro hl hF))))
  obtain ⟨k, x, y, m, i, T, tl, tc, A2, l2, c2, rfl⟩ := hv.agg
  have h1 : ¬ (256 < (l.length : Int)) := by omega
  have h2 : ¬ ((F : Int) < 0) := by omega
  have h3 : ¬ (65536 < (F : Int)) := by omega
  have q1 : IntKind.i64.wrap ((l.length : Int) - 1) = (l.length : Int) - 1 := IntWalk.i64_in _ (by omega)
  have HNN := hid hnn
  have HE := hid hE
  have HJ := hid hj
  clear hE hj
  clear hv hg hI hl hF hnn
  go_enter Try.func19, Try.ntmps19
  go_wp2_with (go_at_call 14; refine (ref20_GoodX c _ (fun b => b < w.heap.size) _ (HV.out.1.up (by go_grown : Below w.heap.size w _)) HNN.out).mono ?_; rw [HV.out.2.1]; rintro e w1 ⟨rfl, b1⟩; have B1 := hid (below_hop b1 (by go_grown : Below w.heap.size w _)); have BR := hid ((Blk.new' (w := w.alloc (.cells #[.int .i64 k, .int .i64 x, .int .i64 y, .int .i64 m, .bool i, .slice T tl tc, .slice A2 l2 c2] 25)) (by simp) 31 #[.int .i64 0, .slice none 0 0, .slice none 0 0] : Blk _ (w.heap.size + 1) _ _).below b1 (by simp)); have BC := hid (((Blk.new w 25 #[.int .i64 k, .int .i64 x, .int .i64 y, .int .i64 m, .bool i, .slice T tl tc, .slice A2 l2 c2]).alloc _).below b1 (by simp; omega)); obtain ⟨o0, o1, o2⟩ := BR.out.three; have f0 := BR.out.frozen 0; have f1 := BR.out.frozen 1; have f2 := BR.out.frozen 2; clear b1)
  have BW := hid (al2 w1 (.cells #[.int .i64 0, .int .i64 F, .int .i64 0, .slice none 0 0] 54) (.cells #[.bool false, .int .i64 0, .slice none 0 0, .int .i64 0, .int .i64 0, .pointer none, .pointer none] 60))
  have MM := hid ((run_rst F w1 HV.out.2.2.2.2).below (al1 _ (.cells #[.bool false, .int .i64 0, .slice none 0 0, .int .i64 0, .int .i64 0, .pointer none, .pointer none] 60)))
  have VV := hid (show RAt ((w1.alloc (.cells #[.int .i64 0, .int .i64 F, .int .i64 0, .slice none 0 0] 54)).alloc (.cells #[.bool false, .int .i64 0, .slice none 0 0, .int .i64 0, .int .i64 0, .pointer none, .pointer none] 60)) (SL w1.heap.size) (.con 0 []) (.pointer (some ⟨w1.heap.size + 1, 0, none⟩)) from con0_new (by simp) (fun b hb => sl_of (by simp at hb; omega)))
  go_loopg [10, 11] l.length (fun gg z10 z11 wr => ∃ (lp : Option Addr), gg ≤ l.length ∧ z11 = .int .i64 ((gg : Int) - 1) ∧ z10 = .pointer lp ∧ Hid (RAt wr (SL w1.heap.size) (inputV (l.drop gg)) (.pointer lp)) ∧ Hid (Below ((w1.alloc (.cells #[.int .i64 0, .int .i64 F, .int .i64 0, .slice none 0 0] 54)).alloc (.cells #[.bool false, .int .i64 0, .slice none 0 0, .int .i64 0, .int .i64 0, .pointer none, .pointer none] 60)).heap.size ((w1.alloc (.cells #[.int .i64 0, .int .i64 F, .int .i64 0, .slice none 0 0] 54)).alloc (.cells #[.bool false, .int .i64 0, .slice none 0 0, .int .i64 0, .int .i64 0, .pointer none, .pointer none] 60)) wr))
  case atStart => exact ⟨_, Nat.le_refl _, rfl, rfl, hid (by rw [List.drop_length, inputV]; exact VV.out), hid (Below.refl _ _)⟩
  case round =>
    obtain ⟨lp, hgl, rfl, rfl, hL, hB⟩ := hrel
    rcases Nat.eq_zero_or_pos gk with rfl | hp
    · have HWB := hid (below_hop hB.out (below_hop BW.out B1.out))
      have hMl : w1.heap.size < wr.heap.size := by have := hB.out.size; simp at this; omega
      have RM := hid (MM.out.below ((hB.out).mono (Nat.le_refl _)))
      have CP := hid (run_cpt (S := SL w1.heap.size) ((BC.out.below BW.out BC.out.lt).below hB.out (by have := BC.out.lt; simp; omega)) (sl_of (by have := BC.out.lt; omega)) ((HV.out.1.up HWB.out).mono (fun b hb _ => sl_of (by have := B1.out.size; omega))))
      have BRR := hid ((BR.out.below BW.out BR.out.lt).below hB.out (by have := BR.out.lt; simp; omega))
      have LL := hid (show RAt wr (SL w1.heap.size) (inputV l) (.pointer lp) from hL.out)
      have C1 := hid ((evR_all F gg c .nil 0 [] _ _ _ HE.out.1 (fo_of HV.out.2.1) (fun _ => True) wr w1.heap.size ⟨w.heap.size, 0, none⟩ none (.slice none 0 0) RM.out CP.out (by rw [REAt])).mono (fun _ _ h => evq_okR h))
      have hkb : (j == 0) = false := by simpa using HJ.out.2.2.1
      have hk1 : (j == -1) = false := by simpa using HJ.out.1
      have hk2 : (j != 1) = true := by simpa using HJ.out.2.1
      clear hB hL hgl o0 o1 o2 f0 f1 f2
      go_wp2_with (first
        | (go_at_call 32; (refine C1.out.mono ?_); clear C1; rintro e3 w3 ⟨wv3, pp, rfl, hm3, hs3, hr3⟩; (obtain ⟨x0, x1, x2, x3⟩ := hm3.blk.four); have hlM := hm3.blk.lt; have D3 := hid hs3; have C2 := hid ((r_apply F gg (evR_all F gg) (Now (fun _ => True) wr) w3 w1.heap.size s1 ws1 wv3 (.pointer pp) (.pointer lp) vf (inputV l) _ s ws HE.out.2 hm3 hr3 (RAt.keep (fun k hk hl => ⟨(hs3.keepT k hk hl).1, (hs3.keepT k hk hl).2.1, .inl trivial⟩) _ _ LL.out)).mono (fun _ _ h => evq_stR h)); clear hm3 hs3 hr3)
        | (go_at_call 33; (refine C2.out.mono ?_); clear C2; rintro e4 w4 ⟨wv4, pp4, rfl, hm4, hs4⟩; (obtain ⟨A3, c3, hwv, _⟩ := hm4.own.slice); subst hwv; clear x0 x1 x2 x3 hlM; (obtain ⟨x0, x1, x2, x3⟩ := hm4.blk.four); have hlM := hm4.blk.lt; have D := hid (And.intro hm4 (D3.out.trans hs4)); clear hm4 hs4))
      have BR3 := hid (keepB D.out.2 BRR.out (by have := BR.out.lt; omega))
      have BM3 := hid D.out.1.blk
      obtain ⟨p0, p1, p2⟩ := BR3.out.three
      have q0 := BR3.out.frozen 0
      have q1' := BR3.out.frozen 1
      have q2' := BR3.out.frozen 2
      have hlB := BR3.out.lt
      have nMB : ¬ w1.heap.size = w.heap.size + 1 := by have := BR.out.lt; omega
      have nBM : ¬ w.heap.size + 1 = w1.heap.size := fun h => nMB h.symm
      go_region
      go_wp2
      have BF := (((BR3.out.set_ 0 (.int .i64 j)).set_ 1 (.slice A3 ws.length c3)).set_ 2 (.slice none 0 0))
      refine ret_run21 rfl rfl rfl (Blk.drew BF : Blk _ (w.heap.size + 1) _ #[.int .i64 j, .slice A3 ws.length c3, .slice none 0 0]) rfl ?_
      exact run_end D.out.1.own HWB.out D.out.2 (by have := BR.out.lt; omega) (by have := B1.out.size; omega) hMl (.inr (.inr ⟨HV.out.2.1, HV.out.2.2.2.1, h2, h3, gg, .stop j, ws, by (show Ev.whole (F : Int).toNat gg c l = _); rw [Int.toNat_natCast]; unfold Ev.whole; rw [Ev.bnd_ok HE.out.1]; exact HE.out.2, by rw [show resO (Out.stop j : Out Va) = .stop j from rfl, fin, if_neg (by have := HJ.out.2.2.2; omega)]⟩))
    obtain ⟨j, hj⟩ : ∃ j, gk = j + 1 := ⟨gk - 1, by omega⟩
    subst hj
    have e1 : ((j + 1 : Nat) : Int) - 1 = j := by omega
    have hlt : j < l.length := by omega
    have hlt' : (j : Int) < l.length := by omega
    have hj0 : (0 : Int) ≤ j := by omega
    rw [e1]
    have HW := hid (below_hop hB.out (below_hop BW.out B1.out))
    obtain ⟨ad, rfl, hS9, y0, _⟩ := (HV.out.2.2.1.keep (fun b hb' hl => ⟨HW.out.block b hl, hb'⟩)).2 j hlt
    obtain ⟨t, ht9⟩ : ∃ t, t = l[j]'hlt := ⟨_, rfl⟩
    rw [← ht9] at y0
    have HT := hid (show inputV (l.drop j) = .con 1 [.num (w31 t), inputV (l.drop (j + 1))] by rw [List.drop_eq_getElem_cons hlt, inputV, ht9])
    have q2 : IntKind.i64.wrap ((j : Int) - 1) = (j : Int) - 1 := IntWalk.i64_in _ (by omega)
    clear ht9 hS9 e1
    go_wp2_with (first
      | (go_at_call 31; (refine (ref10_Wrap t _).mono ?_); rintro e w3 ⟨rfl, h9⟩; have h8 := h9.symm; subst h8; clear h9)
      | (go_at_call 30; (refine (r21_number _ _).mono ?_); rintro e w3 ⟨rfl, rfl⟩))
    go_roundg j
    case rel =>
      have hsz := hB.out.size
      exact ⟨_, by omega, rfl, rfl, hid (by rw [HT.out]; exact con2_new (fun b hb => sl_of (by simp at hsz; omega)) (w31_wf t) hL.out), hid (below_hop (alR3 _ _ _ _) hB.out)⟩
    case measure => omega
set_option maxHeartbeats 8000000 in
set_option maxRecDepth 100000 in
theorem run21_d (w : World) (c : Co) (v : Value) (S S' : Nat → Prop) (l : List Int) (A : Option Addr) (cA : Nat) (F : Nat) (hv : CAt w S c v) (hI : IAt w S' l A cA) (hnn : Ev.nodes c ≤ 65536) (hg : goodB c = true) (hl : l.length ≤ 256) (hF : F ≤ 65536) (gg : Nat) (s s1 : Nat) (ws ws1 : List Int) (vf : Va) (hE : Ev.ev F gg c .nil 0 [] = some (.ok vf, s1, ws1) ∧ Ev.app F (Ev.ev F gg) vf (inputV l) s1 ws1 = some (.stop (-1), s, ws)) : Calls Try.prog 19 #[v, .slice A l.length cA, .int .i64 F] w (RunV c l F w) := by
  have HV := hid (And.intro hv.low (And.intro hg (And.intro hI (And.intro hl hF))))
  obtain ⟨k, x, y, m, i, T, tl, tc, A2, l2, c2, rfl⟩ := hv.agg
  have h1 : ¬ (256 < (l.length : Int)) := by omega
  have h2 : ¬ ((F : Int) < 0) := by omega
  have h3 : ¬ (65536 < (F : Int)) := by omega
  have q1 : IntKind.i64.wrap ((l.length : Int) - 1) = (l.length : Int) - 1 := IntWalk.i64_in _ (by omega)
  have HNN := hid hnn
  have HE := hid hE
  clear hE
  clear hv hg hI hl hF hnn
  go_enter Try.func19, Try.ntmps19
  go_wp2_with (go_at_call 14; refine (ref20_GoodX c _ (fun b => b < w.heap.size) _ (HV.out.1.up (by go_grown : Below w.heap.size w _)) HNN.out).mono ?_; rw [HV.out.2.1]; rintro e w1 ⟨rfl, b1⟩; have B1 := hid (below_hop b1 (by go_grown : Below w.heap.size w _)); have BR := hid ((Blk.new' (w := w.alloc (.cells #[.int .i64 k, .int .i64 x, .int .i64 y, .int .i64 m, .bool i, .slice T tl tc, .slice A2 l2 c2] 25)) (by simp) 31 #[.int .i64 0, .slice none 0 0, .slice none 0 0] : Blk _ (w.heap.size + 1) _ _).below b1 (by simp)); have BC := hid (((Blk.new w 25 #[.int .i64 k, .int .i64 x, .int .i64 y, .int .i64 m, .bool i, .slice T tl tc, .slice A2 l2 c2]).alloc _).below b1 (by simp; omega)); obtain ⟨o0, o1, o2⟩ := BR.out.three; have f0 := BR.out.frozen 0; have f1 := BR.out.frozen 1; have f2 := BR.out.frozen 2; clear b1)
  have BW := hid (al2 w1 (.cells #[.int .i64 0, .int .i64 F, .int .i64 0, .slice none 0 0] 54) (.cells #[.bool false, .int .i64 0, .slice none 0 0, .int .i64 0, .int .i64 0, .pointer none, .pointer none] 60))
  have MM := hid ((run_rst F w1 HV.out.2.2.2.2).below (al1 _ (.cells #[.bool false, .int .i64 0, .slice none 0 0, .int .i64 0, .int .i64 0, .pointer none, .pointer none] 60)))
  have VV := hid (show RAt ((w1.alloc (.cells #[.int .i64 0, .int .i64 F, .int .i64 0, .slice none 0 0] 54)).alloc (.cells #[.bool false, .int .i64 0, .slice none 0 0, .int .i64 0, .int .i64 0, .pointer none, .pointer none] 60)) (SL w1.heap.size) (.con 0 []) (.pointer (some ⟨w1.heap.size + 1, 0, none⟩)) from con0_new (by simp) (fun b hb => sl_of (by simp at hb; omega)))
  go_loopg [10, 11] l.length (fun gg z10 z11 wr => ∃ (lp : Option Addr), gg ≤ l.length ∧ z11 = .int .i64 ((gg : Int) - 1) ∧ z10 = .pointer lp ∧ Hid (RAt wr (SL w1.heap.size) (inputV (l.drop gg)) (.pointer lp)) ∧ Hid (Below ((w1.alloc (.cells #[.int .i64 0, .int .i64 F, .int .i64 0, .slice none 0 0] 54)).alloc (.cells #[.bool false, .int .i64 0, .slice none 0 0, .int .i64 0, .int .i64 0, .pointer none, .pointer none] 60)).heap.size ((w1.alloc (.cells #[.int .i64 0, .int .i64 F, .int .i64 0, .slice none 0 0] 54)).alloc (.cells #[.bool false, .int .i64 0, .slice none 0 0, .int .i64 0, .int .i64 0, .pointer none, .pointer none] 60)) wr))
  case atStart => exact ⟨_, Nat.le_refl _, rfl, rfl, hid (by rw [List.drop_length, inputV]; exact VV.out), hid (Below.refl _ _)⟩
  case round =>
    obtain ⟨lp, hgl, rfl, rfl, hL, hB⟩ := hrel
    rcases Nat.eq_zero_or_pos gk with rfl | hp
    · have HWB := hid (below_hop hB.out (below_hop BW.out B1.out))
      have hMl : w1.heap.size < wr.heap.size := by have := hB.out.size; simp at this; omega
      have RM := hid (MM.out.below ((hB.out).mono (Nat.le_refl _)))
      have CP := hid (run_cpt (S := SL w1.heap.size) ((BC.out.below BW.out BC.out.lt).below hB.out (by have := BC.out.lt; simp; omega)) (sl_of (by have := BC.out.lt; omega)) ((HV.out.1.up HWB.out).mono (fun b hb _ => sl_of (by have := B1.out.size; omega))))
      have BRR := hid ((BR.out.below BW.out BR.out.lt).below hB.out (by have := BR.out.lt; simp; omega))
      have LL := hid (show RAt wr (SL w1.heap.size) (inputV l) (.pointer lp) from hL.out)
      have C1 := hid ((evR_all F gg c .nil 0 [] _ _ _ HE.out.1 (fo_of HV.out.2.1) (fun _ => True) wr w1.heap.size ⟨w.heap.size, 0, none⟩ none (.slice none 0 0) RM.out CP.out (by rw [REAt])).mono (fun _ _ h => evq_okR h))
      clear hB hL hgl o0 o1 o2 f0 f1 f2
      go_wp2_with (first
        | (go_at_call 32; (refine C1.out.mono ?_); clear C1; rintro e3 w3 ⟨wv3, pp, rfl, hm3, hs3, hr3⟩; (obtain ⟨x0, x1, x2, x3⟩ := hm3.blk.four); have hlM := hm3.blk.lt; have D3 := hid hs3; have C2 := hid ((r_apply F gg (evR_all F gg) (Now (fun _ => True) wr) w3 w1.heap.size s1 ws1 wv3 (.pointer pp) (.pointer lp) vf (inputV l) _ s ws HE.out.2 hm3 hr3 (RAt.keep (fun k hk hl => ⟨(hs3.keepT k hk hl).1, (hs3.keepT k hk hl).2.1, .inl trivial⟩) _ _ LL.out)).mono (fun _ _ h => evq_stR h)); clear hm3 hs3 hr3)
        | (go_at_call 33; (refine C2.out.mono ?_); clear C2; rintro e4 w4 ⟨wv4, pp4, rfl, hm4, hs4⟩; (obtain ⟨A3, c3, hwv, _⟩ := hm4.own.slice); subst hwv; clear x0 x1 x2 x3 hlM; (obtain ⟨x0, x1, x2, x3⟩ := hm4.blk.four); have hlM := hm4.blk.lt; have D := hid (And.intro hm4 (D3.out.trans hs4)); clear hm4 hs4))
      have BR3 := hid (keepB D.out.2 BRR.out (by have := BR.out.lt; omega))
      have BM3 := hid D.out.1.blk
      obtain ⟨p0, p1, p2⟩ := BR3.out.three
      have q0 := BR3.out.frozen 0
      have q1' := BR3.out.frozen 1
      have q2' := BR3.out.frozen 2
      have hlB := BR3.out.lt
      have nMB : ¬ w1.heap.size = w.heap.size + 1 := by have := BR.out.lt; omega
      have nBM : ¬ w.heap.size + 1 = w1.heap.size := fun h => nMB h.symm
      go_region
      go_wp2
      have BF := (((BR3.out.set_ 0 (.int .i64 0)).set_ 1 (.slice none 0 0)).set_ 2 (.slice none 0 0))
      refine ret_run21 rfl rfl rfl (Blk.drew BF : Blk _ (w.heap.size + 1) _ #[.int .i64 0, .slice none 0 0, .slice none 0 0]) rfl ?_
      exact run_endB HWB.out D.out.2 (by have := B1.out.size; omega) hMl (.inr (.inr ⟨HV.out.2.1, HV.out.2.2.2.1, h2, h3, gg, .stop (-1), ws, by (show Ev.whole (F : Int).toNat gg c l = _); rw [Int.toNat_natCast]; unfold Ev.whole; rw [Ev.bnd_ok HE.out.1]; exact HE.out.2, by rfl⟩))
    obtain ⟨j, hj⟩ : ∃ j, gk = j + 1 := ⟨gk - 1, by omega⟩
    subst hj
    have e1 : ((j + 1 : Nat) : Int) - 1 = j := by omega
    have hlt : j < l.length := by omega
    have hlt' : (j : Int) < l.length := by omega
    have hj0 : (0 : Int) ≤ j := by omega
    rw [e1]
    have HW := hid (below_hop hB.out (below_hop BW.out B1.out))
    obtain ⟨ad, rfl, hS9, y0, _⟩ := (HV.out.2.2.1.keep (fun b hb' hl => ⟨HW.out.block b hl, hb'⟩)).2 j hlt
    obtain ⟨t, ht9⟩ : ∃ t, t = l[j]'hlt := ⟨_, rfl⟩
    rw [← ht9] at y0
    have HT := hid (show inputV (l.drop j) = .con 1 [.num (w31 t), inputV (l.drop (j + 1))] by rw [List.drop_eq_getElem_cons hlt, inputV, ht9])
    have q2 : IntKind.i64.wrap ((j : Int) - 1) = (j : Int) - 1 := IntWalk.i64_in _ (by omega)
    clear ht9 hS9 e1
    go_wp2_with (first
      | (go_at_call 31; (refine (ref10_Wrap t _).mono ?_); rintro e w3 ⟨rfl, h9⟩; have h8 := h9.symm; subst h8; clear h9)
      | (go_at_call 30; (refine (r21_number _ _).mono ?_); rintro e w3 ⟨rfl, rfl⟩))
    go_roundg j
    case rel =>
      have hsz := hB.out.size
      exact ⟨_, by omega, rfl, rfl, hid (by rw [HT.out]; exact con2_new (fun b hb => sl_of (by simp at hsz; omega)) (w31_wf t) hL.out), hid (below_hop (alR3 _ _ _ _) hB.out)⟩
    case measure => omega
end Go.Proofs.Ytohdaclbgedeiaa
/-
  THE WALK OF athanorref21's Run: its ends behind show.
-/
namespace Go.Proofs.Ytohdaclbgedeiaa
set_option linter.all false
open Go.ChangeShapes Go.WideShapes Go.ChangeAt Go.RowKit
open Ev (showV Co Va En Out goodB whole fin resO RunIs whole_ends inputV goodM goodML addM bindL formB)
theorem below_grown0 {w w1 : World} (h : w.grownBy w1 none) : Below w.heap.size w w1 := (Below.refl _ _).grown h (Nat.le_refl _) (fun k hk => by cases hk)
/-- What show tells of a value that can be shown. -/
def ShO2 (ls : List Int) (B : Nat) (w : World) (e : Ending) (w1 : World) : Prop := ∃ A c, e = .returned (.tuple #[.slice A ls.length c, .int .i64 1]) ∧ Below w.heap.size w w1 ∧ OwnI w1 B (.slice A ls.length c) ls
def ShS2 (k : Int) (w : World) (e : Ending) (w1 : World) : Prop := ∃ lv, e = .returned (.tuple #[lv, .int .i64 k]) ∧ Below w.heap.size w w1
theorem sh_ok {u : Va} {ls : List Int} {S : Nat → Prop} {w : World} {v : Value} (h : showV u [] = .ok ls) (hv : RAt w S u v) : Calls Try.prog 34 #[v, .slice none 0 0] w (ShO2 ls w.heap.size w) := by
  refine (show_all _ u (Nat.le_refl _) S w v w.heap.size (.slice none 0 0) [] (Nat.le_refl _) hv (fun k _ _ => by simp [Value.ownBlock]) (OwnI.nil _ _) (by simp)).mono ?_
  rintro e w1 ⟨lv, en, rfl, hg, hq⟩
  rw [h] at hq
  obtain ⟨rfl, ho, _, _⟩ := hq
  obtain ⟨A, c, hwv, _⟩ := ho.slice
  subst hwv
  exact ⟨A, c, rfl, below_grown0 hg, ho⟩
theorem sh_st {u : Va} {k : Int} {S : Nat → Prop} {w : World} {v : Value} (h : showV u [] = .stop k) (hv : RAt w S u v) : Calls Try.prog 34 #[v, .slice none 0 0] w (ShS2 k w) := by
  refine (show_all _ u (Nat.le_refl _) S w v w.heap.size (.slice none 0 0) [] (Nat.le_refl _) hv (fun k _ _ => by simp [Value.ownBlock]) (OwnI.nil _ _) (by simp)).mono ?_
  rintro e w1 ⟨lv, en, rfl, hg, hq⟩
  rw [h] at hq
  dsimp only at hq
  subst hq
  exact ⟨lv, rfl, below_grown0 hg⟩
theorem run_endS {w wr w3 : World} {c : Co} {l : List Int} {F s M B : Nat} {ws ls : List Int} {A3 A5 : Option Addr} {c3 c5 : Nat} (ho : OwnI w3 (M + 1) (.slice A3 ws.length c3) ws) (ho5 : OwnI w3 (M + 1) (.slice A5 ls.length c5) ls) (hb : Below w.heap.size w wr) (hs : MStep M (.slice none 0 0) (.slice A3 ws.length c3) wr w3) (hBM : B < M) (hwM : w.heap.size ≤ M) (hMl : M < wr.heap.size) (hR : RunIs c l F (1, ws, ls, 0) s) (hwB : w.heap.size ≤ B := by omega) :
    RunV c l F w (.returned (.tuple #[.agg #[.int .i64 1, .slice A3 ws.length c3, .slice A5 ls.length c5], .int .i64 (s : Nat), .int .i64 0])) (((w3.setCell ⟨B, 0, none⟩ (.int .i64 1)).setCell ⟨B, 1, none⟩ (.slice A3 ws.length c3)).setCell ⟨B, 2, none⟩ (.slice A5 ls.length c5)).drew := by
  have h3 : Below w.heap.size w w3 := hb.trans (ms_below hs hwM hb.size)
  exact ⟨(1, ws, ls, 0), s, A3, c3, A5, c5, hR, rfl, (OwnI.low (((ho.set_ (a := ⟨B, 0, none⟩) (by dsimp only; omega) _).set_ (a := ⟨B, 1, none⟩) (by dsimp only; omega) _).set_ (a := ⟨B, 2, none⟩) (by dsimp only; omega) _) (by omega)).drew, (OwnI.low (((ho5.set_ (a := ⟨B, 0, none⟩) (by dsimp only; omega) _).set_ (a := ⟨B, 1, none⟩) (by dsimp only; omega) _).set_ (a := ⟨B, 2, none⟩) (by dsimp only; omega) _) (by omega)).drew, Below.drew (below_set (below_set (below_set h3 hwB _) hwB _) hwB _)⟩
theorem MStep.below2 {M : Nat} {wv wv1 : Value} {w w1 w2 : World} (h : MStep M wv wv1 w w1) (b : Below w1.heap.size w1 w2) (k : Int) : MStep M wv wv1 w (w2.setCell ⟨M, 2, none⟩ (.int .i64 k)) := (h.below b).trans (set_step M 2 _ _ _)
set_option maxHeartbeats 8000000 in
set_option maxRecDepth 100000 in
theorem run21_e (w : World) (c : Co) (v : Value) (S S' : Nat → Prop) (l : List Int) (A : Option Addr) (cA : Nat) (F : Nat) (hv : CAt w S c v) (hI : IAt w S' l A cA) (hnn : Ev.nodes c ≤ 65536) (hg : goodB c = true) (hl : l.length ≤ 256) (hF : F ≤ 65536) (gg : Nat) (s s1 : Nat) (ws ws1 ls : List Int) (vf va : Va) (hE : Ev.ev F gg c .nil 0 [] = some (.ok vf, s1, ws1) ∧ Ev.app F (Ev.ev F gg) vf (inputV l) s1 ws1 = some (.ok va, s, ws) ∧ showV va [] = .ok ls) : Calls Try.prog 19 #[v, .slice A l.length cA, .int .i64 F] w (RunV c l F w) := by
  have HV := hid (And.intro hv.low (And.intro hg (And.intro hI (And.intro hl hF))))
  obtain ⟨k, x, y, m, i, T, tl, tc, A2, l2, c2, rfl⟩ := hv.agg
  have h1 : ¬ (256 < (l.length : Int)) := by omega
  have h2 : ¬ ((F : Int) < 0) := by omega
  have h3 : ¬ (65536 < (F : Int)) := by omega
  have q1 : IntKind.i64.wrap ((l.length : Int) - 1) = (l.length : Int) - 1 := IntWalk.i64_in _ (by omega)
  have HNN := hid hnn
  have HE := hid hE
  clear hE
  clear hv hg hI hl hF hnn
  go_enter Try.func19, Try.ntmps19
  go_wp2_with (go_at_call 14; refine (ref20_GoodX c _ (fun b => b < w.heap.size) _ (HV.out.1.up (by go_grown : Below w.heap.size w _)) HNN.out).mono ?_; rw [HV.out.2.1]; rintro e w1 ⟨rfl, b1⟩; have B1 := hid (below_hop b1 (by go_grown : Below w.heap.size w _)); have BR := hid ((Blk.new' (w := w.alloc (.cells #[.int .i64 k, .int .i64 x, .int .i64 y, .int .i64 m, .bool i, .slice T tl tc, .slice A2 l2 c2] 25)) (by simp) 31 #[.int .i64 0, .slice none 0 0, .slice none 0 0] : Blk _ (w.heap.size + 1) _ _).below b1 (by simp)); have BC := hid (((Blk.new w 25 #[.int .i64 k, .int .i64 x, .int .i64 y, .int .i64 m, .bool i, .slice T tl tc, .slice A2 l2 c2]).alloc _).below b1 (by simp; omega)); obtain ⟨o0, o1, o2⟩ := BR.out.three; have f0 := BR.out.frozen 0; have f1 := BR.out.frozen 1; have f2 := BR.out.frozen 2; clear b1)
  have BW := hid (al2 w1 (.cells #[.int .i64 0, .int .i64 F, .int .i64 0, .slice none 0 0] 54) (.cells #[.bool false, .int .i64 0, .slice none 0 0, .int .i64 0, .int .i64 0, .pointer none, .pointer none] 60))
  have MM := hid ((run_rst F w1 HV.out.2.2.2.2).below (al1 _ (.cells #[.bool false, .int .i64 0, .slice none 0 0, .int .i64 0, .int .i64 0, .pointer none, .pointer none] 60)))
  have VV := hid (show RAt ((w1.alloc (.cells #[.int .i64 0, .int .i64 F, .int .i64 0, .slice none 0 0] 54)).alloc (.cells #[.bool false, .int .i64 0, .slice none 0 0, .int .i64 0, .int .i64 0, .pointer none, .pointer none] 60)) (SL w1.heap.size) (.con 0 []) (.pointer (some ⟨w1.heap.size + 1, 0, none⟩)) from con0_new (by simp) (fun b hb => sl_of (by simp at hb; omega)))
  go_loopg [10, 11] l.length (fun gg z10 z11 wr => ∃ (lp : Option Addr), gg ≤ l.length ∧ z11 = .int .i64 ((gg : Int) - 1) ∧ z10 = .pointer lp ∧ Hid (RAt wr (SL w1.heap.size) (inputV (l.drop gg)) (.pointer lp)) ∧ Hid (Below ((w1.alloc (.cells #[.int .i64 0, .int .i64 F, .int .i64 0, .slice none 0 0] 54)).alloc (.cells #[.bool false, .int .i64 0, .slice none 0 0, .int .i64 0, .int .i64 0, .pointer none, .pointer none] 60)).heap.size ((w1.alloc (.cells #[.int .i64 0, .int .i64 F, .int .i64 0, .slice none 0 0] 54)).alloc (.cells #[.bool false, .int .i64 0, .slice none 0 0, .int .i64 0, .int .i64 0, .pointer none, .pointer none] 60)) wr))
  case atStart => exact ⟨_, Nat.le_refl _, rfl, rfl, hid (by rw [List.drop_length, inputV]; exact VV.out), hid (Below.refl _ _)⟩
  case round =>
    obtain ⟨lp, hgl, rfl, rfl, hL, hB⟩ := hrel
    rcases Nat.eq_zero_or_pos gk with rfl | hp
    · have HWB := hid (below_hop hB.out (below_hop BW.out B1.out))
      have hMl : w1.heap.size < wr.heap.size := by have := hB.out.size; simp at this; omega
      have RM := hid (MM.out.below ((hB.out).mono (Nat.le_refl _)))
      have CP := hid (run_cpt (S := SL w1.heap.size) ((BC.out.below BW.out BC.out.lt).below hB.out (by have := BC.out.lt; simp; omega)) (sl_of (by have := BC.out.lt; omega)) ((HV.out.1.up HWB.out).mono (fun b hb _ => sl_of (by have := B1.out.size; omega))))
      have BRR := hid ((BR.out.below BW.out BR.out.lt).below hB.out (by have := BR.out.lt; simp; omega))
      have LL := hid (show RAt wr (SL w1.heap.size) (inputV l) (.pointer lp) from hL.out)
      have C1 := hid ((evR_all F gg c .nil 0 [] _ _ _ HE.out.1 (fo_of HV.out.2.1) (fun _ => True) wr w1.heap.size ⟨w.heap.size, 0, none⟩ none (.slice none 0 0) RM.out CP.out (by rw [REAt])).mono (fun _ _ h => evq_okR h))
      clear hB hL hgl o0 o1 o2 f0 f1 f2
      go_wp2_with (first
        | (go_at_call 32; (refine C1.out.mono ?_); clear C1; rintro e3 w3 ⟨wv3, pp, rfl, hm3, hs3, hr3⟩; (obtain ⟨x0, x1, x2, x3⟩ := hm3.blk.four); have hlM := hm3.blk.lt; have D3 := hid hs3; have C2 := hid ((r_apply F gg (evR_all F gg) (Now (fun _ => True) wr) w3 w1.heap.size s1 ws1 wv3 (.pointer pp) (.pointer lp) vf (inputV l) _ s ws HE.out.2.1 hm3 hr3 (RAt.keep (fun k hk hl => ⟨(hs3.keepT k hk hl).1, (hs3.keepT k hk hl).2.1, .inl trivial⟩) _ _ LL.out)).mono (fun _ _ h => evq_okR h)); clear hm3 hs3 hr3)
        | (go_at_call 33; (refine C2.out.mono ?_); clear C2; rintro e4 w4 ⟨wv4, pp4, rfl, hm4, hs4, hr4⟩; (obtain ⟨A3, c3, hwv, _⟩ := hm4.own.slice); subst hwv; clear x0 x1 x2 x3 hlM; (obtain ⟨x0, x1, x2, x3⟩ := hm4.blk.four); have hlM := hm4.blk.lt; have D4 := hid (And.intro hm4 (D3.out.trans hs4)); have C3 := hid (sh_ok HE.out.2.2 hr4); clear hm4 hs4 hr4)
        | (go_at_call 34; (refine C3.out.mono ?_); clear C3; rintro e5 w5 ⟨A5, c5, rfl, hb5, ho5⟩; (obtain ⟨x0, x1, x2, x3⟩ := (D4.out.1.blk.below hb5 D4.out.1.blk.lt).four); have f2 := (D4.out.1.blk.below hb5 D4.out.1.blk.lt).frozen 2; have D := hid (And.intro ((D4.out.1.below hb5).end_ 1) (And.intro (D4.out.2.below2 hb5 1) (OwnI.set_ (ho5.low (by have := D4.out.1.blk.lt; omega : w1.heap.size + 1 ≤ w4.heap.size)) (a := ⟨w1.heap.size, 2, none⟩) (Nat.lt_succ_self _) (.int .i64 1)))); clear hb5 ho5))
      have BR3 := hid (keepB D.out.2.1 BRR.out (by have := BR.out.lt; omega))
      have BM3 := hid D.out.1.blk
      obtain ⟨p0, p1, p2⟩ := BR3.out.three
      have q0 := BR3.out.frozen 0
      have q1' := BR3.out.frozen 1
      have q2' := BR3.out.frozen 2
      have hlB := BR3.out.lt
      have nMB : ¬ w1.heap.size = w.heap.size + 1 := by have := BR.out.lt; omega
      have nBM : ¬ w.heap.size + 1 = w1.heap.size := fun h => nMB h.symm
      go_region
      go_wp2
      have BF := (((BR3.out.set_ 0 (.int .i64 1)).set_ 1 (.slice A3 ws.length c3)).set_ 2 (.slice A5 ls.length c5))
      refine ret_run21 rfl rfl rfl (Blk.drew BF : Blk _ (w.heap.size + 1) _ #[.int .i64 1, .slice A3 ws.length c3, .slice A5 ls.length c5]) rfl ?_
      exact run_endS D.out.1.own D.out.2.2 HWB.out D.out.2.1 (by have := BR.out.lt; omega) (by have := B1.out.size; omega) hMl (.inr (.inr ⟨HV.out.2.1, HV.out.2.2.2.1, h2, h3, gg, .ok va, ws, by (show Ev.whole (F : Int).toNat gg c l = _); rw [Int.toNat_natCast]; unfold Ev.whole; rw [Ev.bnd_ok HE.out.1]; exact HE.out.2.1, by rw [show resO (Out.ok va : Out Va) = showV va [] from rfl, HE.out.2.2]; rfl⟩))
    obtain ⟨j, hj⟩ : ∃ j, gk = j + 1 := ⟨gk - 1, by omega⟩
    subst hj
    have e1 : ((j + 1 : Nat) : Int) - 1 = j := by omega
    have hlt : j < l.length := by omega
    have hlt' : (j : Int) < l.length := by omega
    have hj0 : (0 : Int) ≤ j := by omega
    rw [e1]
    have HW := hid (below_hop hB.out (below_hop BW.out B1.out))
    obtain ⟨ad, rfl, hS9, y0, _⟩ := (HV.out.2.2.1.keep (fun b hb' hl => ⟨HW.out.block b hl, hb'⟩)).2 j hlt
    obtain ⟨t, ht9⟩ : ∃ t, t = l[j]'hlt := ⟨_, rfl⟩
    rw [← ht9] at y0
    have HT := hid (show inputV (l.drop j) = .con 1 [.num (w31 t), inputV (l.drop (j + 1))] by rw [List.drop_eq_getElem_cons hlt, inputV, ht9])
    have q2 : IntKind.i64.wrap ((j : Int) - 1) = (j : Int) - 1 := IntWalk.i64_in _ (by omega)
    clear ht9 hS9 e1
    go_wp2_with (first
      | (go_at_call 31; (refine (ref10_Wrap t _).mono ?_); rintro e w3 ⟨rfl, h9⟩; have h8 := h9.symm; subst h8; clear h9)
      | (go_at_call 30; (refine (r21_number _ _).mono ?_); rintro e w3 ⟨rfl, rfl⟩))
    go_roundg j
    case rel =>
      have hsz := hB.out.size
      exact ⟨_, by omega, rfl, rfl, hid (by rw [HT.out]; exact con2_new (fun b hb => sl_of (by simp at hsz; omega)) (w31_wf t) hL.out), hid (below_hop (alR3 _ _ _ _) hB.out)⟩
    case measure => omega
set_option maxHeartbeats 8000000 in
set_option maxRecDepth 100000 in
theorem run21_f (w : World) (c : Co) (v : Value) (S S' : Nat → Prop) (l : List Int) (A : Option Addr) (cA : Nat) (F : Nat) (hv : CAt w S c v) (hI : IAt w S' l A cA) (hnn : Ev.nodes c ≤ 65536) (hg : goodB c = true) (hl : l.length ≤ 256) (hF : F ≤ 65536) (gg : Nat) (s s1 : Nat) (ws ws1 : List Int) (vf va : Va) (hE : Ev.ev F gg c .nil 0 [] = some (.ok vf, s1, ws1) ∧ Ev.app F (Ev.ev F gg) vf (inputV l) s1 ws1 = some (.ok va, s, ws) ∧ showV va [] = .stop 4) : Calls Try.prog 19 #[v, .slice A l.length cA, .int .i64 F] w (RunV c l F w) := by
  have HV := hid (And.intro hv.low (And.intro hg (And.intro hI (And.intro hl hF))))
  obtain ⟨k, x, y, m, i, T, tl, tc, A2, l2, c2, rfl⟩ := hv.agg
  have h1 : ¬ (256 < (l.length : Int)) := by omega
  have h2 : ¬ ((F : Int) < 0) := by omega
  have h3 : ¬ (65536 < (F : Int)) := by omega
  have q1 : IntKind.i64.wrap ((l.length : Int) - 1) = (l.length : Int) - 1 := IntWalk.i64_in _ (by omega)
  have HNN := hid hnn
  have HE := hid hE
  clear hE
  clear hv hg hI hl hF hnn
  go_enter Try.func19, Try.ntmps19
  go_wp2_with (go_at_call 14; refine (ref20_GoodX c _ (fun b => b < w.heap.size) _ (HV.out.1.up (by go_grown : Below w.heap.size w _)) HNN.out).mono ?_; rw [HV.out.2.1]; rintro e w1 ⟨rfl, b1⟩; have B1 := hid (below_hop b1 (by go_grown : Below w.heap.size w _)); have BR := hid ((Blk.new' (w := w.alloc (.cells #[.int .i64 k, .int .i64 x, .int .i64 y, .int .i64 m, .bool i, .slice T tl tc, .slice A2 l2 c2] 25)) (by simp) 31 #[.int .i64 0, .slice none 0 0, .slice none 0 0] : Blk _ (w.heap.size + 1) _ _).below b1 (by simp)); have BC := hid (((Blk.new w 25 #[.int .i64 k, .int .i64 x, .int .i64 y, .int .i64 m, .bool i, .slice T tl tc, .slice A2 l2 c2]).alloc _).below b1 (by simp; omega)); obtain ⟨o0, o1, o2⟩ := BR.out.three; have f0 := BR.out.frozen 0; have f1 := BR.out.frozen 1; have f2 := BR.out.frozen 2; clear b1)
  have BW := hid (al2 w1 (.cells #[.int .i64 0, .int .i64 F, .int .i64 0, .slice none 0 0] 54) (.cells #[.bool false, .int .i64 0, .slice none 0 0, .int .i64 0, .int .i64 0, .pointer none, .pointer none] 60))
  have MM := hid ((run_rst F w1 HV.out.2.2.2.2).below (al1 _ (.cells #[.bool false, .int .i64 0, .slice none 0 0, .int .i64 0, .int .i64 0, .pointer none, .pointer none] 60)))
  have VV := hid (show RAt ((w1.alloc (.cells #[.int .i64 0, .int .i64 F, .int .i64 0, .slice none 0 0] 54)).alloc (.cells #[.bool false, .int .i64 0, .slice none 0 0, .int .i64 0, .int .i64 0, .pointer none, .pointer none] 60)) (SL w1.heap.size) (.con 0 []) (.pointer (some ⟨w1.heap.size + 1, 0, none⟩)) from con0_new (by simp) (fun b hb => sl_of (by simp at hb; omega)))
  go_loopg [10, 11] l.length (fun gg z10 z11 wr => ∃ (lp : Option Addr), gg ≤ l.length ∧ z11 = .int .i64 ((gg : Int) - 1) ∧ z10 = .pointer lp ∧ Hid (RAt wr (SL w1.heap.size) (inputV (l.drop gg)) (.pointer lp)) ∧ Hid (Below ((w1.alloc (.cells #[.int .i64 0, .int .i64 F, .int .i64 0, .slice none 0 0] 54)).alloc (.cells #[.bool false, .int .i64 0, .slice none 0 0, .int .i64 0, .int .i64 0, .pointer none, .pointer none] 60)).heap.size ((w1.alloc (.cells #[.int .i64 0, .int .i64 F, .int .i64 0, .slice none 0 0] 54)).alloc (.cells #[.bool false, .int .i64 0, .slice none 0 0, .int .i64 0, .int .i64 0, .pointer none, .pointer none] 60)) wr))
  case atStart => exact ⟨_, Nat.le_refl _, rfl, rfl, hid (by rw [List.drop_length, inputV]; exact VV.out), hid (Below.refl _ _)⟩
  case round =>
    obtain ⟨lp, hgl, rfl, rfl, hL, hB⟩ := hrel
    rcases Nat.eq_zero_or_pos gk with rfl | hp
    · have HWB := hid (below_hop hB.out (below_hop BW.out B1.out))
      have hMl : w1.heap.size < wr.heap.size := by have := hB.out.size; simp at this; omega
      have RM := hid (MM.out.below ((hB.out).mono (Nat.le_refl _)))
      have CP := hid (run_cpt (S := SL w1.heap.size) ((BC.out.below BW.out BC.out.lt).below hB.out (by have := BC.out.lt; simp; omega)) (sl_of (by have := BC.out.lt; omega)) ((HV.out.1.up HWB.out).mono (fun b hb _ => sl_of (by have := B1.out.size; omega))))
      have BRR := hid ((BR.out.below BW.out BR.out.lt).below hB.out (by have := BR.out.lt; simp; omega))
      have LL := hid (show RAt wr (SL w1.heap.size) (inputV l) (.pointer lp) from hL.out)
      have C1 := hid ((evR_all F gg c .nil 0 [] _ _ _ HE.out.1 (fo_of HV.out.2.1) (fun _ => True) wr w1.heap.size ⟨w.heap.size, 0, none⟩ none (.slice none 0 0) RM.out CP.out (by rw [REAt])).mono (fun _ _ h => evq_okR h))
      clear hB hL hgl o0 o1 o2 f0 f1 f2
      go_wp2_with (first
        | (go_at_call 32; (refine C1.out.mono ?_); clear C1; rintro e3 w3 ⟨wv3, pp, rfl, hm3, hs3, hr3⟩; (obtain ⟨x0, x1, x2, x3⟩ := hm3.blk.four); have hlM := hm3.blk.lt; have D3 := hid hs3; have C2 := hid ((r_apply F gg (evR_all F gg) (Now (fun _ => True) wr) w3 w1.heap.size s1 ws1 wv3 (.pointer pp) (.pointer lp) vf (inputV l) _ s ws HE.out.2.1 hm3 hr3 (RAt.keep (fun k hk hl => ⟨(hs3.keepT k hk hl).1, (hs3.keepT k hk hl).2.1, .inl trivial⟩) _ _ LL.out)).mono (fun _ _ h => evq_okR h)); clear hm3 hs3 hr3)
        | (go_at_call 33; (refine C2.out.mono ?_); clear C2; rintro e4 w4 ⟨wv4, pp4, rfl, hm4, hs4, hr4⟩; (obtain ⟨A3, c3, hwv, _⟩ := hm4.own.slice); subst hwv; clear x0 x1 x2 x3 hlM; (obtain ⟨x0, x1, x2, x3⟩ := hm4.blk.four); have hlM := hm4.blk.lt; have D4 := hid (And.intro hm4 (D3.out.trans hs4)); have C3 := hid (sh_st HE.out.2.2 hr4); clear hm4 hs4 hr4)
        | (go_at_call 34; (refine C3.out.mono ?_); clear C3; rintro e5 w5 ⟨lv5, rfl, hb5⟩; (obtain ⟨x0, x1, x2, x3⟩ := (D4.out.1.blk.below hb5 D4.out.1.blk.lt).four); have f2 := (D4.out.1.blk.below hb5 D4.out.1.blk.lt).frozen 2; have D := hid (And.intro ((D4.out.1.below hb5).end_ (4)) (D4.out.2.below2 hb5 (4))); clear hb5))
      have BR3 := hid (keepB D.out.2 BRR.out (by have := BR.out.lt; omega))
      have BM3 := hid D.out.1.blk
      obtain ⟨p0, p1, p2⟩ := BR3.out.three
      have q0 := BR3.out.frozen 0
      have q1' := BR3.out.frozen 1
      have q2' := BR3.out.frozen 2
      have hlB := BR3.out.lt
      have nMB : ¬ w1.heap.size = w.heap.size + 1 := by have := BR.out.lt; omega
      have nBM : ¬ w.heap.size + 1 = w1.heap.size := fun h => nMB h.symm
      go_region
      go_wp2
      have BF := (((BR3.out.set_ 0 (.int .i64 4)).set_ 1 (.slice A3 ws.length c3)).set_ 2 (.slice none 0 0))
      refine ret_run21 rfl rfl rfl (Blk.drew BF : Blk _ (w.heap.size + 1) _ #[.int .i64 4, .slice A3 ws.length c3, .slice none 0 0]) rfl ?_
      exact run_end D.out.1.own HWB.out D.out.2 (by have := BR.out.lt; omega) (by have := B1.out.size; omega) hMl (.inr (.inr ⟨HV.out.2.1, HV.out.2.2.2.1, h2, h3, gg, .ok va, ws, by (show Ev.whole (F : Int).toNat gg c l = _); rw [Int.toNat_natCast]; unfold Ev.whole; rw [Ev.bnd_ok HE.out.1]; exact HE.out.2.1, by rw [show resO (Out.ok va : Out Va) = showV va [] from rfl, HE.out.2.2]; rfl⟩))
    obtain ⟨j, hj⟩ : ∃ j, gk = j + 1 := ⟨gk - 1, by omega⟩
    subst hj
    have e1 : ((j + 1 : Nat) : Int) - 1 = j := by omega
    have hlt : j < l.length := by omega
    have hlt' : (j : Int) < l.length := by omega
    have hj0 : (0 : Int) ≤ j := by omega
    rw [e1]
    have HW := hid (below_hop hB.out (below_hop BW.out B1.out))
    obtain ⟨ad, rfl, hS9, y0, _⟩ := (HV.out.2.2.1.keep (fun b hb' hl => ⟨HW.out.block b hl, hb'⟩)).2 j hlt
    obtain ⟨t, ht9⟩ : ∃ t, t = l[j]'hlt := ⟨_, rfl⟩
    rw [← ht9] at y0
    have HT := hid (show inputV (l.drop j) = .con 1 [.num (w31 t), inputV (l.drop (j + 1))] by rw [List.drop_eq_getElem_cons hlt, inputV, ht9])
    have q2 : IntKind.i64.wrap ((j : Int) - 1) = (j : Int) - 1 := IntWalk.i64_in _ (by omega)
    clear ht9 hS9 e1
    go_wp2_with (first
      | (go_at_call 31; (refine (ref10_Wrap t _).mono ?_); rintro e w3 ⟨rfl, h9⟩; have h8 := h9.symm; subst h8; clear h9)
      | (go_at_call 30; (refine (r21_number _ _).mono ?_); rintro e w3 ⟨rfl, rfl⟩))
    go_roundg j
    case rel =>
      have hsz := hB.out.size
      exact ⟨_, by omega, rfl, rfl, hid (by rw [HT.out]; exact con2_new (fun b hb => sl_of (by simp at hsz; omega)) (w31_wf t) hL.out), hid (below_hop (alR3 _ _ _ _) hB.out)⟩
    case measure => omega
set_option maxHeartbeats 8000000 in
set_option maxRecDepth 100000 in
theorem run21_g (w : World) (c : Co) (v : Value) (S S' : Nat → Prop) (l : List Int) (A : Option Addr) (cA : Nat) (F : Nat) (hv : CAt w S c v) (hI : IAt w S' l A cA) (hnn : Ev.nodes c ≤ 65536) (hg : goodB c = true) (hl : l.length ≤ 256) (hF : F ≤ 65536) (gg : Nat) (s s1 : Nat) (ws ws1 : List Int) (vf va : Va) (hE : Ev.ev F gg c .nil 0 [] = some (.ok vf, s1, ws1) ∧ Ev.app F (Ev.ev F gg) vf (inputV l) s1 ws1 = some (.ok va, s, ws) ∧ showV va [] = .stop (-1)) : Calls Try.prog 19 #[v, .slice A l.length cA, .int .i64 F] w (RunV c l F w) := by
  have HV := hid (And.intro hv.low (And.intro hg (And.intro hI (And.intro hl hF))))
  obtain ⟨k, x, y, m, i, T, tl, tc, A2, l2, c2, rfl⟩ := hv.agg
  have h1 : ¬ (256 < (l.length : Int)) := by omega
  have h2 : ¬ ((F : Int) < 0) := by omega
  have h3 : ¬ (65536 < (F : Int)) := by omega
  have q1 : IntKind.i64.wrap ((l.length : Int) - 1) = (l.length : Int) - 1 := IntWalk.i64_in _ (by omega)
  have HNN := hid hnn
  have HE := hid hE
  clear hE
  clear hv hg hI hl hF hnn
  go_enter Try.func19, Try.ntmps19
  go_wp2_with (go_at_call 14; refine (ref20_GoodX c _ (fun b => b < w.heap.size) _ (HV.out.1.up (by go_grown : Below w.heap.size w _)) HNN.out).mono ?_; rw [HV.out.2.1]; rintro e w1 ⟨rfl, b1⟩; have B1 := hid (below_hop b1 (by go_grown : Below w.heap.size w _)); have BR := hid ((Blk.new' (w := w.alloc (.cells #[.int .i64 k, .int .i64 x, .int .i64 y, .int .i64 m, .bool i, .slice T tl tc, .slice A2 l2 c2] 25)) (by simp) 31 #[.int .i64 0, .slice none 0 0, .slice none 0 0] : Blk _ (w.heap.size + 1) _ _).below b1 (by simp)); have BC := hid (((Blk.new w 25 #[.int .i64 k, .int .i64 x, .int .i64 y, .int .i64 m, .bool i, .slice T tl tc, .slice A2 l2 c2]).alloc _).below b1 (by simp; omega)); obtain ⟨o0, o1, o2⟩ := BR.out.three; have f0 := BR.out.frozen 0; have f1 := BR.out.frozen 1; have f2 := BR.out.frozen 2; clear b1)
  have BW := hid (al2 w1 (.cells #[.int .i64 0, .int .i64 F, .int .i64 0, .slice none 0 0] 54) (.cells #[.bool false, .int .i64 0, .slice none 0 0, .int .i64 0, .int .i64 0, .pointer none, .pointer none] 60))
  have MM := hid ((run_rst F w1 HV.out.2.2.2.2).below (al1 _ (.cells #[.bool false, .int .i64 0, .slice none 0 0, .int .i64 0, .int .i64 0, .pointer none, .pointer none] 60)))
  have VV := hid (show RAt ((w1.alloc (.cells #[.int .i64 0, .int .i64 F, .int .i64 0, .slice none 0 0] 54)).alloc (.cells #[.bool false, .int .i64 0, .slice none 0 0, .int .i64 0, .int .i64 0, .pointer none, .pointer none] 60)) (SL w1.heap.size) (.con 0 []) (.pointer (some ⟨w1.heap.size + 1, 0, none⟩)) from con0_new (by simp) (fun b hb => sl_of (by simp at hb; omega)))
  go_loopg [10, 11] l.length (fun gg z10 z11 wr => ∃ (lp : Option Addr), gg ≤ l.length ∧ z11 = .int .i64 ((gg : Int) - 1) ∧ z10 = .pointer lp ∧ Hid (RAt wr (SL w1.heap.size) (inputV (l.drop gg)) (.pointer lp)) ∧ Hid (Below ((w1.alloc (.cells #[.int .i64 0, .int .i64 F, .int .i64 0, .slice none 0 0] 54)).alloc (.cells #[.bool false, .int .i64 0, .slice none 0 0, .int .i64 0, .int .i64 0, .pointer none, .pointer none] 60)).heap.size ((w1.alloc (.cells #[.int .i64 0, .int .i64 F, .int .i64 0, .slice none 0 0] 54)).alloc (.cells #[.bool false, .int .i64 0, .slice none 0 0, .int .i64 0, .int .i64 0, .pointer none, .pointer none] 60)) wr))
  case atStart => exact ⟨_, Nat.le_refl _, rfl, rfl, hid (by rw [List.drop_length, inputV]; exact VV.out), hid (Below.refl _ _)⟩
  case round =>
    obtain ⟨lp, hgl, rfl, rfl, hL, hB⟩ := hrel
    rcases Nat.eq_zero_or_pos gk with rfl | hp
    · have HWB := hid (below_hop hB.out (below_hop BW.out B1.out))
      have hMl : w1.heap.size < wr.heap.size := by have := hB.out.size; simp at this; omega
      have RM := hid (MM.out.below ((hB.out).mono (Nat.le_refl _)))
      have CP := hid (run_cpt (S := SL w1.heap.size) ((BC.out.below BW.out BC.out.lt).below hB.out (by have := BC.out.lt; simp; omega)) (sl_of (by have := BC.out.lt; omega)) ((HV.out.1.up HWB.out).mono (fun b hb _ => sl_of (by have := B1.out.size; omega))))
      have BRR := hid ((BR.out.below BW.out BR.out.lt).below hB.out (by have := BR.out.lt; simp; omega))
      have LL := hid (show RAt wr (SL w1.heap.size) (inputV l) (.pointer lp) from hL.out)
      have C1 := hid ((evR_all F gg c .nil 0 [] _ _ _ HE.out.1 (fo_of HV.out.2.1) (fun _ => True) wr w1.heap.size ⟨w.heap.size, 0, none⟩ none (.slice none 0 0) RM.out CP.out (by rw [REAt])).mono (fun _ _ h => evq_okR h))
      clear hB hL hgl o0 o1 o2 f0 f1 f2
      go_wp2_with (first
        | (go_at_call 32; (refine C1.out.mono ?_); clear C1; rintro e3 w3 ⟨wv3, pp, rfl, hm3, hs3, hr3⟩; (obtain ⟨x0, x1, x2, x3⟩ := hm3.blk.four); have hlM := hm3.blk.lt; have D3 := hid hs3; have C2 := hid ((r_apply F gg (evR_all F gg) (Now (fun _ => True) wr) w3 w1.heap.size s1 ws1 wv3 (.pointer pp) (.pointer lp) vf (inputV l) _ s ws HE.out.2.1 hm3 hr3 (RAt.keep (fun k hk hl => ⟨(hs3.keepT k hk hl).1, (hs3.keepT k hk hl).2.1, .inl trivial⟩) _ _ LL.out)).mono (fun _ _ h => evq_okR h)); clear hm3 hs3 hr3)
        | (go_at_call 33; (refine C2.out.mono ?_); clear C2; rintro e4 w4 ⟨wv4, pp4, rfl, hm4, hs4, hr4⟩; (obtain ⟨A3, c3, hwv, _⟩ := hm4.own.slice); subst hwv; clear x0 x1 x2 x3 hlM; (obtain ⟨x0, x1, x2, x3⟩ := hm4.blk.four); have hlM := hm4.blk.lt; have D4 := hid (And.intro hm4 (D3.out.trans hs4)); have C3 := hid (sh_st HE.out.2.2 hr4); clear hm4 hs4 hr4)
        | (go_at_call 34; (refine C3.out.mono ?_); clear C3; rintro e5 w5 ⟨lv5, rfl, hb5⟩; (obtain ⟨x0, x1, x2, x3⟩ := (D4.out.1.blk.below hb5 D4.out.1.blk.lt).four); have f2 := (D4.out.1.blk.below hb5 D4.out.1.blk.lt).frozen 2; have D := hid (And.intro ((D4.out.1.below hb5).end_ (-1)) (D4.out.2.below2 hb5 (-1))); clear hb5))
      have BR3 := hid (keepB D.out.2 BRR.out (by have := BR.out.lt; omega))
      have BM3 := hid D.out.1.blk
      obtain ⟨p0, p1, p2⟩ := BR3.out.three
      have q0 := BR3.out.frozen 0
      have q1' := BR3.out.frozen 1
      have q2' := BR3.out.frozen 2
      have hlB := BR3.out.lt
      have nMB : ¬ w1.heap.size = w.heap.size + 1 := by have := BR.out.lt; omega
      have nBM : ¬ w.heap.size + 1 = w1.heap.size := fun h => nMB h.symm
      go_region
      go_wp2
      have BF := (((BR3.out.set_ 0 (.int .i64 0)).set_ 1 (.slice none 0 0)).set_ 2 (.slice none 0 0))
      refine ret_run21 rfl rfl rfl (Blk.drew BF : Blk _ (w.heap.size + 1) _ #[.int .i64 0, .slice none 0 0, .slice none 0 0]) rfl ?_
      exact run_endB HWB.out D.out.2 (by have := B1.out.size; omega) hMl (.inr (.inr ⟨HV.out.2.1, HV.out.2.2.2.1, h2, h3, gg, .ok va, ws, by (show Ev.whole (F : Int).toNat gg c l = _); rw [Int.toNat_natCast]; unfold Ev.whole; rw [Ev.bnd_ok HE.out.1]; exact HE.out.2.1, by rw [show resO (Out.ok va : Out Va) = showV va [] from rfl, HE.out.2.2]; rfl⟩))
    obtain ⟨j, hj⟩ : ∃ j, gk = j + 1 := ⟨gk - 1, by omega⟩
    subst hj
    have e1 : ((j + 1 : Nat) : Int) - 1 = j := by omega
    have hlt : j < l.length := by omega
    have hlt' : (j : Int) < l.length := by omega
    have hj0 : (0 : Int) ≤ j := by omega
    rw [e1]
    have HW := hid (below_hop hB.out (below_hop BW.out B1.out))
    obtain ⟨ad, rfl, hS9, y0, _⟩ := (HV.out.2.2.1.keep (fun b hb' hl => ⟨HW.out.block b hl, hb'⟩)).2 j hlt
    obtain ⟨t, ht9⟩ : ∃ t, t = l[j]'hlt := ⟨_, rfl⟩
    rw [← ht9] at y0
    have HT := hid (show inputV (l.drop j) = .con 1 [.num (w31 t), inputV (l.drop (j + 1))] by rw [List.drop_eq_getElem_cons hlt, inputV, ht9])
    have q2 : IntKind.i64.wrap ((j : Int) - 1) = (j : Int) - 1 := IntWalk.i64_in _ (by omega)
    clear ht9 hS9 e1
    go_wp2_with (first
      | (go_at_call 31; (refine (ref10_Wrap t _).mono ?_); rintro e w3 ⟨rfl, h9⟩; have h8 := h9.symm; subst h8; clear h9)
      | (go_at_call 30; (refine (r21_number _ _).mono ?_); rintro e w3 ⟨rfl, rfl⟩))
    go_roundg j
    case rel =>
      have hsz := hB.out.size
      exact ⟨_, by omega, rfl, rfl, hid (by rw [HT.out]; exact con2_new (fun b hb => sl_of (by simp at hsz; omega)) (w31_wf t) hL.out), hid (below_hop (alR3 _ _ _ _) hB.out)⟩
    case measure => omega
end Go.Proofs.Ytohdaclbgedeiaa
/-
  athanorref21's Run, whole; athanorref20.Same of one expression.
-/
namespace Go.Proofs.Ytohdaclbgedeiaa
set_option linter.all false
open Go.ChangeShapes Go.WideShapes Go.ChangeAt Go.RowKit
open Ev (Co Va En Out goodB whole fin resO RunIs whole_ends inputV showV)
theorem run21 (w : World) (c : Co) (v : Value) (S S' : Nat → Prop) (l : List Int) (A : Option Addr) (cA : Nat) (fuel : Int) (hv : CAt w S c v) (hI : IAt w S' l A cA) (hnn : Ev.nodes c ≤ 65536) : Calls Try.prog 19 #[v, .slice A l.length cA, .int .i64 fuel] w (RunV c l fuel w) := by
  cases hg : goodB c with
  | false => exact run21_bad w c v S l A cA fuel hv hnn hg
  | true =>
    by_cases hb : 256 < l.length ∨ fuel < 0 ∨ 65536 < fuel
    · exact run21_arg w c v S l A cA fuel hv hnn hg hb
    obtain ⟨F, rfl⟩ : ∃ F : Nat, fuel = (F : Int) := ⟨fuel.toNat, by omega⟩
    have hl : l.length ≤ 256 := by omega
    have hF : F ≤ 65536 := by omega
    obtain ⟨gg, o, s, ws, hw⟩ := whole_ends hg F l
    unfold Ev.whole at hw
    rcases Ev.bnd_some hw with ⟨e, h1, rfl⟩ | ⟨vf, s1, w1, h1, h2⟩
    · have hc := Ev.Cd.ev F gg c .nil 0 [] _ _ _ h1
      by_cases he : e = -1
      · subst he
        exact run21_b w c v S S' l A cA F hv hI hnn hg hl hF gg s ws h1
      · exact run21_a w c v S S' l A cA F hv hI hnn hg hl hF gg e s ws h1 ⟨he, by omega⟩
    · have hc := Ev.Cd.app (F := F) (fun c e s w => Ev.Cd.ev F gg c e s w) vf (inputV l) s1 w1
      cases o with
      | stop k =>
        have hc := hc _ _ _ h2
        by_cases he : k = -1
        · subst he
          exact run21_d w c v S S' l A cA F hv hI hnn hg hl hF gg s s1 ws w1 vf ⟨h1, h2⟩
        · exact run21_c w c v S S' l A cA F hv hI hnn hg hl hF gg k s s1 ws w1 vf ⟨h1, h2⟩ ⟨he, by omega, by omega, by omega⟩
      | ok va =>
        cases hs : showV va [] with
        | ok ls => exact run21_e w c v S S' l A cA F hv hI hnn hg hl hF gg s s1 ws w1 ls vf va ⟨h1, h2, hs⟩
        | stop k =>
          rcases showV_code hs with rfl | rfl
          · exact run21_f w c v S S' l A cA F hv hI hnn hg hl hF gg s s1 ws w1 vf va ⟨h1, h2, hs⟩
          · exact run21_g w c v S S' l A cA F hv hI hnn hg hl hF gg s s1 ws w1 vf va ⟨h1, h2, hs⟩
theorem below_of_drew {w w1 : World} (h : Below w.drew.heap.size w.drew w1) : Below w.heap.size w w1 := ⟨h.os, h.tape, h.output, h.size, h.block⟩
def YesP (w : World) (e : Ending) (w' : World) : Prop := e = .returned (.bool true) ∧ Below w.heap.size w w'
set_option maxHeartbeats 4000000 in
set_option maxRecDepth 100000 in
theorem r20same_node (k x y m : Int) (b : Bool) (T1 T2 A1 A2 : Option Addr) (tc1 tc2 c1 c2 : Nat) (ts : List Int) (us : List Co) (S1 S2 : Nat → Prop) (w : World) (hm : us.length ≤ 17592186044416) (h1 : IAt w S1 ts T1 tc1) (h2 : IAt w S2 ts T2 tc2) (r1 : CRow w S1 us A1 0) (r2 : CRow w S2 us A2 0) (hc1 : us.length ≤ c1 ∧ c1 ≤ maxLen) (hc2 : us.length ≤ c2 ∧ c2 ≤ maxLen)
    (ih : ∀ t ∈ us, ∀ (v1 v2 : Value) (S1 S2 : Nat → Prop) (w : World), CAt w S1 t v1 → CAt w S2 t v2 → Calls Try.prog 21 #[v1, v2] w (YesP w)) :
    Calls Try.prog 21 #[.agg #[.int .i64 k, .int .i64 x, .int .i64 y, .int .i64 m, .bool b, .slice T1 ts.length tc1, .slice A1 us.length c1], .agg #[.int .i64 k, .int .i64 x, .int .i64 y, .int .i64 m, .bool b, .slice T2 ts.length tc2, .slice A2 us.length c2]] w (YesP w) := by
  have hL : us.length ≤ 281474976710656 := by omega
  have HI1 := hid (iat_ints (B := w.heap.size) (h1.keep (w' := ((w.alloc (.cells #[.int .i64 k, .int .i64 x, .int .i64 y, .int .i64 m, .bool b, .slice T1 ts.length tc1, .slice A1 us.length c1] 25)).alloc (.cells #[.int .i64 k, .int .i64 x, .int .i64 y, .int .i64 m, .bool b, .slice T2 ts.length tc2, .slice A2 us.length c2] 25))) (T := fun b => b < w.heap.size) (fun b hb hl => ⟨(al2 w _ _).block b hl, hl⟩)) (fun b hb _ => hb))
  have HI2 := hid (iat_ints (B := w.heap.size) (h2.keep (w' := ((w.alloc (.cells #[.int .i64 k, .int .i64 x, .int .i64 y, .int .i64 m, .bool b, .slice T1 ts.length tc1, .slice A1 us.length c1] 25)).alloc (.cells #[.int .i64 k, .int .i64 x, .int .i64 y, .int .i64 m, .bool b, .slice T2 ts.length tc2, .slice A2 us.length c2] 25))) (T := fun b => b < w.heap.size) (fun b hb hl => ⟨(al2 w _ _).block b hl, hl⟩)) (fun b hb _ => hb))
  have H := hid (And.intro hm (And.intro r1 (And.intro r2 ih)))
  clear hm r1 r2 ih h1 h2
  go_enter Try.func21, Try.ntmps21
  go_wp2_with (go_at_call 18; go_must (refine (keep_Same w.heap.size T1 T2 ts.length tc1 ts.length tc2 ts ts _ (by simp; omega) HI1.out HI2.out).mono ?_); rintro e w1 ⟨rfl, b1⟩; rw [decide_eq_true (rfl : ts = ts)]; have B1 := hid (below_hop b1 (al2 w _ _)); have X1 := hid (((Blk.new w 25 #[.int .i64 k, .int .i64 x, .int .i64 y, .int .i64 m, .bool b, .slice T1 ts.length tc1, .slice A1 us.length c1]).alloc (.cells #[.int .i64 k, .int .i64 x, .int .i64 y, .int .i64 m, .bool b, .slice T2 ts.length tc2, .slice A2 us.length c2] 25)).below b1 (by simp; omega)); have X2 := hid ((Blk.new' (w := w.alloc (.cells #[.int .i64 k, .int .i64 x, .int .i64 y, .int .i64 m, .bool b, .slice T1 ts.length tc1, .slice A1 us.length c1] 25)) (g := w.heap.size + 1) (by simp) 25 #[.int .i64 k, .int .i64 x, .int .i64 y, .int .i64 m, .bool b, .slice T2 ts.length tc2, .slice A2 us.length c2]).below b1 (by simp)); have z1 : w1.cell? ⟨w.heap.size, 6, none⟩ = some (.slice A1 us.length c1) := X1.out.cell 6; have z2 : w1.cell? ⟨w.heap.size + 1, 6, none⟩ = some (.slice A2 us.length c2) := X2.out.cell 6; clear b1)
  have B0 := hid B1.out
  go_loopg [5] us.length (fun g z wr => ∃ (i : Nat), i + g = us.length ∧ z = .int .i64 i ∧ Hid (Blk wr w.heap.size 25 #[.int .i64 k, .int .i64 x, .int .i64 y, .int .i64 m, .bool b, .slice T1 ts.length tc1, .slice A1 us.length c1]) ∧ Hid (Blk wr (w.heap.size + 1) 25 #[.int .i64 k, .int .i64 x, .int .i64 y, .int .i64 m, .bool b, .slice T2 ts.length tc2, .slice A2 us.length c2]) ∧ Hid (Below w.heap.size w wr))
  case atStart => exact ⟨0, by omega, rfl, X1, X2, B1⟩
  case round =>
    obtain ⟨i, hi, rfl, hX, hY, hbl⟩ := hrel
    clear z1 z2
    have Hi := hid hi
    have z1 : wr.cell? ⟨w.heap.size, 6, none⟩ = some (.slice A1 us.length c1) := hX.out.cell 6
    have z2 : wr.cell? ⟨w.heap.size + 1, 6, none⟩ = some (.slice A2 us.length c2) := hY.out.cell 6
    by_cases hlt : i < us.length
    · have hlt' : (i : Int) < us.length := by omega
      obtain ⟨a1, k2, x2, y2, n2, i2, T3, tl3, tc3, A3, m3, c3, rfl, hS1, ha1, ⟨y0, y1, v2, y3, y4, y5, y6⟩, hel1⟩ := (H.out.2.1.up hbl.out).elem hlt
      obtain ⟨a2, k3, x3, y3', n3, i3, T4, tl4, tc4, A4, m4, c4, rfl, hS2, ha2, ⟨u0, u1, u2, u3, u4, u5, u6⟩, hel2⟩ := (H.out.2.2.1.up hbl.out).elem hlt
      have hk1 : (a1.add (i * 7)).block < wr.heap.size := cell_lt y0
      have hk2 : (a2.add (i * 7)).block < wr.heap.size := cell_lt u0
      have hX1 : w.heap.size < wr.heap.size := hX.out.lt
      have hY1 : w.heap.size + 1 < wr.heap.size := hY.out.lt
      obtain ⟨t, ht⟩ : ∃ t, t = us[i] := ⟨_, rfl⟩
      rw [← ht] at hel1 hel2
      have C := hid (H.out.2.2.2 t (by rw [ht]; exact List.getElem_mem hlt) _ _ S1 S2 wr.drew (CAt.keep (w := wr) (w' := wr.drew) (fun _ h _ => ⟨rfl, h⟩) _ _ hel1) (CAt.keep (w := wr) (w' := wr.drew) (fun _ h _ => ⟨rfl, h⟩) _ _ hel2))
      clear hi hel1 hel2 hS1 hS2 ha1 ha2 ht
      go_wp2
      go_region_held3 (fun w2 => w2.cell? ⟨w.heap.size, 6, none⟩ = some (.slice (some a1) us.length c1) ∧ w2.cell? ⟨w.heap.size + 1, 6, none⟩ = some (.slice (some a2) us.length c2) ∧ w2.cell? (a1.add (i * 7)) = some (.int .i64 k2) ∧ w2.cell? ⟨(a1.add (i * 7)).block, (a1.add (i * 7)).off + 1, none⟩ = some (.int .i64 x2) ∧ w2.cell? ⟨(a1.add (i * 7)).block, (a1.add (i * 7)).off + 2, none⟩ = some (.int .i64 y2) ∧ w2.cell? ⟨(a1.add (i * 7)).block, (a1.add (i * 7)).off + 3, none⟩ = some (.int .i64 n2) ∧ w2.cell? ⟨(a1.add (i * 7)).block, (a1.add (i * 7)).off + 4, none⟩ = some (.bool i2) ∧ w2.cell? ⟨(a1.add (i * 7)).block, (a1.add (i * 7)).off + 5, none⟩ = some (.slice T3 tl3 tc3) ∧ w2.cell? ⟨(a1.add (i * 7)).block, (a1.add (i * 7)).off + 6, none⟩ = some (.slice A3 m3 c3) ∧ w2.cell? (a2.add (i * 7)) = some (.int .i64 k3) ∧ w2.cell? ⟨(a2.add (i * 7)).block, (a2.add (i * 7)).off + 1, none⟩ = some (.int .i64 x3) ∧ w2.cell? ⟨(a2.add (i * 7)).block, (a2.add (i * 7)).off + 2, none⟩ = some (.int .i64 y3') ∧ w2.cell? ⟨(a2.add (i * 7)).block, (a2.add (i * 7)).off + 3, none⟩ = some (.int .i64 n3) ∧ w2.cell? ⟨(a2.add (i * 7)).block, (a2.add (i * 7)).off + 4, none⟩ = some (.bool i3) ∧ w2.cell? ⟨(a2.add (i * 7)).block, (a2.add (i * 7)).off + 5, none⟩ = some (.slice T4 tl4 tc4) ∧ w2.cell? ⟨(a2.add (i * 7)).block, (a2.add (i * 7)).off + 6, none⟩ = some (.slice A4 m4 c4)) (first | exact ⟨z1, z2, y0, y1, v2, y3, y4, y5, y6, u0, u1, u2, u3, u4, u5, u6⟩ | exact ⟨q1, q2, t0, t1, t2, t3, t4, t5, t6, s0, s1, s2, s3, s4, s5, s6⟩ | go_keep)
        ((go_at_call 21; refine C.out.mono ?_; clear C; rintro e w9 ⟨rfl, b2⟩; have q1 := (b2.cell (p := ⟨w.heap.size, 6, none⟩) hX1).trans z1; have q2 := (b2.cell (p := ⟨w.heap.size + 1, 6, none⟩) hY1).trans z2; have t0 := (b2.cell (p := a1.add (i * 7)) hk1).trans y0; have t1 := (b2.cell (p := ⟨(a1.add (i * 7)).block, (a1.add (i * 7)).off + 1, none⟩) hk1).trans y1; have t2 := (b2.cell (p := ⟨(a1.add (i * 7)).block, (a1.add (i * 7)).off + 2, none⟩) hk1).trans v2; have t3 := (b2.cell (p := ⟨(a1.add (i * 7)).block, (a1.add (i * 7)).off + 3, none⟩) hk1).trans y3; have t4 := (b2.cell (p := ⟨(a1.add (i * 7)).block, (a1.add (i * 7)).off + 4, none⟩) hk1).trans y4; have t5 := (b2.cell (p := ⟨(a1.add (i * 7)).block, (a1.add (i * 7)).off + 5, none⟩) hk1).trans y5; have t6 := (b2.cell (p := ⟨(a1.add (i * 7)).block, (a1.add (i * 7)).off + 6, none⟩) hk1).trans y6; have s0 := (b2.cell (p := a2.add (i * 7)) hk2).trans u0; have s1 := (b2.cell (p := ⟨(a2.add (i * 7)).block, (a2.add (i * 7)).off + 1, none⟩) hk2).trans u1; have s2 := (b2.cell (p := ⟨(a2.add (i * 7)).block, (a2.add (i * 7)).off + 2, none⟩) hk2).trans u2; have s3 := (b2.cell (p := ⟨(a2.add (i * 7)).block, (a2.add (i * 7)).off + 3, none⟩) hk2).trans u3; have s4 := (b2.cell (p := ⟨(a2.add (i * 7)).block, (a2.add (i * 7)).off + 4, none⟩) hk2).trans u4; have s5 := (b2.cell (p := ⟨(a2.add (i * 7)).block, (a2.add (i * 7)).off + 5, none⟩) hk2).trans u5; have s6 := (b2.cell (p := ⟨(a2.add (i * 7)).block, (a2.add (i * 7)).off + 6, none⟩) hk2).trans u6))
      go_wp2
      have hgk := Hi.out
      go_roundg (gk - 1)
      case rel => exact ⟨i + 1, by omega, by go_num, hid (hX.out.below (below_of_drew b2) hX1), hid (hY.out.below (below_of_drew b2) hY1), hid (below_hop (below_of_drew b2) hbl.out)⟩
      case measure => omega
    · obtain rfl : i = us.length := by omega
      clear hi
      go_wp2
      go_ret
      exact ⟨rfl, hbl.out⟩
theorem r20_same : ∀ (N : Nat) (t : Co), SizeOf.sizeOf t ≤ N → ∀ (v1 v2 : Value) (S1 S2 : Nat → Prop) (w : World), CAt w S1 t v1 → CAt w S2 t v2 → Calls Try.prog 21 #[v1, v2] w (YesP w) := by
  intro N
  induction N with
  | zero => intro t h; cases t; simp at h
  | succ N ih =>
  intro t h v1 v2 S1 S2 w h1 h2
  obtain ⟨k, x, y, m, b, ts, us⟩ := t
  obtain ⟨T1, tc1, A1, c1, rfl, i1, s1, r1, _⟩ := h1.parts
  obtain ⟨T2, tc2, A2, c2, rfl, i2, s2, r2, _⟩ := h2.parts
  exact r20same_node k x y m b T1 T2 A1 A2 tc1 tc2 c1 c2 ts us S1 S2 w s1.2.2.2 i1 i2 r1 r2 ⟨s1.1, s1.2.1⟩ ⟨s2.1, s2.2.1⟩ (fun t ht => ih t (by have := co_lt (k := k) (x := x) (y := y) (n := m) (i := b) (ts := ts) ht; omega))
end Go.Proofs.Ytohdaclbgedeiaa
