/-
  WHICH DECLARED TYPES REACH A FUNCTION: plain.
-/
import Derived.Test.YtnlifgcnmhakiaaTAllD
namespace Go.Proofs.Ytnlifgcnmhakiaa
open Go.ChangeShapes Go.WideShapes Go.ChangeAt Go.RowKit

/-- The first declared type of a name; its length, where there is none. -/
def idx : List Dc → ByteArray → Nat
  | [], _ => 0
  | d :: ds, s => if d.name = s then 0 else idx ds s + 1
theorem idx_le (ds : List Dc) (s : ByteArray) : idx ds s ≤ ds.length := by
  induction ds with
  | nil => exact Nat.le_refl _
  | cons d ds ih => rw [idx]; split <;> simp; omega
theorem idx_name {ds : List Dc} {s : ByteArray} (h : idx ds s < ds.length) : ds[idx ds s].name = s := by
  induction ds with
  | nil => simp at h
  | cons d ds ih =>
    by_cases e : d.name = s
    · have e0 : idx (d :: ds) s = 0 := by rw [idx, if_pos e]
      simp only [e0, List.getElem_cons_zero]
      exact e
    · have e1 : idx (d :: ds) s = idx ds s + 1 := by rw [idx, if_neg e]
      simp only [e1, List.getElem_cons_succ]
      exact ih (by rw [e1] at h; simpa using h)
theorem idx_ne {ds : List Dc} {s : ByteArray} {j : Nat} (hj : j < ds.length) (h : j < idx ds s) : ds[j].name ≠ s := by
  induction ds generalizing j with
  | nil => simp at hj
  | cons d ds ih =>
    by_cases e : d.name = s
    · rw [idx, if_pos e] at h; omega
    · rw [idx, if_neg e] at h
      cases j with
      | zero => exact e
      | succ j => exact ih (by simpa using hj) (by omega)
theorem idx_at {ds : List Dc} {s : ByteArray} {i : Nat} (hi : i < ds.length) (hn : ds[i].name = s) (hb : ∀ j, (h : j < ds.length) → j < i → ds[j].name ≠ s) : idx ds s = i := by
  rcases Nat.lt_trichotomy (idx ds s) i with h | h | h
  · exact absurd (idx_name (by omega)) (hb _ (by omega) h)
  · exact h
  · exact absurd hn (idx_ne hi h)
theorem idx_none {ds : List Dc} {s : ByteArray} (hb : ∀ j, (h : j < ds.length) → ds[j].name ≠ s) : idx ds s = ds.length := by
  rcases Nat.lt_or_ge (idx ds s) ds.length with h | h
  · exact absurd (idx_name h) (hb _ h)
  · have := idx_le ds s; omega
mutual
/-- A function stands in a type. -/
def hasFun : Ty → Prop
  | .mk k _ _ us => k = 3 ∨ hasFunL us
def hasFunL : List Ty → Prop
  | [] => False
  | t :: ts => hasFun t ∨ hasFunL ts
end
mutual
/-- A declared type of a name stands in a type. -/
def ment (s : ByteArray) : Ty → Prop
  | .mk k n _ us => k = 4 ∧ n = s ∨ mentL s us
def mentL (s : ByteArray) : List Ty → Prop
  | [] => False
  | t :: ts => ment s t ∨ mentL s ts
end
theorem hasFunL_iff {us : List Ty} : hasFunL us ↔ ∃ t ∈ us, hasFun t := by
  induction us with
  | nil => simp [hasFunL]
  | cons t ts ih => rw [hasFunL, ih]; simp
theorem mentL_iff {s : ByteArray} {us : List Ty} : mentL s us ↔ ∃ t ∈ us, ment s t := by
  induction us with
  | nil => simp [mentL]
  | cons t ts ih => rw [mentL, ih]; simp
/-- The fields of a declared type. -/
def flds (d : Dc) : List Ty := d.cons.flatMap (fun k => k.fields)
/-- A function is reached from a name. -/
inductive Bad (ds : List Dc) : ByteArray → Prop where
  | fun_ (s : ByteArray) (h : idx ds s < ds.length) (t : Ty) (ht : t ∈ flds ds[idx ds s]) (hf : hasFun t) : Bad ds s
  | more (s : ByteArray) (h : idx ds s < ds.length) (t : Ty) (ht : t ∈ flds ds[idx ds s]) (s' : ByteArray) (hm : ment s' t) (hb : Bad ds s') : Bad ds s
/-- .. from a type. -/
def BadT (ds : List Dc) (t : Ty) : Prop := hasFun t ∨ ∃ s, ment s t ∧ Bad ds s
/-- No function stands in a type, and what is declared and stands in it is among X. -/
def CleanT (ds : List Dc) (X : Nat → Bool) (t : Ty) : Prop := ¬ hasFun t ∧ ∀ s, ment s t → idx ds s < ds.length → X (idx ds s) = true
def CleanL (ds : List Dc) (X : Nat → Bool) (us : List Ty) : Prop := ∀ t ∈ us, CleanT ds X t
def CleanI (ds : List Dc) (X : Nat → Bool) (i : Nat) : Prop := ∀ h : i < ds.length, CleanL ds X (flds ds[i])
/-- What was looked at since X. -/
structure Since (ds : List Dc) (X Y : Nat → Bool) : Prop where
  sub : ∀ i, X i = true → Y i = true
  new : ∀ i, Y i = true → X i = false → CleanI ds Y i
theorem CleanT.mono {ds : List Dc} {X Y : Nat → Bool} {t : Ty} (h : CleanT ds X t) (hs : ∀ i, X i = true → Y i = true) : CleanT ds Y t := ⟨h.1, fun s hm hi => hs _ (h.2 s hm hi)⟩
theorem CleanL.mono {ds : List Dc} {X Y : Nat → Bool} {us : List Ty} (h : CleanL ds X us) (hs : ∀ i, X i = true → Y i = true) : CleanL ds Y us := fun t ht => (h t ht).mono hs
theorem Since.refl (ds : List Dc) (X : Nat → Bool) : Since ds X X := ⟨fun _ h => h, fun i h1 h2 => by rw [h1] at h2; cases h2⟩
theorem Since.trans {ds : List Dc} {X Y Z : Nat → Bool} (h : Since ds X Y) (g : Since ds Y Z) : Since ds X Z := by
  refine ⟨fun i hi => g.sub i (h.sub i hi), fun i hz hx => ?_⟩
  cases hy : Y i with
  | false => exact g.new i hz hy
  | true => exact fun hl => (h.new i hy hx hl).mono g.sub
/-- A declared type is looked at: it, and what it reaches. -/
def with_ (X : Nat → Bool) (i : Nat) : Nat → Bool := fun j => X j || decide (j = i)
theorem Since.step {ds : List Dc} {X Y : Nat → Bool} {i : Nat} (h : Since ds (with_ X i) Y) (hc : CleanI ds Y i) : Since ds X Y := by
  refine ⟨fun j hj => h.sub j (by simp [with_, hj]), fun j hy hx => ?_⟩
  by_cases e : j = i
  · subst e; exact hc
  · exact h.new j hy (by simp [with_, hx, e])
/-- What is closed reaches no function. -/
theorem clean_all {ds : List Dc} {Y : Nat → Bool} (h : Since ds (fun _ => false) Y) {s : ByteArray} (hi : idx ds s < ds.length → Y (idx ds s) = true) : ¬ Bad ds s := by
  intro hb
  induction hb with
  | fun_ s hl t ht hf => exact (h.new _ (hi hl) rfl hl t ht).1 hf
  | more s hl t ht s' hm hb ih => exact ih (fun hl2 => (h.new _ (hi hl) rfl hl t ht).2 s' hm hl2)
theorem clean_type {ds : List Dc} {Y : Nat → Bool} (h : Since ds (fun _ => false) Y) {t : Ty} (hc : CleanT ds Y t) : ¬ BadT ds t := by
  rintro (hf | ⟨s, hm, hb⟩)
  · exact hc.1 hf
  · exact clean_all h (hc.2 s hm) hb
/-- How many declared types were not looked at. -/
def left_ (X : Nat → Bool) : Nat → Nat
  | 0 => 0
  | n + 1 => left_ X n + (if X n then 0 else 1)
theorem left_mono {X Y : Nat → Bool} (h : ∀ i, X i = true → Y i = true) (n : Nat) : left_ Y n ≤ left_ X n := by
  induction n with
  | zero => exact Nat.le_refl _
  | succ n ih =>
    rw [left_, left_]
    cases hx : X n with
    | true => rw [h n hx]; simpa using ih
    | false => cases Y n <;> simp <;> omega
theorem left_with {X : Nat → Bool} {i n : Nat} (hi : i < n) (hx : X i = false) : left_ (with_ X i) n < left_ X n := by
  induction n with
  | zero => omega
  | succ n ih =>
    rw [left_, left_]
    by_cases e : n = i
    · subst e
      have h1 : with_ X n n = true := by simp [with_]
      rw [h1, hx]
      have := left_mono (X := X) (Y := with_ X n) (fun j hj => by simp [with_, hj]) n
      simp; omega
    · have h1 : with_ X i n = X n := by simp [with_, e]
      rw [h1]
      have := ih (by omega)
      omega
/-- A type without functions. -/
def isFirst (ds : List Dc) : Ty → Prop
  | .mk k s _ us => k = 1 ∨ k = 2 ∨ (k = 4 ∧ (∀ t ∈ us, isFirst ds t) ∧ idx ds s < ds.length ∧ ¬ Bad ds s)
theorem bad_of_flds {ds : List Dc} {s : ByteArray} (h : idx ds s < ds.length) {t : Ty} (ht : t ∈ flds ds[idx ds s]) (hb : BadT ds t) : Bad ds s := by
  rcases hb with hf | ⟨s', hm, hb⟩
  · exact .fun_ s h t ht hf
  · exact .more s h t ht s' hm hb
theorem badT_arg {ds : List Dc} {k n : Int} {s : ByteArray} {us : List Ty} {t : Ty} (ht : t ∈ us) (hb : BadT ds t) : BadT ds (.mk k s n us) := by
  rcases hb with hf | ⟨s', hm, hb⟩
  · exact .inl (by rw [hasFun]; exact .inr (hasFunL_iff.2 ⟨t, ht, hf⟩))
  · exact .inr ⟨s', by rw [ment]; exact .inr (mentL_iff.2 ⟨t, ht, hm⟩), hb⟩
theorem badT_con {ds : List Dc} {n : Int} {s : ByteArray} {us : List Ty} (hb : Bad ds s) : BadT ds (.mk 4 s n us) := .inr ⟨s, by rw [ment]; exact .inl ⟨rfl, rfl⟩, hb⟩
theorem cleanT_mk {ds : List Dc} {X : Nat → Bool} {k n : Int} {s : ByteArray} {us : List Ty} (hk : k ≠ 3) (hu : CleanL ds X us) (hs : k = 4 → idx ds s < ds.length → X (idx ds s) = true) : CleanT ds X (.mk k s n us) := by
  refine ⟨?_, fun s' hm hi => ?_⟩
  · rw [hasFun, hasFunL_iff]
    rintro (h | ⟨t, ht, hf⟩)
    · exact hk h
    · exact (hu t ht).1 hf
  · rw [ment, mentL_iff] at hm
    rcases hm with ⟨h4, rfl⟩ | ⟨t, ht, hm⟩
    · exact hs h4 hi
    · exact (hu t ht).2 s' hm hi
theorem mem_flds {d : Dc} {t : Ty} : t ∈ flds d ↔ ∃ k ∈ d.cons, t ∈ k.fields := by unfold flds; rw [List.mem_flatMap]
end Go.Proofs.Ytnlifgcnmhakiaa
