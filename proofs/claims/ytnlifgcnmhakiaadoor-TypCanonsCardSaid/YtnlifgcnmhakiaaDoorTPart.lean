/-
  THE WALK OF links.part.
-/
import Derived.Test.YtnlifgcnmhakiaaDoorTTab
namespace Go.Proofs.YtnlifgcnmhakiaaDoor
open Go.ChangeShapes Go.WideShapes Go.ChangeAt Go.RowKit

theorem str_nil {s : ByteArray} : s.toList = [] ↔ s = ⟨#[]⟩ := by
  rw [ByteArray.toList_eq]
  constructor
  · intro h
    obtain ⟨⟨d⟩⟩ := s
    simp only at h
    rw [h]
  · rintro rfl; rfl
/-- What part tells. -/
def PartP (nv : Nat) (t : Ty) (w : World) (e : Ending) (w' : World) : Prop := e = .returned (.bool (goodT nv t)) ∧ Below w.heap.size w w'
def PartC (nv p : Nat) (pv c : Nat) (t : Ty) : Prop := ∀ (v : Value) (S : Nat → Prop) (w : World), Blk w p 71 #[.int .i64 nv, .slice (some ⟨pv, 0, none⟩) nv c] → TAt w S t v → Calls Tryd.prog 53 #[.pointer (some ⟨p, 0, none⟩), v] w (PartP nv t w)
set_option maxHeartbeats 4000000 in
set_option maxRecDepth 100000 in
theorem part_lit {nv p pv c : Nat} {t : Ty} (h : PartC nv p pv c t) (g : Nat) (v : Value) (S : Nat → Prop) (w : World) (hg : Blk w g 78 #[.pointer (some ⟨p, 0, none⟩)]) (hb : Blk w p 71 #[.int .i64 nv, .slice (some ⟨pv, 0, none⟩) nv c]) (hv : TAt w S t v) :
    Calls Tryd.prog 61 #[v, .pointer (some ⟨g, 0, none⟩)] w fun e w' => e = .returned (.bool (!goodT nv t)) ∧ Below w.heap.size w w' := by
  have HV := hid hv
  obtain ⟨q, s, k, A, m, c2, rfl⟩ := hv.agg
  have H := hid (And.intro h hb)
  have x0 : ∀ o, (w.alloc o).cell? ⟨g, 0, none⟩ = some (.pointer (some ⟨p, 0, none⟩)) := fun o => (hg.alloc o).cell 0
  clear hv h hb hg
  go_enter Tryd.func61, Tryd.ntmps61
  go_wp2_with (go_at_call 53; go_must (refine (H.out.1 _ (fun _ => True) _ (H.out.2.alloc _) (HV.out.all.up (by go_grown : Below w.heap.size w _))).mono ?_); rintro e w1 ⟨rfl, b1⟩; go_must (have b2 := hid (below_then (B := w.heap.size) b1 (by go_grown : Below w.heap.size w _) (by simp)); clear b1))
  go_ret
  exact ⟨rfl, b2.out⟩
theorem goodL_take {nv : Nat} {us : List Ty} {i : Nat} (hi : i < us.length) : goodL nv (us.take (i + 1)) = (goodL nv (us.take i) && goodT nv us[i]) := by
  induction us generalizing i with
  | nil => simp at hi
  | cons t ts ih =>
    cases i with
    | zero => simp [goodL]
    | succ i =>
      simp only [List.take_succ_cons, goodL, List.getElem_cons_succ]
      rw [ih (by simpa using hi), Bool.and_assoc]
theorem goodL_bad {nv : Nat} {us : List Ty} {i : Nat} (hi : i < us.length) (h : goodT nv us[i] = false) : goodL nv us = false := by
  cases h2 : goodL nv us with
  | false => rfl
  | true => rw [goodL_mem h2 _ (List.getElem_mem hi)] at h; cases h
set_option maxHeartbeats 4000000 in
set_option maxRecDepth 100000 in
theorem part_index {nv p pv c : Nat} (us : List Ty) (h : ∀ t ∈ us, PartC nv p pv c t) (g : Nat) (A : Option Addr) (c2 : Nat) (S : Nat → Prop) (w : World) (hg : Blk w g 78 #[.pointer (some ⟨p, 0, none⟩)]) (hb : Blk w p 71 #[.int .i64 nv, .slice (some ⟨pv, 0, none⟩) nv c]) (hrow : TRow w S us A 0) (hm : us.length ≤ maxLen) :
    Calls Tryd.prog 36 #[.slice A us.length c2, .func (.func 61) #[] #[.pointer (some ⟨g, 0, none⟩)]] w fun e w' => (∃ r : Int, e = .returned (.int .i64 r) ∧ (r ≥ 0 ↔ goodL nv us = false)) ∧ Below w.heap.size w w' := by
  have hL : us.length ≤ 9223372036854775807 := by unfold maxLen at hm; omega
  have H := hid (And.intro h (And.intro hg (And.intro hb hrow)))
  clear h hg hb hrow
  go_enter Tryd.func36, Tryd.ntmps36
  go_wp2
  go_loopg [8] us.length (fun gk x wr => ∃ i : Nat, i + gk = us.length ∧ x = .int .i64 i ∧ Hid (Below w.heap.size w wr) ∧ Hid (goodL nv (us.take i) = true))
  case atStart => exact ⟨0, by omega, rfl, hid (Below.refl _ _), hid (by simp [goodL])⟩
  case round =>
    obtain ⟨i, hi, rfl, hB, hgd⟩ := hrel
    have Hi := hid hi
    by_cases hlt : i < us.length
    · have hlt' : (i : Int) < us.length := by omega
      obtain ⟨ad, q', s', n', A3, m', c3, rfl, hSb, hab, y0, y1, y2, y3, hel⟩ := (H.out.2.2.2.up hB.out).elem hlt
      have Q := hid (And.intro hel (And.intro (List.getElem_mem hlt) (And.intro (goodL_take (nv := nv) hlt) (goodL_bad (nv := nv) hlt))))
      clear hi hSb hab hel
      generalize us[i] = t at Q
      cases hgt : goodT nv t with
      | false =>
        rw [hgt] at Q
        have C := part_lit (H.out.1 t Q.out.2.1) g _ S wr (H.out.2.1.below hB.out H.out.2.1.lt) (H.out.2.2.1.below hB.out H.out.2.2.1.lt) Q.out.1
        rw [hgt] at C
        have HC := hid C
        clear C hgt
        go_wp2_with (go_at_call 61; go_must (refine HC.out.mono ?_); rintro e w1 ⟨rfl, b1⟩)
        go_ret
        exact ⟨⟨i, rfl, ⟨fun _ => Q.out.2.2.2 (by simp), fun _ => by omega⟩⟩, below_hop b1 hB.out⟩
      | true =>
        rw [hgt] at Q
        have C := part_lit (H.out.1 t Q.out.2.1) g _ S wr (H.out.2.1.below hB.out H.out.2.1.lt) (H.out.2.2.1.below hB.out H.out.2.2.1.lt) Q.out.1
        rw [hgt] at C
        have HC := hid C
        clear C hgt
        go_wp2_with (go_at_call 61; go_must (refine HC.out.mono ?_); rintro e w1 ⟨rfl, b1⟩)
        have hgk := Hi.out
        go_roundg (gk - 1)
        case rel => exact ⟨i + 1, by omega, rfl, hid (below_hop b1 hB.out), hid (by rw [Q.out.2.2.1, hgd.out]; rfl)⟩
        case measure => omega
    · obtain rfl : i = us.length := by omega
      clear hi
      go_wp2
      go_ret
      have h9 := hgd.out
      rw [List.take_length] at h9
      exact ⟨⟨-1, rfl, ⟨fun h => by omega, fun h => by rw [h9] at h; cases h⟩⟩, hB.out⟩
set_option maxHeartbeats 4000000 in
set_option maxRecDepth 100000 in
theorem part_contains {nv p pv c : Nat} (us : List Ty) (h : ∀ t ∈ us, PartC nv p pv c t) (g : Nat) (A : Option Addr) (c2 : Nat) (S : Nat → Prop) (w : World) (hg : Blk w g 78 #[.pointer (some ⟨p, 0, none⟩)]) (hb : Blk w p 71 #[.int .i64 nv, .slice (some ⟨pv, 0, none⟩) nv c]) (hrow : TRow w S us A 0) (hm : us.length ≤ maxLen) :
    Calls Tryd.prog 60 #[.slice A us.length c2, .func (.func 61) #[] #[.pointer (some ⟨g, 0, none⟩)]] w fun e w' => e = .returned (.bool (!goodL nv us)) ∧ Below w.heap.size w w' := by
  have C := hid (part_index us h g A c2 S w hg hb hrow hm)
  clear h hg hb hrow
  go_enter Tryd.func60, Tryd.ntmps60
  go_wp2_with (go_at_call 36; go_must (refine C.out.mono ?_); rintro e w1 ⟨⟨r, rfl, hr⟩, b1⟩)
  go_ret
  refine ⟨ret_bool ?_, b1⟩
  cases h : goodL nv us with
  | false => have := hr.2 h; first | (simp; done) | (simp; omega)
  | true => have : ¬ r ≥ 0 := fun hh => (by have := hr.1 hh; rw [h] at this; cases this)
            first | (simp; done) | (simp; omega)
theorem ok1 {nv m : Nat} {s : ByteArray} {n : Int} : okN nv 1 s n m ↔ s.toList = [] ∧ n = 0 ∧ m = 0 := by unfold okN; rw [str_nil]; simp
theorem ok2 {nv m : Nat} {s : ByteArray} {n : Int} : okN nv 2 s n m ↔ s.toList = [] ∧ 1 ≤ n ∧ n ≤ nv ∧ m = 0 := by unfold okN; rw [str_nil]; simp
theorem ok3 {nv m : Nat} {s : ByteArray} {n : Int} : okN nv 3 s n m ↔ s.toList = [] ∧ n = 0 ∧ m = 2 := by unfold okN; rw [str_nil]; simp
theorem ok4 {nv m : Nat} {s : ByteArray} {n : Int} : okN nv 4 s n m ↔ ¬ s.toList = [] ∧ n = 0 := by unfold okN; rw [str_nil]; simp
theorem ok0 {nv m : Nat} {q : Int} {s : ByteArray} {n : Int} (h1 : ¬ q = 1) (h2 : ¬ q = 2) (h3 : ¬ q = 3) (h4 : ¬ q = 4) : ¬ okN nv q s n m := by unfold okN; simp [h1, h2, h3, h4]
theorem goodL_zero {nv : Nat} {us : List Ty} : goodL nv us = true ∨ us.length ≠ 0 := by
  cases us with
  | nil => left; rfl
  | cons u us => right; simp
theorem and_no {p : Prop} [Decidable p] {b : Bool} (h : ¬ p) : false = (decide p && b) := by simp [h]
theorem end1 {nv : Nat} {s : ByteArray} {us : List Ty} (h : s.toList = []) : (((us.length : Nat) : Int) == 0) = (decide (okN nv 1 s 0 us.length) && goodL nv us) := by
  cases us with
  | nil => simp [ok1, h, goodL]
  | cons u us => rw [decide_eq_false (p := okN nv 1 s 0 (u :: us).length) (by rw [ok1]; simp)]; simp; omega
theorem end2 {nv : Nat} {s : ByteArray} {n : Int} {us : List Ty} (h : s.toList = []) (h1 : 1 ≤ n) (h2 : n ≤ nv) : (((us.length : Nat) : Int) == 0) = (decide (okN nv 2 s n us.length) && goodL nv us) := by
  cases us with
  | nil => simp [ok2, h, goodL, h1, h2]
  | cons u us => rw [decide_eq_false (p := okN nv 2 s n (u :: us).length) (by rw [ok2]; simp)]; simp; omega
set_option maxHeartbeats 4000000 in
set_option maxRecDepth 100000 in
theorem part_node {nv p pv c : Nat} (q : Int) (s : ByteArray) (n : Int) (A : Option Addr) (us : List Ty) (c2 : Nat) (h : ∀ t ∈ us, PartC nv p pv c t) (S : Nat → Prop) (w : World) (hb : Blk w p 71 #[.int .i64 nv, .slice (some ⟨pv, 0, none⟩) nv c]) (hrow : TRow w S us A 0) (hm : us.length ≤ maxLen) (_hnv : nv ≤ 1000) :
    Calls Tryd.prog 53 #[.pointer (some ⟨p, 0, none⟩), .agg #[.int .i64 q, .string s, .int .i64 n, .slice A us.length c2]] w (PartP nv (.mk q s n us) w) := by
  have hL : us.length ≤ 9223372036854775807 := by unfold maxLen at hm; omega
  have hB := hid (below_2 (Below.refl w.heap.size w) (.cells #[.pointer (some ⟨p, 0, none⟩)] 78) (.cells #[.int .i64 q, .string s, .int .i64 n, .slice A us.length c2] 24))
  have H := hid (And.intro h (And.intro hb (And.intro hrow hm)))
  clear h hb hrow hm
  unfold PartP
  rw [goodT]
  by_cases h1 : q = 1
  · subst h1
    go_enter Tryd.func53, Tryd.ntmps53
    go_wp2
    all_goals go_ret
    · rename_i h1 h2; subst h2; exact ⟨ret_bool (end1 h1), hB.out⟩
    · rename_i h1 h2; exact ⟨ret_bool (and_no (by rw [ok1]; simp [h1, h2])), hB.out⟩
    · rename_i h1; exact ⟨ret_bool (and_no (by rw [ok1]; simp [h1])), hB.out⟩
  by_cases h2 : q = 2
  · subst h2
    clear h1
    have x0 : ∀ o o', ((w.alloc o).alloc o').cell? ⟨p, 1, none⟩ = some (.slice (some ⟨pv, 0, none⟩) nv c) := fun o o' => ((H.out.2.1.alloc o).alloc o').cell 1
    by_cases hs : s.toList = []
    case neg =>
      have e := hid (and_no (p := okN nv 2 s n us.length) (b := goodL nv us) (by rw [ok2]; simp [hs]))
      have hs2 : (s.toList == []) = false := by simpa using hs
      have hs3 : s.toList.isEmpty = false := by simpa using hs
      have hs4 : decide (s.toList = []) = false := by simpa using hs
      go_enter Tryd.func53, Tryd.ntmps53
      go_wp2
      go_quiet (fail)
      go_wp2
      go_ret
      exact ⟨ret_bool e.out, below_drewN hB.out _⟩
    have hs2 : (s.toList == []) = true := by rw [hs]; rfl
    by_cases hn1 : 1 ≤ n
    case neg =>
      have e := hid (and_no (p := okN nv 2 s n us.length) (b := goodL nv us) (by rw [ok2]; simp [hn1]))
      have hn4 : decide (1 ≤ n) = false := by simpa using hn1
      go_enter Tryd.func53, Tryd.ntmps53
      go_wp2
      go_quiet (fail)
      go_wp2
      go_ret
      exact ⟨ret_bool e.out, below_drewN hB.out _⟩
    by_cases hn2 : n ≤ nv
    case neg =>
      have e := hid (and_no (p := okN nv 2 s n us.length) (b := goodL nv us) (by rw [ok2]; simp [hn2]))
      have hn4 : decide (n ≤ (nv : Int)) = false := by simpa using hn2
      go_enter Tryd.func53, Tryd.ntmps53
      go_wp2
      go_quiet (fail)
      go_wp2
      go_ret
      exact ⟨ret_bool e.out, below_drewN hB.out _⟩
    have e := hid (end2 (us := us) hs hn1 hn2)
    go_enter Tryd.func53, Tryd.ntmps53
    go_wp2
    go_quiet (fail)
    go_wp2
    go_ret
    exact ⟨ret_bool e.out, below_drewN hB.out _⟩
  have C := hid (fun (w1 : World) (o : Obj) (hw1 : w1 = (w.alloc (.cells #[.pointer (some ⟨p, 0, none⟩)] 78)).alloc o) => part_contains us H.out.1 w.heap.size A c2 S w1 (by subst hw1; exact (Blk.new _ _ _).alloc _) (by subst hw1; exact (H.out.2.1.alloc _).alloc _) (by subst hw1; exact H.out.2.2.1.up (below_2 (Below.refl _ _) _ _)) H.out.2.2.2)
  by_cases h3 : q = 3
  · subst h3
    clear h1 h2
    by_cases h : s.toList = [] ∧ n = 0 ∧ us.length = 2
    · obtain ⟨ha, rfl, hc⟩ := h
      have e : goodL nv us = (decide (okN nv 3 s 0 us.length) && goodL nv us) := by simp [ok3, ha, hc]
      have He := hid e
      clear e
      have hd : (((us.length : Nat) : Int) != 2) = false := by rw [hc]; rfl
      clear hc
      go_enter Tryd.func53, Tryd.ntmps53
      go_wp2_with (go_at_call 60; go_must (refine (C.out _ _ rfl).mono ?_); rintro e w1 ⟨rfl, b1⟩; go_must (have b2 := hid (below_then (B := w.heap.size) b1 hB.out (by simp; omega)); clear b1))
      go_ret
      refine ⟨ret_bool ?_, b2.out⟩
      first | (rw [← He.out]; done) | (rw [← He.out]; simp; done)
    · have e := hid (and_no (p := okN nv 3 s n us.length) (b := goodL nv us) (by rw [ok3]; exact h))
      by_cases ha : s.toList = []
      · by_cases hb : n = 0
        · have hd : (((us.length : Nat) : Int) != 2) = true := by
            have : us.length ≠ 2 := fun hc => h ⟨ha, hb, hc⟩
            simp; omega
          subst hb
          clear h
          go_enter Tryd.func53, Tryd.ntmps53
          go_wp2
          go_ret
          exact ⟨ret_bool e.out, hB.out⟩
        · clear h
          go_enter Tryd.func53, Tryd.ntmps53
          go_wp2
          go_ret
          exact ⟨ret_bool e.out, hB.out⟩
      · clear h
        go_enter Tryd.func53, Tryd.ntmps53
        go_wp2
        go_ret
        exact ⟨ret_bool e.out, hB.out⟩
  by_cases h4 : q = 4
  · subst h4
    clear h1 h2 h3
    by_cases ha : s.toList = []
    · have a1 : s.toList.isEmpty = true := by rw [ha]; rfl
      have e := hid (and_no (p := okN nv 4 s n us.length) (b := goodL nv us) (by rw [ok4]; simp [ha]))
      go_enter Tryd.func53, Tryd.ntmps53
      go_wp2
      go_ret
      exact ⟨ret_bool e.out, hB.out⟩
    · have a1 : s.toList.isEmpty = false := by simpa using ha
      by_cases hb : n = 0
      · subst hb
        have e : goodL nv us = (decide (okN nv 4 s 0 us.length) && goodL nv us) := by simp [ok4, ha]
        have He := hid e
        clear e
        go_enter Tryd.func53, Tryd.ntmps53
        go_wp2_with (go_at_call 60; go_must (refine (C.out _ _ rfl).mono ?_); rintro e w1 ⟨rfl, b1⟩; go_must (have b2 := hid (below_then (B := w.heap.size) b1 hB.out (by simp; omega)); clear b1))
        go_ret
        refine ⟨ret_bool ?_, b2.out⟩
        first | (rw [← He.out]; done) | (rw [← He.out]; simp; done)
      · have b1 : (n != 0) = true := by simpa using hb
        have e := hid (and_no (p := okN nv 4 s n us.length) (b := goodL nv us) (by rw [ok4]; simp [hb]))
        go_enter Tryd.func53, Tryd.ntmps53
        go_wp2
        go_ret
        exact ⟨ret_bool e.out, hB.out⟩
  have e := hid (and_no (p := okN nv q s n us.length) (b := goodL nv us) (ok0 h1 h2 h3 h4))
  go_enter Tryd.func53, Tryd.ntmps53
  go_wp2
  go_ret
  exact ⟨ret_bool e.out, hB.out⟩
theorem links_part {nv p pv c : Nat} (hnv : nv ≤ 1000) : ∀ (N : Nat) (t : Ty), SizeOf.sizeOf t ≤ N → PartC nv p pv c t := by
  intro N
  induction N with
  | zero => intro t ht; cases t; simp at ht
  | succ N ih =>
  intro t ht v S w hb hv
  obtain ⟨q, s, k, us⟩ := t
  obtain ⟨A, c2, rfl, hc, hcm, _, hrow, _⟩ := hv.parts
  exact part_node q s k A us c2 (fun t hm => ih t (by have := ty_lt (k := q) (n := k) (s := s) hm; omega)) S w hb hrow (Nat.le_trans hc hcm) hnv
/-- may: is a type one of the table's? -/
def MayP (nv : Nat) (t : Ty) (w : World) (e : Ending) (w' : World) : Prop := e = .returned (.bool (mayT nv t)) ∧ Below w.heap.size w w'
set_option maxHeartbeats 4000000 in
set_option maxRecDepth 100000 in
theorem links_may {nv p pv c : Nat} (hnv : nv ≤ 1000) (t : Ty) (v : Value) (S : Nat → Prop) (w : World) (hb : Blk w p 71 #[.int .i64 nv, .slice (some ⟨pv, 0, none⟩) nv c]) (hv : TAt w S t v) :
    Calls Tryd.prog 43 #[.pointer (some ⟨p, 0, none⟩), v] w (MayP nv t w) := by
  have HV := hid hv
  obtain ⟨q, s, k, A, m, c2, rfl⟩ := hv.agg
  have H := hid hb
  have h9 : sizeT t ≤ 1025 := by unfold sizeT; omega
  clear hv hb
  by_cases hsz : sizeT t ≤ 1024
  · have e := hid (show goodT nv t = mayT nv t from by unfold mayT; simp [hsz])
    have hs2 : (sizeT t : Int) ≤ 1024 := by omega
    clear hsz
    go_enter Tryd.func43, Tryd.ntmps43
    go_wp2_with (first
      | (go_at_call 35; go_must (refine (links_Size t _ (fun _ => True) _ (HV.out.all.up (by go_grown : Below w.heap.size w _))).mono ?_); rintro e w1 ⟨rfl, b1⟩; go_must (have b2 := hid (below_then (B := w.heap.size) b1 (by go_grown : Below w.heap.size w _) (by simp)); have X1 := hid ((Blk.new w 24 #[.int .i64 q, .string s, .int .i64 k, .slice A m c2]).below b1 (by simp)); have x0 : w1.cell? ⟨w.heap.size, 0, none⟩ = some (.int .i64 q) := X1.out.cell 0; have x1 : w1.cell? ⟨w.heap.size, 1, none⟩ = some (.string s) := X1.out.cell 1; have x2 : w1.cell? ⟨w.heap.size, 2, none⟩ = some (.int .i64 k) := X1.out.cell 2; have x3 : w1.cell? ⟨w.heap.size, 3, none⟩ = some (.slice A m c2) := X1.out.cell 3; clear b1))
      | (go_at_call 53; go_must (refine (links_part (pv := pv) (c := c) hnv _ t (Nat.le_refl _) _ (fun _ => True) _ (H.out.below b2.out H.out.lt) (HV.out.all.up b2.out)).mono ?_); rintro e w2 ⟨rfl, b1⟩; go_must (have b3 := hid (below_hop b1 b2.out); clear b1)))
    go_ret
    exact ⟨ret_bool e.out, b3.out⟩
  · have e := hid (show false = mayT nv t from by unfold mayT; simp [hsz])
    have hs2 : ¬ (sizeT t : Int) ≤ 1024 := by omega
    have hs3 : decide ((sizeT t : Int) ≤ 1024) = false := by simpa using hs2
    clear hsz
    go_enter Tryd.func43, Tryd.ntmps43
    go_wp2_with (first
      | (go_at_call 35; go_must (refine (links_Size t _ (fun _ => True) _ (HV.out.all.up (by go_grown : Below w.heap.size w _))).mono ?_); rintro e w1 ⟨rfl, b1⟩; go_must (have b2 := hid (below_then (B := w.heap.size) b1 (by go_grown : Below w.heap.size w _) (by simp)); clear b1)))
    go_ret
    exact ⟨ret_bool e.out, b2.out⟩
end Go.Proofs.YtnlifgcnmhakiaaDoor
