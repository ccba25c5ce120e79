/-
  THE WALK OF typ.plain: is there a declared type of a name, from which no function is reached?
-/
import Derived.Test.YtnlifgcnmhakiaaTReach3
import Derived.Carry
namespace Go.Proofs.Ytnlifgcnmhakiaa
open Go.ChangeShapes Go.WideShapes Go.ChangeAt Go.RowKit

theorem reach_all (ds : List Dc) (S : Nat → Prop) (B : Nat) (hlim : Lim ds) (hsd : ∀ d ∈ ds, ShortD d) : ∀ N, InC ds S B N := by
  intro N
  induction N using Nat.strongRecOn with
  | _ N ih =>
  cases N with
  | zero =>
    intro t f k v lv gl gm gi w hN
    obtain ⟨q, s, m, us⟩ := t
    rw [nodes] at hN
    omega
  | succ N => exact in_node ds S B N (ih N (by omega)) (reach_node ds S B N hlim hsd (fun N' h => ih N' (by omega)))
theorem typ_reaches (ds : List Dc) (S : Nat → Prop) (B N : Nat) (hlim : Lim ds) (hsd : ∀ d ∈ ds, ShortD d) : ReachC ds S B N := reach_node ds S B N hlim hsd (fun N' _ => reach_all ds S B hlim hsd N')
/-- The map 'clean': 0 (not looked at), 1 (declared, and clean), 2 (else). -/
def CV (ds : List Dc) (f : ByteArray → Int) : Prop := ∀ s, f s = 0 ∨ (f s = 1 ∧ idx ds s < ds.length ∧ ¬ Bad ds s) ∨ (f s = 2 ∧ ¬ (idx ds s < ds.length ∧ ¬ Bad ds s))
structure CM (w : World) (ds : List Dc) (B : Nat) (f : ByteArray → Int) (k : Nat) : Prop where
  map : MapAt w B f k
  val : CV ds f
theorem CM.below {w w' : World} {ds : List Dc} {B k : Nat} {f : ByteArray → Int} (h : CM w ds B f k) (hb : Below w.heap.size w w') : CM w' ds B f k := ⟨h.map.below hb, h.val⟩
def PlP (ds : List Dc) (B : Nat) (s : ByteArray) (k : Nat) (w : World) (e : Ending) (w' : World) : Prop := ∃ b f', e = .returned (.bool b) ∧ (b = true ↔ idx ds s < ds.length ∧ ¬ Bad ds s) ∧ CM w' ds B f' (k + 2) ∧ Kept (OnP B) w w'
theorem cv_two {ds : List Dc} {f : ByteArray → Int} {s : ByteArray} (h : CV ds f) (hn : ¬ (idx ds s < ds.length ∧ ¬ Bad ds s)) : CV ds (updM f s 2) := by
  intro x
  unfold updM
  by_cases e : x = s
  · subst e; rw [if_pos rfl]; exact .inr (.inr ⟨rfl, hn⟩)
  · rw [if_neg e]; exact h x
theorem cv_one {ds : List Dc} {f : ByteArray → Int} {s : ByteArray} (h : CV ds f) (hn : idx ds s < ds.length ∧ ¬ Bad ds s) : CV ds (updM (updM f s 2) s 1) := by
  intro x
  unfold updM
  by_cases e : x = s
  · subst e; simp; exact hn
  · simp only [if_neg e]; exact h x
theorem left_none (n : Nat) : left_ (fun _ => false) n = n := by
  induction n with
  | zero => rfl
  | succ n ih => rw [left_, ih]; simp
theorem left_le (X : Nat → Bool) (n : Nat) : left_ X n ≤ n := by
  have := left_mono (X := fun _ => false) (Y := X) (fun _ h => by cases h) n
  rw [left_none] at this
  exact this
theorem pl_kept {w w1 : World} {B : Nat} {o1 : Obj} (hg : (w.alloc o1).grownBy w1 (some B)) : Kept (OnP B) w w1 :=
  ((Kept.refl _ w).alloc o1).grown hg (fun k e => .inl (by injection e with e; exact e.symm))
theorem pl_blk {w w1 : World} {B : Nat} {a1 : Value} {t1 : TypeId} (hg : (w.alloc (.cells #[a1] t1)).grownBy w1 (some B)) (hB : B < w.heap.size) : Blk w1 w.heap.size t1 #[a1] :=
  (hg.block _ (by simp) (fun e => by injection e with e; omega)).trans (Blk.new _ _ _)
set_option maxHeartbeats 8000000 in
set_option maxRecDepth 100000 in
theorem typ_plain (ds : List Dc) (S : Nat → Prop) (hlim : Lim ds) (hsd : ∀ d ∈ ds, ShortD d) (s : ByteArray) (f : ByteArray → Int) (k B : Nat) (lv : Value) (w : World) (hs : s.size ≤ maxLen) (hd : DcsAt w S ds lv) (hSB : ¬ S B) (hSl : ∀ b, S b → b < w.heap.size) (hM : CM w ds B f k) (hk : k ≤ 1000000) :
    Calls Try.prog 63 #[lv, .string s, .map (some B)] w (PlP ds B s k w) := by
  have hBl := hM.map.lt
  obtain ⟨v, hv⟩ : ∃ v, v = f s := ⟨_, rfl⟩
  have hval := hM.val s
  rw [← hv] at hval
  have HF := hid hv
  have HM := hid (And.intro hM (And.intro hs hBl))
  have hlD := hlim.1
  have hw2 : (Lit.int .i64 2).wf = true := by decide
  have hw1 : (Lit.int .i64 1).wf = true := by decide
  have HW := hid (And.intro hw1 hw2)
  have hkm : k < maxLen ∧ k + 1 < maxLen := by unfold maxLen; omega
  have HK := hid hkm
  have HD := hid (And.intro hd (And.intro hSB (And.intro hSl (And.intro hlim hsd))))
  clear hv hM hs hBl hw1 hw2 hkm hd hSB hSl hlim hsd hk
  rcases hval with rfl | ⟨rfl, hi, hb⟩ | ⟨rfl, hn⟩
  · have hmm := @run_makeMap Try.prog
    have hu2 : updM f s 2 s = 2 := by simp [updM]
    have hu1 : updM (updM f s 2) s 1 s = 1 := by simp [updM]
    have HU := hid (And.intro hu2 hu1)
    clear hu1 hu2
    obtain ⟨AD, cD, hlv, _⟩ := HD.out.1
    have C := hid (fun (w2 : World) (hK : Kept (OnP B) w w2) => typ_reaches ds S w2.heap.size (1000 * 100000000) HD.out.2.2.2.1 HD.out.2.2.2.2 s (fun _ => 0) 0 lv (w2.alloc (.map #[] 0)) (by have := left_le (vis ds fun _ => 0) ds.length; have := HD.out.2.2.2.1.1; omega) HM.out.2.1
      ((HD.out.1.kept hK (onp_not HD.out.2.1)).up ((Below.refl _ _).alloc (Nat.le_refl _) _)) (fun h => by have h1 := HD.out.2.2.1 _ h; have h2 := hK.size; omega) ⟨MapAt.made w2, fun _ => ⟨Int.le_refl _, Int.le_refl _⟩⟩ (by have := left_le (vis ds fun _ => 0) ds.length; have := HD.out.2.2.2.1.1; unfold MB; omega))
    subst hlv
    by_cases hix : idx ds s < ds.length
    · have hdec := hid (decide_eq_true hix)
      have HX := hid hix
      clear hix
      have tok1 : Hid True := trivial
      have tok2 : Hid True := trivial
      go_enter Try.func63, Try.ntmps63
      go_wp2_with (first
        | (have _ := tok1; at_lookup; go_must (refine wpList_lookM (by rfl) _ _ (by rfl) (HM.out.1.map.below (by go_grown : Below w.heap.size w _)) HM.out.2.1 (by rfl) (by rfl) ?_); rw [← HF.out]; clear tok1)
        | (have _ := tok2; at_mapUpdate; go_must (refine wpList_putM (by rfl) _ _ _ (by rfl) (HM.out.1.map.below (by go_grown : Below w.heap.size w _)) HK.out.1 HM.out.2.1 HW.out.2 (by rfl) (by rfl) (by rfl) ?_); intro w1 hm1 hg1; go_must (have P := hid (And.intro hm1 (And.intro (pl_kept hg1) (pl_blk hg1 HM.out.2.2))); have y1 := (pl_blk hg1 HM.out.2.2).cell 0; clear hm1 hg1 tok2))
        | (go_at_call 72; go_must (refine (plain_has ds s _ S _ w1 (by omega) (HD.out.1.kept P.out.2.1 (onp_not HD.out.2.1)) P.out.2.2).mono ?_); rintro e w2 ⟨he9, b2⟩; go_must (rw [hdec.out] at he9; subst he9; have K2 := hid ((Kept.of_below b2 _).hop P.out.2.1); have P2 := hid (And.intro (P.out.1.below b2) (P.out.2.2.below b2 P.out.2.2.lt)); have y2 := P2.out.2.cell 0; have y3 : ∀ o, (w2.alloc o).cell? ⟨w.heap.size, 0, none⟩ = some (.string s) := (fun o => (P2.out.2.alloc o).cell 0); clear b2))
        | (go_at_call 74; go_must (refine (C.out w2 K2.out).mono ?_); rintro e w3 ⟨b, f3, k3, hans, g1, g2, g3, g4⟩; go_must (obtain rfl : e = .returned (.bool b) := hans; have b3 := call_below (by go_grown : Below w2.heap.size w2 _) g2 (by simp); have K3 := hid ((Kept.of_below b3 _).hop K2.out); have P3 := hid (And.intro (P2.out.1.below b3) (P2.out.2.below b3 P2.out.2.lt)); have y4 := P3.out.2.cell 0; have G := hid (And.intro g3 g4); clear g1 g2 g3 g4 b3))
        | (at_mapUpdate; go_must (refine wpList_putM (by rfl) _ _ _ (by rfl) P3.out.1 HK.out.2 HM.out.2.1 HW.out.1 (by rfl) (by rfl) (by rfl) ?_); intro w4 hm4 hg4; go_must (have P4 := hid (And.intro hm4 (K3.out.grown hg4 (fun k e => .inl (by injection e with e; exact e.symm)))); have z5 : Blk w4 w.heap.size 9 #[.string s] := (hg4.block _ P3.out.2.lt (fun e => (by injection e with e; have := HM.out.2.2; omega))).trans P3.out.2; have y5 := z5.cell 0; clear hm4 hg4 z5))
        | (at_lookup; have _ := P4; go_must (refine wpList_lookM (by rfl) _ _ (by rfl) P4.out.1 HM.out.2.1 (by rfl) (by rfl) ?_); rw [HU.out.2])
        | (at_lookup; go_must (refine wpList_lookM (by rfl) _ _ (by rfl) P3.out.1 HM.out.2.1 (by rfl) (by rfl) ?_); rw [HU.out.1]))
      · go_ret
        have hbf : b = false := by cases b <;> simp_all
        obtain ⟨j1, j2, _⟩ := G.out.2 hbf
        rw [vis_none] at j2
        have hbad := clean_all j2 j1
        exact ⟨true, _, rfl, ⟨fun _ => ⟨HX.out, hbad⟩, fun _ => rfl⟩, ⟨P4.out.1, cv_one HM.out.1.val ⟨HX.out, hbad⟩⟩, P4.out.2⟩
      · go_ret
        have hbt : b = true := by cases b <;> simp_all
        have hbad := G.out.1 hbt
        exact ⟨false, _, rfl, ⟨fun h => (by cases h), fun h => absurd hbad h.2⟩, ⟨P3.out.1.mono (by omega), cv_two HM.out.1.val (fun h => h.2 hbad)⟩, K3.out⟩
    · have hdec := hid (decide_eq_false hix)
      have HX := hid hix
      clear hix
      have tok1 : Hid True := trivial
      go_enter Try.func63, Try.ntmps63
      go_wp2_with (first
        | (have _ := tok1; at_lookup; go_must (refine wpList_lookM (by rfl) _ _ (by rfl) (HM.out.1.map.below (by go_grown : Below w.heap.size w _)) HM.out.2.1 (by rfl) (by rfl) ?_); rw [← HF.out]; clear tok1)
        | (at_mapUpdate; go_must (refine wpList_putM (by rfl) _ _ _ (by rfl) (HM.out.1.map.below (by go_grown : Below w.heap.size w _)) HK.out.1 HM.out.2.1 HW.out.2 (by rfl) (by rfl) (by rfl) ?_); intro w1 hm1 hg1; go_must (have P := hid (And.intro hm1 (And.intro (pl_kept hg1) (pl_blk hg1 HM.out.2.2))); have y1 := (pl_blk hg1 HM.out.2.2).cell 0; clear hm1 hg1))
        | (go_at_call 72; go_must (refine (plain_has ds s _ S _ w1 (by omega) (HD.out.1.kept P.out.2.1 (onp_not HD.out.2.1)) P.out.2.2).mono ?_); rintro e w2 ⟨he9, b2⟩; go_must (rw [hdec.out] at he9; subst he9; have K2 := hid ((Kept.of_below b2 _).hop P.out.2.1); have P2 := hid (And.intro (P.out.1.below b2) (P.out.2.2.below b2 P.out.2.2.lt)); have y2 := P2.out.2.cell 0; clear b2))
        | (at_lookup; go_must (refine wpList_lookM (by rfl) _ _ (by rfl) P2.out.1 HM.out.2.1 (by rfl) (by rfl) ?_); rw [HU.out.1]))
      go_ret
      exact ⟨false, _, rfl, ⟨fun h => (by cases h), fun h => absurd h.1 HX.out⟩, ⟨P2.out.1.mono (by omega), cv_two HM.out.1.val (fun h => HX.out h.1)⟩, K2.out⟩
  · have HB := hid (And.intro hi hb)
    clear hi hb
    go_enter Try.func63, Try.ntmps63
    go_wp2_with (at_lookup; go_must (refine wpList_lookM (by rfl) _ _ (by rfl) (HM.out.1.map.below (by go_grown : Below w.heap.size w _)) HM.out.2.1 (by rfl) (by rfl) ?_); rw [← HF.out])
    go_ret
    exact ⟨true, f, rfl, ⟨fun _ => HB.out, fun _ => rfl⟩, ⟨(HM.out.1.map.below ((Below.refl _ _).alloc (Nat.le_refl _) _)).mono (by omega), HM.out.1.val⟩, (Kept.refl _ _).alloc _⟩
  · have HB := hid hn
    clear hn
    go_enter Try.func63, Try.ntmps63
    go_wp2_with (at_lookup; go_must (refine wpList_lookM (by rfl) _ _ (by rfl) (HM.out.1.map.below (by go_grown : Below w.heap.size w _)) HM.out.2.1 (by rfl) (by rfl) ?_); rw [← HF.out])
    go_ret
    exact ⟨false, f, rfl, ⟨fun h => (by cases h), fun h => absurd h HB.out⟩, ⟨(HM.out.1.map.below ((Below.refl _ _).alloc (Nat.le_refl _) _)).mono (by omega), HM.out.1.val⟩, (Kept.refl _ _).alloc _⟩
end Go.Proofs.Ytnlifgcnmhakiaa
