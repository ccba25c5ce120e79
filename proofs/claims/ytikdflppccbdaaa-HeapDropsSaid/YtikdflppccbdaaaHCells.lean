/-
  THE WALKS OF cells.Of .. AND OF THEIR REFERENCES: heads and words of one number.
-/
import Derived.Test.YtikdflppccbdaaaRows
import Derived.Test.YtikdflppccbdaaaHPlain
import Derived.Test.YtikdflppccbdaaaMem
import Derived.OpenShut
import Derived.WalkLawsBesides
import Derived.Deep.DeepMust
namespace Go.Proofs.Ytikdflppccbdaaa
open Go.ChangeShapes Go.WideShapes Go.ChangeAt Go.RowKit

theorem cells_Of (h : Int) (hw : (Lit.int .i64 h).wf = true) (w : World) : Calls Try.prog 43 #[.int .i64 h] w fun e w' => e = .returned (ofV h) ∧ w = w' := by
  have h2 := wf_i64 hw
  have q1 : 0 ≤ h → h.tdiv 512 = h / 512 := fun h0 => Int.tdiv_eq_ediv_of_nonneg h0
  have q2 : (h % 512).tdiv 2 = h % 512 / 2 := Int.tdiv_eq_ediv_of_nonneg (by omega)
  have q3 : 0 ≤ h → h.tmod 512 = h % 512 := fun h0 => Int.tmod_eq_emod_of_nonneg h0
  have q4 : 0 ≤ h → h.tmod 2 = h % 2 := fun h0 => Int.tmod_eq_emod_of_nonneg h0
  have H := hid (And.intro hw (And.intro h2 (And.intro q1 (And.intro q2 (And.intro q3 q4)))))
  clear hw h2 q1 q2 q3 q4
  go_enter Try.func43, Try.ntmps43
  go_wp2
  all_goals
    refine bodyPost_ret (results_tmp3 rfl _ _ _) rfl ⟨?_, rfl⟩
    obtain ⟨hw, h2, q1, q2, q3, q4⟩ := H.out
    try simp only [beq_iff_eq] at *
    try simp only [beq_eq_false_iff_ne] at *
    try simp only [bne_iff_ne] at *
    first
    | exact ofV_no' (by unfold OfOk; intro hk; obtain ⟨k1, k2, k3, k4⟩ := hk; have := q1 k1; have := q3 k1; have := q4 k1; first | omega | (simp only [wrap64] at *; first | done | omega))
    | exact ofV_yes' (by unfold OfOk; have h0 : 0 ≤ h := (by omega); have := q1 h0; have := q3 h0; have := q4 h0; first | omega | (simp only [wrap64] at *; first | done | omega)) (by have h0 : 0 ≤ h := (by omega); have := q1 h0; have := q3 h0; have := q4 h0; first | omega | (simp only [wrap64] at *; first | done | omega)) (by have h0 : 0 ≤ h := (by omega); have := q1 h0; have := q3 h0; have := q4 h0; first | omega | (simp only [wrap64] at *; first | done | omega))
theorem ref27_Of (h : Int) (hw : (Lit.int .i64 h).wf = true) (w : World) : Calls Try.prog 45 #[.int .i64 h] w fun e w' => e = .returned (ofV h) ∧ w = w' := by
  have h2 := wf_i64 hw
  have q1 : 0 ≤ h → h.tdiv 512 = h / 512 := fun h0 => Int.tdiv_eq_ediv_of_nonneg h0
  have q2 : (h % 512).tdiv 2 = h % 512 / 2 := Int.tdiv_eq_ediv_of_nonneg (by omega)
  have q3 : 0 ≤ h → h.tmod 512 = h % 512 := fun h0 => Int.tmod_eq_emod_of_nonneg h0
  have q4 : 0 ≤ h → h.tmod 2 = h % 2 := fun h0 => Int.tmod_eq_emod_of_nonneg h0
  have H := hid (And.intro hw (And.intro h2 (And.intro q1 (And.intro q2 (And.intro q3 q4)))))
  clear hw h2 q1 q2 q3 q4
  go_enter Try.func45, Try.ntmps45
  go_wp2
  all_goals
    refine bodyPost_ret (results_tmp3 rfl _ _ _) rfl ⟨?_, rfl⟩
    obtain ⟨hw, h2, q1, q2, q3, q4⟩ := H.out
    try simp only [beq_iff_eq] at *
    try simp only [beq_eq_false_iff_ne] at *
    try simp only [bne_iff_ne] at *
    first
    | exact ofV_no' (by unfold OfOk; intro hk; obtain ⟨k1, k2, k3, k4⟩ := hk; have := q1 k1; have := q3 k1; have := q4 k1; first | omega | (simp only [wrap64] at *; first | done | omega))
    | exact ofV_yes' (by unfold OfOk; have h0 : 0 ≤ h := (by omega); have := q1 h0; have := q3 h0; have := q4 h0; first | omega | (simp only [wrap64] at *; first | done | omega)) (by have h0 : 0 ≤ h := (by omega); have := q1 h0; have := q3 h0; have := q4 h0; first | omega | (simp only [wrap64] at *; first | done | omega)) (by have h0 : 0 ≤ h := (by omega); have := q1 h0; have := q3 h0; have := q4 h0; first | omega | (simp only [wrap64] at *; first | done | omega))
theorem cells_Place (h : Int) (hw : (Lit.int .i64 h).wf = true) (w : World) : Calls Try.prog 31 #[.int .i64 h] w fun e w' => e = .returned (plV h) ∧ w = w' := by
  have h2 := wf_i64 hw
  have hc : h < 0 ∨ 0 ≤ h ∧ h < 1024 ∨ 1024 ≤ h := by omega
  rcases hc with hc | hc | hc
  · clear h2
    go_enter Try.func31, Try.ntmps31
    go_wp2
    refine bodyPost_ret (results_tmp2 rfl _ _ _) rfl ⟨?_, rfl⟩; exact plV_no' (by unfold PlOk; omega)
  · obtain ⟨hc, hd⟩ := hc
    have q5 : wrap64 (h - 1024) = h - 1024 := by unfold wrap64; omega
    have q6 : h - 1024 < 0 := by omega
    clear h2
    go_enter Try.func31, Try.ntmps31
    go_wp2
    all_goals (refine bodyPost_ret (results_tmp2 rfl _ _ _) rfl ⟨?_, rfl⟩; exact plV_no' (by unfold PlOk; omega))
  · have q1 : (h - 1024).tdiv 4 = (h - 1024) / 4 := Int.tdiv_eq_ediv_of_nonneg (by omega)
    have q3 : (h - 1024).tmod 4 = (h - 1024) % 4 := Int.tmod_eq_emod_of_nonneg (by omega)
    have q4 : h.tmod 4 = h % 4 := Int.tmod_eq_emod_of_nonneg (by omega)
    have q5 : wrap64 (h - 1024) = h - 1024 := by unfold wrap64; omega
    have q6 : wrap64 ((h - 1024) / 4) = (h - 1024) / 4 := by unfold wrap64; omega
    have q7 : ¬ h - 1024 < 0 := by omega
    clear h2
    go_enter Try.func31, Try.ntmps31
    go_wp2
    all_goals
      refine bodyPost_ret (results_tmp2 rfl _ _ _) rfl ⟨?_, rfl⟩
      try simp only [q5, q1, q6, q3, q4] at *
      try simp only [bne_iff_ne] at *
      first
      | exact plV_no' (by unfold PlOk; omega)
      | exact plV_yes' (by unfold PlOk; omega) (by omega)
theorem ref27_Place (h : Int) (hw : (Lit.int .i64 h).wf = true) (w : World) : Calls Try.prog 51 #[.int .i64 h] w fun e w' => e = .returned (plV h) ∧ w = w' := by
  have h2 := wf_i64 hw
  have hc : h < 0 ∨ 0 ≤ h ∧ h < 1024 ∨ 1024 ≤ h := by omega
  rcases hc with hc | hc | hc
  · clear h2
    go_enter Try.func51, Try.ntmps51
    go_wp2
    refine bodyPost_ret (results_tmp2 rfl _ _ _) rfl ⟨?_, rfl⟩; exact plV_no' (by unfold PlOk; omega)
  · obtain ⟨hc, hd⟩ := hc
    have q5 : wrap64 (h - 1024) = h - 1024 := by unfold wrap64; omega
    have q6 : h - 1024 < 0 := by omega
    clear h2
    go_enter Try.func51, Try.ntmps51
    go_wp2
    all_goals (refine bodyPost_ret (results_tmp2 rfl _ _ _) rfl ⟨?_, rfl⟩; exact plV_no' (by unfold PlOk; omega))
  · have q1 : (h - 1024).tdiv 4 = (h - 1024) / 4 := Int.tdiv_eq_ediv_of_nonneg (by omega)
    have q3 : (h - 1024).tmod 4 = (h - 1024) % 4 := Int.tmod_eq_emod_of_nonneg (by omega)
    have q4 : h.tmod 4 = h % 4 := Int.tmod_eq_emod_of_nonneg (by omega)
    have q5 : wrap64 (h - 1024) = h - 1024 := by unfold wrap64; omega
    have q6 : wrap64 ((h - 1024) / 4) = (h - 1024) / 4 := by unfold wrap64; omega
    have q7 : ¬ h - 1024 < 0 := by omega
    clear h2
    go_enter Try.func51, Try.ntmps51
    go_wp2
    all_goals
      refine bodyPost_ret (results_tmp2 rfl _ _ _) rfl ⟨?_, rfl⟩
      try simp only [q5, q1, q6, q3, q4] at *
      try simp only [bne_iff_ne] at *
      first
      | exact plV_no' (by unfold PlOk; omega)
      | exact plV_yes' (by unfold PlOk; omega) (by omega)
theorem cells_ToInt (h : Int) (w : World) : Calls Try.prog 30 #[.int .i64 h] w fun e w' => (∃ n : Int, e = .returned (.tuple #[.int .i64 n, .bool (decide (IntOk h))])) ∧ w = w' := by
  have hc : h < 0 ∨ 0 ≤ h ∧ 4294967296 ≤ h ∨ 0 ≤ h ∧ h < 4294967296 := by omega
  rcases hc with hc | ⟨h0, hc⟩ | ⟨h0, hc⟩
  · have hk : decide (IntOk h) = false := decide_eq_false (by unfold IntOk; omega)
    rw [hk]
    clear hk
    go_enter Try.func30, Try.ntmps30
    go_wp2
    refine bodyPost_ret (results_tmp2 rfl _ _ _) rfl ⟨⟨0, rfl⟩, rfl⟩
  · have hk : decide (IntOk h) = false := decide_eq_false (by unfold IntOk; omega)
    rw [hk]
    clear hk
    go_enter Try.func30, Try.ntmps30
    go_wp2
    refine bodyPost_ret (results_tmp2 rfl _ _ _) rfl ⟨⟨0, rfl⟩, rfl⟩
  · have q4 : h.tmod 2 = h % 2 := Int.tmod_eq_emod_of_nonneg (by omega)
    have hd : h % 2 = 0 ∨ h % 2 = 1 := by omega
    rcases hd with hd | hd
    · have hk : decide (IntOk h) = false := decide_eq_false (by unfold IntOk; omega)
      rw [hk]
      clear hk
      go_enter Try.func30, Try.ntmps30
      go_wp2
      refine bodyPost_ret (results_tmp2 rfl _ _ _) rfl ⟨⟨0, rfl⟩, rfl⟩
    · have hk : decide (IntOk h) = true := decide_eq_true (by unfold IntOk; omega)
      rw [hk]
      clear hk
      have q5 : (h % 2 == 0) = false := by rw [hd]; rfl
      go_enter Try.func30, Try.ntmps30
      go_wp2
      refine bodyPost_ret (results_tmp2 rfl _ _ _) rfl ⟨⟨_, rfl⟩, rfl⟩
theorem ref27_ToInt (h : Int) (w : World) : Calls Try.prog 50 #[.int .i64 h] w fun e w' => (∃ n : Int, e = .returned (.tuple #[.int .i64 n, .bool (decide (IntOk h))])) ∧ w = w' := by
  have hc : h < 0 ∨ 0 ≤ h ∧ 4294967296 ≤ h ∨ 0 ≤ h ∧ h < 4294967296 := by omega
  rcases hc with hc | ⟨h0, hc⟩ | ⟨h0, hc⟩
  · have hk : decide (IntOk h) = false := decide_eq_false (by unfold IntOk; omega)
    rw [hk]
    clear hk
    go_enter Try.func50, Try.ntmps50
    go_wp2
    refine bodyPost_ret (results_tmp2 rfl _ _ _) rfl ⟨⟨0, rfl⟩, rfl⟩
  · have hk : decide (IntOk h) = false := decide_eq_false (by unfold IntOk; omega)
    rw [hk]
    clear hk
    go_enter Try.func50, Try.ntmps50
    go_wp2
    refine bodyPost_ret (results_tmp2 rfl _ _ _) rfl ⟨⟨0, rfl⟩, rfl⟩
  · have q4 : h.tmod 2 = h % 2 := Int.tmod_eq_emod_of_nonneg (by omega)
    have hd : h % 2 = 0 ∨ h % 2 = 1 := by omega
    rcases hd with hd | hd
    · have hk : decide (IntOk h) = false := decide_eq_false (by unfold IntOk; omega)
      rw [hk]
      clear hk
      go_enter Try.func50, Try.ntmps50
      go_wp2
      refine bodyPost_ret (results_tmp2 rfl _ _ _) rfl ⟨⟨0, rfl⟩, rfl⟩
    · have hk : decide (IntOk h) = true := decide_eq_true (by unfold IntOk; omega)
      rw [hk]
      clear hk
      have q5 : (h % 2 == 0) = false := by rw [hd]; rfl
      go_enter Try.func50, Try.ntmps50
      go_wp2
      refine bodyPost_ret (results_tmp2 rfl _ _ _) rfl ⟨⟨_, rfl⟩, rfl⟩
theorem cells_Head (t s : Int) (w : World) : Calls Try.prog 37 #[.int .i64 t, .int .i64 s] w fun e w' => e = .returned (hdV t s) ∧ w = w' := by
  have hc : t < 0 ∨ 0 ≤ t ∧ 1048576 ≤ t ∨ 0 ≤ t ∧ t < 1048576 ∧ s < 0 ∨ 0 ≤ t ∧ t < 1048576 ∧ 0 ≤ s ∧ 64 < s ∨ 0 ≤ t ∧ t < 1048576 ∧ 0 ≤ s ∧ s ≤ 64 := by omega
  rcases hc with h1 | ⟨h1, h2⟩ | ⟨h1, h2, h3⟩ | ⟨h1, h2, h3, h4⟩ | ⟨h1, h2, h3, h4⟩
  all_goals
    go_enter Try.func37, Try.ntmps37
    go_wp2
    refine bodyPost_ret (results_tmp2 rfl _ _ _) rfl ⟨?_, rfl⟩
    first
    | exact hdV_no' (by omega)
    | exact hdV_yes' (by omega) (by first | omega | (simp only [wrap64]; omega))
theorem ref27_Head (t s : Int) (w : World) : Calls Try.prog 40 #[.int .i64 t, .int .i64 s] w fun e w' => e = .returned (hdV t s) ∧ w = w' := by
  have hc : t < 0 ∨ 0 ≤ t ∧ 1048576 ≤ t ∨ 0 ≤ t ∧ t < 1048576 ∧ s < 0 ∨ 0 ≤ t ∧ t < 1048576 ∧ 0 ≤ s ∧ 64 < s ∨ 0 ≤ t ∧ t < 1048576 ∧ 0 ≤ s ∧ s ≤ 64 := by omega
  rcases hc with h1 | ⟨h1, h2⟩ | ⟨h1, h2, h3⟩ | ⟨h1, h2, h3, h4⟩ | ⟨h1, h2, h3, h4⟩
  all_goals
    go_enter Try.func40, Try.ntmps40
    go_wp2
    refine bodyPost_ret (results_tmp2 rfl _ _ _) rfl ⟨?_, rfl⟩
    first
    | exact hdV_no' (by omega)
    | exact hdV_yes' (by omega) (by first | omega | (simp only [wrap64]; omega))
theorem cells_Pointer (p : Int) (w : World) : Calls Try.prog 39 #[.int .i64 p] w fun e w' => e = .returned (ptV p) ∧ w = w' := by
  have hc : p < 0 ∨ 0 ≤ p ∧ 262144 ≤ p ∨ 0 ≤ p ∧ p < 262144 := by omega
  rcases hc with h1 | ⟨h1, h2⟩ | ⟨h1, h2⟩
  all_goals
    go_enter Try.func39, Try.ntmps39
    go_wp2
    refine bodyPost_ret (results_tmp2 rfl _ _ _) rfl ⟨?_, rfl⟩
    first
    | exact ptV_no' (by omega)
    | exact ptV_yes' (by omega) (by first | omega | (simp only [wrap64]; omega))
theorem ref27_Pointer (p : Int) (w : World) : Calls Try.prog 41 #[.int .i64 p] w fun e w' => e = .returned (ptV p) ∧ w = w' := by
  have hc : p < 0 ∨ 0 ≤ p ∧ 262144 ≤ p ∨ 0 ≤ p ∧ p < 262144 := by omega
  rcases hc with h1 | ⟨h1, h2⟩ | ⟨h1, h2⟩
  all_goals
    go_enter Try.func41, Try.ntmps41
    go_wp2
    refine bodyPost_ret (results_tmp2 rfl _ _ _) rfl ⟨?_, rfl⟩
    first
    | exact ptV_no' (by omega)
    | exact ptV_yes' (by omega) (by first | omega | (simp only [wrap64]; omega))
end Go.Proofs.Ytikdflppccbdaaa
