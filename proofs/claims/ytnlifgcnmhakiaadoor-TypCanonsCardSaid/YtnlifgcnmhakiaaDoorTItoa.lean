/-
  THE WALKS OF strconv.Itoa BELOW A HUNDRED, OF athanorref15.digits AND name.
-/
import Derived.Test.YtnlifgcnmhakiaaDoorTCanP
import Derived.WalkSpells
import Derived.Deep.DeepMust
import Derived.Laws.IdiomStrings
import Derived.Deep.RegionHeld3
import Derived.Deep.RegionLaw
namespace Go.Proofs.YtnlifgcnmhakiaaDoor
open Go.ChangeShapes Go.WideShapes Go.ChangeAt Go.RowKit

theorem ret_str {a b : ByteArray} (h : a = b) : Ending.returned (.string a) = .returned (.string b) := by rw [h]
theorem of_range {p : Nat → Bool} {n : Nat} (h : (List.range n).all p = true) {m : Nat} (hm : m < n) : p m = true := List.all_eq_true.1 h m (by simpa using hm)
set_option maxHeartbeats 2000000 in
set_option maxRecDepth 100000 in
theorem str_small (m : Nat) (hm : m < 100) (w : World) : Calls Tryd.prog 64 #[.int .i64 m] w fun e w' => e = .returned (.string (smallB m)) ∧ w = w' := by
  by_cases h : m < 10
  · have h' : (m : Int) < 10 := by omega
    go_enter Tryd.func64, Tryd.ntmps64
    go_wp2
    go_ret
    refine ⟨ret_str ?_, rfl⟩
    refine of_decide_eq_true (of_range (n := 10) (p := fun m => decide ((ByteArray.extract _ m (m + 1)) = smallB m)) ?_ h)
    kernel_rfl
  · have h' : ¬ (m : Int) < 10 := by omega
    have h2 : (m : Int) < 100 := by omega
    go_enter Tryd.func64, Tryd.ntmps64
    go_wp2
    go_ret
    refine ⟨ret_str ?_, rfl⟩
    refine (Bool.or_eq_true_iff.1 (of_range (n := 100) (p := fun m => decide (m < 10) || decide ((ByteArray.extract _ (m * 2) (m * 2 + 2)) = smallB m)) ?_ hm)).elim (fun e => absurd (of_decide_eq_true e) h) of_decide_eq_true
    kernel_rfl
set_option maxHeartbeats 2000000 in
set_option maxRecDepth 100000 in
theorem str_FormatInt (m : Nat) (hm : m < 100) (w : World) : Calls Tryd.prog 58 #[.int .i64 m, .int .i64 10] w fun e w' => e = .returned (.string (smallB m)) ∧ w = w' := by
  have h2 : (m : Int) < 100 := by omega
  go_enter Tryd.func58, Tryd.ntmps58
  go_wp2_with (go_at_call 64; go_must (refine (str_small m hm _).mono ?_); rintro e w1 ⟨rfl, rfl⟩)
  go_ret
  exact ⟨rfl, rfl⟩
set_option maxHeartbeats 2000000 in
set_option maxRecDepth 100000 in
theorem str_Itoa1 (m : Nat) (hm : m < 100) (w : World) : Calls Tryd.prog 51 #[.int .i64 m] w fun e w' => e = .returned (.string (smallB m)) ∧ w = w' := by
  have h2 : (m : Int) < 100 := by omega
  go_enter Tryd.func51, Tryd.ntmps51
  go_wp2_with (go_at_call 58; go_must (refine (str_FormatInt m hm _).mono ?_); rintro e w1 ⟨rfl, rfl⟩)
  go_ret
  exact ⟨rfl, rfl⟩
set_option maxHeartbeats 2000000 in
set_option maxRecDepth 100000 in
theorem str_Itoa (m : Nat) (hm : m < 100) (w : World) : Calls Tryd.prog 38 #[.int .i64 m] w fun e w' => e = .returned (.string (smallB m)) ∧ w = w' := by
  have h2 : (m : Int) < 100 := by omega
  go_enter Tryd.func38, Tryd.ntmps38
  go_wp2_with (go_at_call 51; go_must (refine (str_Itoa1 m hm _).mono ?_); rintro e w1 ⟨rfl, rfl⟩)
  go_ret
  exact ⟨rfl, rfl⟩
theorem smallB_size (m : Nat) : (smallB m).size ≤ 2 := by unfold smallB; split <;> simp [ByteArray.size]
theorem conv_byte (W : World) (n : Int) (g : Nat) (h : W.cell? ⟨g, 0, none⟩ = some (.int .u8 n)) (h0 : 0 ≤ n) (h1 : n < 256) :
    (convert 94 9 (.slice (some ⟨g, 0, none⟩) 1 1)).run Tryd.prog W = .ok (.string ⟨#[UInt8.ofNat n.toNat]⟩) W := by
  have e : ((UInt8.ofNat n.toNat).toNat : Int) = n := by rw [UInt8.toNat_ofNat']; omega
  have := run_convert_bytes_back (P := Tryd.prog) W 94 9 5 ⟨g, 0, none⟩ 1 [UInt8.ofNat n.toNat] Tryd.underlying94 Tryd.underlying5 Tryd.underlying9 (fun j hj => by
    obtain rfl : j = 0 := by simpa using hj
    show W.cell? ⟨g, 0, none⟩ = _
    rw [h]
    simp only [List.getElem_cons_zero]
    rw [e])
  exact this
theorem conv_new (W : World) (n : Int) (h0 : 0 ≤ n) (h1 : n < 256) : (convert 94 9 (.slice (some ⟨W.heap.size, 0, none⟩) 1 1)).run Tryd.prog (W.alloc (.cells #[.int .u8 n] 5)) = .ok (.string ⟨#[UInt8.ofNat n.toNat]⟩) (W.alloc (.cells #[.int .u8 n] 5)) :=
  conv_byte _ n _ ((Blk.new W 5 #[.int .u8 n]).cell 0) h0 h1
theorem dig_blk {w w1 : World} {t : TypeId} {cs : Array Value} (hb : Below (w.alloc (.cells cs t)).heap.size (w.alloc (.cells cs t)) w1) : Blk w1 w.heap.size t cs := (Blk.new w t cs).below hb (by simp)
theorem dig_blkd {w w1 : World} {t : TypeId} {cs : Array Value} (hb : Below (w.alloc (.cells cs t)).drew.heap.size (w.alloc (.cells cs t)).drew w1) : Blk w1 w.heap.size t cs := Blk.below (w := (w.alloc (.cells cs t)).drew) (Blk.new w t cs) hb (by simp)
theorem dig_bb {w w1 : World} {o : Obj} (hb : Below (w.alloc o).drew.heap.size (w.alloc o).drew w1) : Below w.heap.size w w1 := below_hop hb ((Below.refl w.heap.size w).alloc (Nat.le_refl _) o).drew
theorem dig_bb2 {w w1 : World} {o : Obj} (hb : Below (w.alloc o).heap.size (w.alloc o) w1) : Below w.heap.size w w1 := below_hop hb ((Below.refl w.heap.size w).alloc (Nat.le_refl _) o)
theorem dig_bb3 {w w1 : World} (hb : Below w.drew.heap.size w.drew w1) : Below w.heap.size w w1 := below_hop hb (Below.refl w.heap.size w).drew
theorem dig_name {m : Nat} (h : m < 10) : (⟨#[UInt8.ofNat (48 + (m : Int)).toNat]⟩ : ByteArray) = smallB m := by
  refine of_decide_eq_true (of_range (n := 10) (p := fun m => decide ((⟨#[UInt8.ofNat (48 + (m : Int)).toNat]⟩ : ByteArray) = smallB m)) ?_ h)
  kernel_rfl
theorem dig_name2 {m : Nat} (h : m < 100) (h2 : ¬ m < 10) : smallB (m / 10) ++ (⟨#[UInt8.ofNat (48 + (m : Int) % 10).toNat]⟩ : ByteArray) = smallB m := by
  refine (Bool.or_eq_true_iff.1 (of_range (n := 100) (p := fun m => decide (m < 10) || decide (smallB (m / 10) ++ (⟨#[UInt8.ofNat (48 + (m : Int) % 10).toNat]⟩ : ByteArray) = smallB m)) ?_ h)).elim (fun e => absurd (of_decide_eq_true e) h2) of_decide_eq_true
  kernel_rfl
theorem dig_name2c {m : Nat} (h : m < 100) (h2 : ¬ m < 10) : smallB (m / 10) ++ (⟨#[UInt8.ofNat (48 + ((m % 10 : Nat) : Int)).toNat]⟩ : ByteArray) = smallB m := by
  refine (Bool.or_eq_true_iff.1 (of_range (n := 100) (p := fun m => decide (m < 10) || decide (smallB (m / 10) ++ (⟨#[UInt8.ofNat (48 + ((m % 10 : Nat) : Int)).toNat]⟩ : ByteArray) = smallB m)) ?_ h)).elim (fun e => absurd (of_decide_eq_true e) h2) of_decide_eq_true
  kernel_rfl
theorem dig_name2b {m : Nat} (h : m < 100) (h2 : ¬ m < 10) : smallB (m / 10) ++ (⟨#[48 + UInt8.ofNat (m % 10)]⟩ : ByteArray) = smallB m := by
  refine (Bool.or_eq_true_iff.1 (of_range (n := 100) (p := fun m => decide (m < 10) || decide (smallB (m / 10) ++ (⟨#[48 + UInt8.ofNat (m % 10)]⟩ : ByteArray) = smallB m)) ?_ h)).elim (fun e => absurd (of_decide_eq_true e) h2) of_decide_eq_true
  kernel_rfl
theorem let_name {m : Nat} (h : m < 26) : (⟨#[UInt8.ofNat (97 + (m : Int) % 26).toNat]⟩ : ByteArray) = nameB m := by
  refine of_decide_eq_true (of_range (n := 26) (p := fun m => decide ((⟨#[UInt8.ofNat (97 + (m : Int) % 26).toNat]⟩ : ByteArray) = nameB m)) ?_ h)
  kernel_rfl
theorem let_name2 {m : Nat} (h : m < 1100) (h2 : ¬ m < 26) : (⟨#[UInt8.ofNat (97 + (m : Int) % 26).toNat]⟩ : ByteArray) ++ smallB (m / 26) = nameB m := by
  refine (Bool.or_eq_true_iff.1 (of_range (n := 1100) (p := fun m => decide (m < 26) || decide ((⟨#[UInt8.ofNat (97 + (m : Int) % 26).toNat]⟩ : ByteArray) ++ smallB (m / 26) = nameB m)) ?_ h)).elim (fun e => absurd (of_decide_eq_true e) h2) of_decide_eq_true
  kernel_rfl
theorem let_name2b {m : Nat} (h : m < 1100) (h2 : ¬ m < 26) : (⟨#[97 + UInt8.ofNat (m % 26)]⟩ : ByteArray) ++ smallB (m / 26) = nameB m := by
  refine (Bool.or_eq_true_iff.1 (of_range (n := 1100) (p := fun m => decide (m < 26) || decide ((⟨#[97 + UInt8.ofNat (m % 26)]⟩ : ByteArray) ++ smallB (m / 26) = nameB m)) ?_ h)).elim (fun e => absurd (of_decide_eq_true e) h2) of_decide_eq_true
  kernel_rfl
set_option maxHeartbeats 2000000 in
set_option maxRecDepth 100000 in
theorem ref_digits1 (i : Int) (m : Nat) (hm : m < 10) (hi : i = m) (w : World) : Calls Tryd.prog 59 #[.int .i64 i] w fun e w' => e = .returned (.string (smallB m)) ∧ Below w.heap.size w w' := by
  subst hi
  have h2 : (m : Int) < 10 := by omega
  have hcv := fun W => conv_new W (48 + (m : Int)) (by omega) (by omega)
  go_enter Tryd.func59, Tryd.ntmps59
  go_wp2
  go_ret
  exact ⟨ret_str (dig_name hm), by go_grown⟩
set_option maxHeartbeats 2000000 in
set_option maxRecDepth 100000 in
theorem ref_digits (i : Int) (m : Nat) (hm : m < 100) (hi : i = m) (w : World) : Calls Tryd.prog 59 #[.int .i64 i] w fun e w' => e = .returned (.string (smallB m)) ∧ Below w.heap.size w w' := by
  by_cases h : m < 10
  · exact ref_digits1 i m h hi w
  subst hi
  have h2 : (m : Int) < 100 := by omega
  have h3 : ¬ (m : Int) < 10 := by omega
  have hsz := smallB_size (m / 10)
  obtain ⟨a, ha⟩ : ∃ a, a = m / 10 := ⟨_, rfl⟩
  obtain ⟨b, hb⟩ : ∃ b, b = m % 10 := ⟨_, rfl⟩
  have C := hid (fun w => ref_digits1 (a : Int) a (by omega) rfl w)
  have hq0 : (m : Int).tdiv 10 = (a : Int) := by rw [Int.tdiv_eq_ediv_of_nonneg (by omega)]; omega
  have hq1 : IntKind.i64.wrap (a : Int) = (a : Int) := IntWalk.i64_in _ (by omega)
  have hr0 : (m : Int).tmod 10 = (b : Int) := by rw [Int.tmod_eq_emod_of_nonneg (by omega)]; omega
  have hr1 : IntKind.i64.wrap (48 + (b : Int)) = 48 + (b : Int) := IntWalk.i64_in _ (by omega)
  have hr2 : IntKind.u8.wrap (48 + (b : Int)) = 48 + (b : Int) := IntWalk.u8_in _ (by omega)
  have hcv := fun W g h => conv_byte W (48 + (b : Int)) g h (by omega) (by omega)
  have HA := hid (And.intro ha hb)
  rw [← ha] at hsz
  have hsz2 : ¬ 9223372036854775807 < (smallB a).size + 1 := by omega
  clear ha hb
  go_enter Tryd.func59, Tryd.ntmps59
  go_wp2
  go_region_law (first
    | (go_simp; go_at_call 59; (refine (C.out _).mono ?_); rintro e w1 ⟨rfl, b1⟩; (first | (have XX := dig_blkd b1; have z0 := XX.cell 0; have zf := XX.frozen 0; have bb := dig_bb b1) | (have XX := dig_blk b1; have z0 := XX.cell 0; have zf := XX.frozen 0; have bb := dig_bb2 b1) | (have bb := dig_bb3 b1) | (have bb := b1))))
  all_goals
    go_wp2
    go_ret
    refine ⟨ret_str ?_, ?_⟩
  all_goals first | (rw [HA.out.1, HA.out.2]; exact dig_name2c hm h) | exact bb | exact bb.alloc bb.size _
set_option maxHeartbeats 2000000 in
set_option maxRecDepth 100000 in
theorem ref_name (m : Nat) (hm : m < 1100) (w : World) : Calls Tryd.prog 52 #[.int .i64 m] w fun e w' => e = .returned (.string (nameB m)) ∧ Below w.heap.size w w' := by
  have h2 : (m : Int) < 1100 := by omega
  have hcv := fun W => conv_new W (97 + (m : Int) % 26) (by omega) (by omega)
  by_cases h : m < 26
  · have h3 : (m : Int) < 26 := by omega
    go_enter Tryd.func52, Tryd.ntmps52
    go_wp2
    go_ret
    exact ⟨ret_str (let_name h), by go_grown⟩
  · have h3 : ¬ (m : Int) < 26 := by omega
    have hsz := smallB_size (m / 26)
    go_enter Tryd.func52, Tryd.ntmps52
    go_wp2_with (go_at_call 59; go_must (refine (ref_digits _ (m / 26) (by omega) (by omega) _).mono ?_); rintro e w1 ⟨rfl, b1⟩)
    go_ret
    exact ⟨ret_str (by first | exact let_name2b hm h | exact let_name2 hm h), below_then b1 (by go_grown : Below w.heap.size w _) (by simp)⟩
end Go.Proofs.YtnlifgcnmhakiaaDoor
