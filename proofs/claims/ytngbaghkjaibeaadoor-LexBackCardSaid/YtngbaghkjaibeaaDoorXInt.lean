/-
  THE WALK OF athanorref11.Int.
-/
import Derived.Test.YtngbaghkjaibeaaDoorXRLex
import Derived.Test.YtngbaghkjaibeaaDoorXPlainD
import Derived.WalkSpells
import Derived.Deep.DeepMust
import Derived.Laws.IdiomStrings
import Derived.Deep.RegionHeld3
import Derived.Deep.RegionLaw
namespace Go.Proofs.YtngbaghkjaibeaaDoor
set_option linter.all false
open Go.ChangeShapes Go.WideShapes Go.ChangeAt Go.RowKit

theorem ret_strI {a b : ByteArray} (h : a = b) : Ending.returned (.string a) = .returned (.string b) := by rw [h]
theorem conv_byte (W : World) (n : Int) (g : Nat) (h : W.cell? ⟨g, 0, none⟩ = some (.int .u8 n)) (h0 : 0 ≤ n) (h1 : n < 256) :
    (convert 34 9 (.slice (some ⟨g, 0, none⟩) 1 1)).run Tryd.prog W = .ok (.string ⟨#[UInt8.ofNat n.toNat]⟩) W := by
  have e : ((UInt8.ofNat n.toNat).toNat : Int) = n := by rw [UInt8.toNat_ofNat']; omega
  have := run_convert_bytes_back (P := Tryd.prog) W 34 9 5 ⟨g, 0, none⟩ 1 [UInt8.ofNat n.toNat] Tryd.underlying34 Tryd.underlying5 Tryd.underlying9 (fun j hj => by
    obtain rfl : j = 0 := by simpa using hj
    show W.cell? ⟨g, 0, none⟩ = _
    rw [h]
    simp only [List.getElem_cons_zero]
    rw [e])
  exact this
theorem conv_new (W : World) (n : Int) (h0 : 0 ≤ n) (h1 : n < 256) : (convert 34 9 (.slice (some ⟨W.heap.size, 0, none⟩) 1 1)).run Tryd.prog (W.alloc (.cells #[.int .u8 n] 5)) = .ok (.string ⟨#[UInt8.ofNat n.toNat]⟩) (W.alloc (.cells #[.int .u8 n] 5)) :=
  conv_byte _ n _ ((Blk.new W 5 #[.int .u8 n]).cell 0) h0 h1
theorem dig_blk {w w1 : World} {t : TypeId} {cs : Array Value} (hb : Below (w.alloc (.cells cs t)).heap.size (w.alloc (.cells cs t)) w1) : Blk w1 w.heap.size t cs := (Blk.new w t cs).below hb (by simp)
theorem dig_blkd {w w1 : World} {t : TypeId} {cs : Array Value} (hb : Below (w.alloc (.cells cs t)).drew.heap.size (w.alloc (.cells cs t)).drew w1) : Blk w1 w.heap.size t cs := Blk.below (w := (w.alloc (.cells cs t)).drew) (Blk.new w t cs) hb (by simp)
theorem dig_bb {w w1 : World} {o : Obj} (hb : Below (w.alloc o).drew.heap.size (w.alloc o).drew w1) : Below w.heap.size w w1 := below_hop hb ((Below.refl w.heap.size w).alloc (Nat.le_refl _) o).drew
theorem dig_bb2 {w w1 : World} {o : Obj} (hb : Below (w.alloc o).heap.size (w.alloc o) w1) : Below w.heap.size w w1 := below_hop hb ((Below.refl w.heap.size w).alloc (Nat.le_refl _) o)
theorem dig_bb3 {w w1 : World} (hb : Below w.drew.heap.size w.drew w1) : Below w.heap.size w w1 := below_hop hb (Below.refl w.heap.size w).drew
/-- The digits of a number as a text. -/
def decB (m : Nat) : ByteArray := ⟨(Lib.decDigits m).toArray⟩
theorem decB_size (m : Nat) (h : m ≤ 1073741824) : (decB m).size ≤ 10 := by
  have := Lx.dec_len 9 m (by omega)
  show (Lib.decDigits m).toArray.size ≤ 10
  simpa using this
theorem decB_one {m : Nat} (h : m < 10) {a : ByteArray} (ha : a = ⟨#[UInt8.ofNat (48 + (m : Int)).toNat]⟩) : a = decB m := by
  rw [ha]
  unfold decB
  rw [Lx.dec_small h]
  congr 1
theorem decB_one2 {m : Nat} (h : m < 10) : (⟨#[48 + UInt8.ofNat m]⟩ : ByteArray) = decB m := by
  refine decB_one h ?_
  have : ∀ d : Fin 10, (⟨#[48 + UInt8.ofNat d.1]⟩ : ByteArray) = ⟨#[UInt8.ofNat (48 + (d.1 : Int)).toNat]⟩ := by decide
  exact this ⟨m, h⟩
theorem decB_app {m b : Nat} (h : ¬ m < 10) (hb : b = m % 10) {s : ByteArray} (hs : s = ⟨#[UInt8.ofNat (48 + (b : Int)).toNat]⟩) : decB (m / 10) ++ s = decB m := by
  subst hb hs
  unfold decB
  rw [Lx.dec_big h]
  apply ByteArray.ext
  rw [ByteArray.data_append]
  apply Array.ext'
  simp only [Array.toList_append, List.toList_toArray]
  congr 1
set_option maxHeartbeats 2000000 in
set_option maxRecDepth 100000 in
theorem rf_Int1 (i : Int) (m : Nat) (hm : m < 10) (hi : i = m) (w : World) : Calls Tryd.prog 22 #[.int .i64 i] w fun e w' => e = .returned (.string (decB m)) ∧ Below w.heap.size w w' := by
  subst hi
  have h2 : (m : Int) < 10 := by omega
  have h3 : ¬ (m : Int) < 0 := by omega
  have hcv := fun W => conv_new W (48 + (m : Int)) (by omega) (by omega)
  go_enter Tryd.func22, Tryd.ntmps22
  go_wp2
  go_ret
  exact ⟨ret_strI (decB_one2 hm), by go_grown⟩
set_option maxHeartbeats 4000000 in
set_option maxRecDepth 100000 in
theorem rf_Int0 : ∀ (k : Nat) (i : Int) (m : Nat), m ≤ k → m ≤ 1073741824 → i = m → ∀ w : World, Calls Tryd.prog 22 #[.int .i64 i] w fun e w' => e = .returned (.string (decB m)) ∧ Below w.heap.size w w'
  | 0, i, m, hk, _, hi, w => rf_Int1 i m (by omega) hi w
  | k + 1, i, m, hk, hm, hi, w => by
    by_cases h : m < 10
    · exact rf_Int1 i m h hi w
    subst hi
    have h3 : ¬ (m : Int) < 10 := by omega
    have h4 : ¬ (m : Int) < 0 := by omega
    have hsz := decB_size (m / 10) (by omega)
    obtain ⟨a, ha⟩ : ∃ a, a = m / 10 := ⟨_, rfl⟩
    obtain ⟨b, hb⟩ : ∃ b, b = m % 10 := ⟨_, rfl⟩
    have C := hid (fun w => rf_Int0 k (a : Int) a (by omega) (by omega) rfl w)
    have hq0 : (m : Int).tdiv 10 = (a : Int) := by rw [Int.tdiv_eq_ediv_of_nonneg (by omega)]; omega
    have hq1 : IntKind.i64.wrap (a : Int) = (a : Int) := IntWalk.i64_in _ (by omega)
    have hr0 : (m : Int).tmod 10 = (b : Int) := by rw [Int.tmod_eq_emod_of_nonneg (by omega)]; omega
    have hr1 : IntKind.i64.wrap (48 + (b : Int)) = 48 + (b : Int) := IntWalk.i64_in _ (by omega)
    have hr2 : IntKind.u8.wrap (48 + (b : Int)) = 48 + (b : Int) := IntWalk.u8_in _ (by omega)
    have hcv := fun W g h => conv_byte W (48 + (b : Int)) g h (by omega) (by omega)
    have HA := hid (And.intro ha hb)
    rw [← ha] at hsz
    have hsz2 : ¬ 9223372036854775807 < (decB a).size + 1 := by omega
    clear ha hb hk hm hsz
    go_enter Tryd.func22, Tryd.ntmps22
    go_wp2
    go_region_law (first
      | (go_simp; go_at_call 22; (refine (C.out _).mono ?_); rintro e w1 ⟨rfl, b1⟩; (first | (have XX := dig_blkd b1; have z0 := XX.cell 0; have zf := XX.frozen 0; have bb := dig_bb b1) | (have XX := dig_blk b1; have z0 := XX.cell 0; have zf := XX.frozen 0; have bb := dig_bb2 b1) | (have bb := dig_bb3 b1) | (have bb := b1))))
    all_goals
      go_wp2
      go_ret
      refine ⟨ret_strI ?_, ?_⟩
    all_goals first | (rw [HA.out.1]; exact decB_app h HA.out.2 rfl) | exact bb | exact bb.alloc bb.size _
theorem rf_Int_pos (m : Nat) (hm : m ≤ 1073741824) (w : World) : Calls Tryd.prog 22 #[.int .i64 m] w fun e w' => e = .returned (.string (decB m)) ∧ Below w.heap.size w w' := rf_Int0 m _ m (Nat.le_refl _) hm rfl w
/-- An integer as it is written. -/
def intB (n : Int) : ByteArray := ⟨(if n < 0 then 126 :: Lib.decDigits n.natAbs else Lib.decDigits n.natAbs).toArray⟩
set_option maxHeartbeats 2000000 in
set_option maxRecDepth 100000 in
theorem rf_Int (n : Int) (hn : Lx.inR n) (w : World) : Calls Tryd.prog 22 #[.int .i64 n] w fun e w' => e = .returned (.string (intB n)) ∧ Below w.heap.size w w' := by
  unfold Lx.inR at hn
  by_cases h : n < 0
  · have hsz := decB_size n.natAbs (by omega)
    obtain ⟨m, hm⟩ : ∃ m : Nat, m = n.natAbs := ⟨_, rfl⟩
    rw [← hm] at hsz
    have hsz2 : ¬ 9223372036854775807 < (⟨#[126]⟩ : ByteArray).size + (decB m).size := by show ¬ 9223372036854775807 < 1 + (decB m).size; omega
    have e1 : -n = (m : Int) := by omega
    have hr1 : IntKind.i64.wrap (m : Int) = (m : Int) := IntWalk.i64_in _ (by omega)
    have C := hid (fun w => rf_Int_pos m (by omega) w)
    have HM := hid hm
    have H := hid h
    clear hn hm hsz
    go_enter Tryd.func22, Tryd.ntmps22
    go_wp2_with (go_at_call 22; (with_reducible refine (C.out _).mono ?_); rintro e w1 ⟨rfl, b1⟩)
    go_ret
    refine ⟨ret_strI ?_, b1⟩
    unfold intB decB
    rw [if_pos H.out, HM.out]
    apply ByteArray.ext
    rw [ByteArray.data_append]
    apply Array.ext'
    simp
  · have e : n = (n.natAbs : Int) := by omega
    have hI : intB n = decB n.natAbs := by unfold intB decB; rw [if_neg h]
    rw [hI]
    rw [e]
    exact rf_Int_pos n.natAbs (by omega) w
end Go.Proofs.YtngbaghkjaibeaaDoor
