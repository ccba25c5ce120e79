/-
  THE WALK OF lex.token: signs.
-/
import Derived.Test.YtngbaghkjaibeaaDoorXTok
import Derived.Deep.LoopGhost
namespace Go.Proofs.YtngbaghkjaibeaaDoor
set_option linter.all false
open Go.ChangeShapes Go.WideShapes Go.ChangeAt Go.RowKit

def signB (k : Nat) : ByteArray := ⟨(Lx.signsL.getD k []).toArray⟩
theorem lx_signs (w : World) : Calls Tryd.prog 31 #[] w fun e w' => e = .returned (.slice (some ⟨w.heap.size, 0, none⟩) 14 14) ∧ w.alloc (.cells ((List.range 14).map (fun k => Value.string (signB k))).toArray 9) = w' := by
  go_enter Tryd.func31, Tryd.ntmps31
  go_wp2_with fail
  go_ret
  exact ⟨rfl, rfl⟩
theorem find_at {l : List UInt8} : ∀ {xs : List (List UInt8)} {k : Nat} (hk : k < xs.length), (∀ j, (h : j < xs.length) → j < k → xs[j].isPrefixOf l = false) → xs[k].isPrefixOf l = true → xs.find? (fun x => x.isPrefixOf l) = some xs[k]
  | [], k, hk, _, _ => by simp at hk
  | x :: xs, 0, _, _, h => by rw [List.find?_cons_of_pos]; rfl; exact h
  | x :: xs, k + 1, hk, h1, h => by
    have h0 : x.isPrefixOf l = false := h1 0 (by simp) (by omega)
    rw [List.find?_cons_of_neg (by simp [h0])]
    exact find_at (xs := xs) (by simpa using hk) (fun j hj hji => h1 (j + 1) (Nat.succ_lt_succ hj) (by omega)) h
theorem sign_len : Lx.signsL.length = 14 := rfl
theorem sign_get {k : Nat} (hk : k < 14) : (signB k).data.toList = Lx.signsL[k]'hk := by
  unfold signB
  rw [List.getD_eq_getElem?_getD, List.getElem?_eq_getElem (by exact hk)]
  simp
theorem sign_found {l : List UInt8} {k : Nat} (hk : k < 14) (h1 : ∀ j, j < k → Lib.hasPrefix l (signB j).data.toList = false) (h : Lib.hasPrefix l (signB k).data.toList = true) : Lx.signF l = .ok 6 (signB k).data.toList 0 (signB k).size := by
  unfold Lx.signF
  rw [sign_get hk] at h
  have hf := find_at (xs := Lx.signsL) (k := k) hk (fun j hj hji => by have := h1 j hji; rw [sign_get (by omega)] at this; exact this) h
  have hs : (signB k).size = (Lx.signsL[k]'hk).length := by rw [← sign_get hk, Array.length_toList]; rfl
  rw [hf, sign_get hk, hs]
theorem sign_none {l : List UInt8} (h1 : ∀ j, j < 14 → Lib.hasPrefix l (signB j).data.toList = false) : Lx.signF l = .bad 110 := by
  unfold Lx.signF
  rw [List.find?_eq_none.2]
  intro x hx
  obtain ⟨j, hj, rfl⟩ := List.getElem_of_mem hx
  have := h1 j hj
  rw [sign_get hj] at this
  unfold Lib.hasPrefix at this
  simp [this]
theorem mk_data' (s : ByteArray) : (⟨s.data.toList.toArray⟩ : ByteArray) = s := by cases s; simp
theorem sign_okR {l : List UInt8} {k : Nat} {S : ByteArray} (hk : k < 14) (h1 : ∀ j, j < k → Lib.hasPrefix l (signB j).data.toList = false) (hS : S = signB k) (h : Lib.hasPrefix l S.data.toList = true) : TokR (Lx.signF l) (.tuple #[.agg #[.int .i64 6, .string S, .int .i64 0, .int .i64 0], .int .i64 S.size, .int .i64 0]) := by
  subst hS
  rw [sign_found hk h1 h]
  show _ = Value.tuple #[tokV 6 ⟨(signB k).data.toList.toArray⟩ 0 0, .int .i64 (signB k).size, .int .i64 0]
  rw [mk_data']
  rfl
set_option maxHeartbeats 8000000 in
set_option maxRecDepth 100000 in
theorem tok_sign (s : ByteArray) (w : World) (hm : s.size ≤ 281474976710656) (h0 : 0 < s.size) (k : Nat) (hk : Lx.runL Lx.isPart (s.extract 1 s.size).data.toList = k) (hks : k < s.size)
    (hb1 : Lx.smI (wrap32 ((s[0]'h0).toNat : Int)) = false) (hb2 : Lx.grI (wrap32 ((s[0]'h0).toNat : Int)) = false) (hq : (wrap32 ((s[0]'h0).toNat : Int) == 39) = false) (hq2 : (wrap32 ((s[0]'h0).toNat : Int) == 126) = false) (hb4 : Lx.dgI (wrap32 ((s[0]'h0).toNat : Int)) = false) :
    Calls Tryd.prog 16 #[.string s] w (TokP (Lx.signF s.data.toList) w) := by
  have HK := hid hk
  have HZ := hid (show (s.extract 1 s.size).size ≤ 281474976710656 by simp; omega)
  have B1 := hid hb1
  have B2 := hid hb2
  have B4 := hid hb4
  clear hk hb1 hb2 hb4
  skip
  go_enter Tryd.func16, Tryd.ntmps16
  go_wp2_with (first
    | (go_at_call 24; (with_reducible refine (lx_run_inside _ _ HZ.out).mono ?_); rw [HK.out]; rintro e w1 ⟨rfl, b⟩; have BR := hid ((Blk.new w 32 #[.int .i64 0, .string ⟨#[]⟩, .int .i64 0, .int .i64 0]).below b (by simp)); have b9 := below_hop b (alB w _); clear b)
    | (go_at_call 26; (with_reducible refine (lx_small _ _).mono ?_); rw [B1.out]; rintro e w' ⟨rfl, rfl⟩)
    | (go_at_call 28; (with_reducible refine (lx_great _ _).mono ?_); rw [B2.out]; rintro e w' ⟨rfl, rfl⟩)
    | (go_at_call 29; (with_reducible refine (lx_digit _ _).mono ?_); rw [B4.out]; rintro e w' ⟨rfl, rfl⟩)
    | (go_at_call 31; (with_reducible refine (lx_signs _).mono ?_); rintro e w2 ⟨rfl, hw2⟩; have b := (show Below w1.heap.size w1 w2 from hw2 ▸ alB w1 _); have SG := hid (show Blk w2 w1.heap.size 9 ((List.range 14).map (fun k => Value.string (signB k))).toArray from hw2 ▸ Blk.new _ _ _); clear hw2; have BR2 := hid (BR.out.up2 b); clear BR; have BR := BR2; clear BR2; have b8 := below_hop b b9; clear b b9; have b9 := b8; clear b8; obtain ⟨x0, x1, x2, x3, f0, f1, f2, f3⟩ := BR.out.cells4))
  obtain ⟨G, hG⟩ : ∃ G, G = w1.heap.size := ⟨_, rfl⟩
  rw [← hG] at SG
  rw [← hG]
  clear hG
  have hz := b9.size
  go_loopg [96] 14 (fun g i wr => ∃ k : Nat, k + g = 14 ∧ i = .int .i64 k ∧ wr = w2 ∧ Hid (∀ j, j < k → Lib.hasPrefix s.data.toList (signB j).data.toList = false))
  case atStart => exact ⟨0, rfl, rfl, rfl, hid (fun j h => by omega)⟩
  case round =>
    obtain ⟨k, hkg, rfl, rfl, hall⟩ := hrel
    have HG := hid hkg
    by_cases hlt : k < 14
    · clear hkg
      have hc : wr.cell? ⟨G, k, none⟩ = some (.string (signB k)) := by
        rw [SG.out.cell k]
        simp [hlt]
      obtain ⟨S, hS⟩ : ∃ S, S = signB k := ⟨_, rfl⟩
      have HS := hid hS
      rw [← hS] at hc
      clear hS
      obtain ⟨b, hb⟩ : ∃ b, Lib.hasPrefix s.data.toList S.data.toList = b := ⟨_, rfl⟩
      have HB := hid hb
      clear hb
      cases b
      · go_wp2_with (go_at_call 32; (with_reducible refine (Tryd.strings_HasPrefix _ _ _).mono ?_); rw [HB.out]; rintro e w' ⟨rfl, rfl⟩)
        have hgk := HG.out
        go_roundg (gk - 1)
        case rel => exact ⟨k + 1, by omega, by go_num, rfl, hid (fun j hj => (Nat.lt_or_eq_of_le (Nat.le_of_lt_succ hj)).elim (hall.out j) (fun h => by subst h; rw [← HS.out]; exact HB.out))⟩
        case measure => omega
      · go_wp2_with (go_at_call 32; (with_reducible refine (Tryd.strings_HasPrefix _ _ _).mono ?_); rw [HB.out]; rintro e w' ⟨rfl, rfl⟩)
        exact bodyPost_ret (v := .tuple #[.agg #[.int .i64 6, .string S, .int .i64 0, .int .i64 0], .int .i64 S.size, .int .i64 0]) (by simp [results, Tryd.results16, go_sem, x0, x1, x2, x3]) rfl ⟨_, rfl, sign_okR hlt hall.out HS.out HB.out, (by go_grown)⟩
    · obtain rfl : k = 14 := by omega
      go_wp2_with fail
      exact bodyPost_ret (v := .tuple #[.agg #[.int .i64 0, .string ⟨#[]⟩, .int .i64 0, .int .i64 0], .int .i64 0, .int .i64 110]) (by simp [results, Tryd.results16, go_sem, x0, x1, x2, x3]) rfl ⟨_, rfl, (by rw [sign_none hall.out]; exact ⟨0, rfl⟩), (by go_grown)⟩
set_option maxHeartbeats 8000000 in
set_option maxRecDepth 100000 in
theorem tok_sign0 (s : ByteArray) (w : World) (hm : s.size ≤ 281474976710656) (h0 : 0 < s.size) (k : Nat) (hk : Lx.runL Lx.isPart (s.extract 1 s.size).data.toList = k) (hks : k < s.size)
    (hb1 : Lx.smI (wrap32 ((s[0]'h0).toNat : Int)) = false) (hb2 : Lx.grI (wrap32 ((s[0]'h0).toNat : Int)) = false) (hq : (wrap32 ((s[0]'h0).toNat : Int) == 39) = true) (hk0 : k = 0) (hq2 : (wrap32 ((s[0]'h0).toNat : Int) == 126) = false) (hb4 : Lx.dgI (wrap32 ((s[0]'h0).toNat : Int)) = false) :
    Calls Tryd.prog 16 #[.string s] w (TokP (Lx.signF s.data.toList) w) := by
  have HK := hid hk
  have HZ := hid (show (s.extract 1 s.size).size ≤ 281474976710656 by simp; omega)
  have B1 := hid hb1
  have B2 := hid hb2
  have B4 := hid hb4
  clear hk hb1 hb2 hb4
  subst hk0
  go_enter Tryd.func16, Tryd.ntmps16
  go_wp2_with (first
    | (go_at_call 24; (with_reducible refine (lx_run_inside _ _ HZ.out).mono ?_); rw [HK.out]; rintro e w1 ⟨rfl, b⟩; have BR := hid ((Blk.new w 32 #[.int .i64 0, .string ⟨#[]⟩, .int .i64 0, .int .i64 0]).below b (by simp)); have b9 := below_hop b (alB w _); clear b)
    | (go_at_call 26; (with_reducible refine (lx_small _ _).mono ?_); rw [B1.out]; rintro e w' ⟨rfl, rfl⟩)
    | (go_at_call 28; (with_reducible refine (lx_great _ _).mono ?_); rw [B2.out]; rintro e w' ⟨rfl, rfl⟩)
    | (go_at_call 29; (with_reducible refine (lx_digit _ _).mono ?_); rw [B4.out]; rintro e w' ⟨rfl, rfl⟩)
    | (go_at_call 31; (with_reducible refine (lx_signs _).mono ?_); rintro e w2 ⟨rfl, hw2⟩; have b := (show Below w1.heap.size w1 w2 from hw2 ▸ alB w1 _); have SG := hid (show Blk w2 w1.heap.size 9 ((List.range 14).map (fun k => Value.string (signB k))).toArray from hw2 ▸ Blk.new _ _ _); clear hw2; have BR2 := hid (BR.out.up2 b); clear BR; have BR := BR2; clear BR2; have b8 := below_hop b b9; clear b b9; have b9 := b8; clear b8; obtain ⟨x0, x1, x2, x3, f0, f1, f2, f3⟩ := BR.out.cells4))
  obtain ⟨G, hG⟩ : ∃ G, G = w1.heap.size := ⟨_, rfl⟩
  rw [← hG] at SG
  rw [← hG]
  clear hG
  have hz := b9.size
  go_loopg [96] 14 (fun g i wr => ∃ k : Nat, k + g = 14 ∧ i = .int .i64 k ∧ wr = w2 ∧ Hid (∀ j, j < k → Lib.hasPrefix s.data.toList (signB j).data.toList = false))
  case atStart => exact ⟨0, rfl, rfl, rfl, hid (fun j h => by omega)⟩
  case round =>
    obtain ⟨k, hkg, rfl, rfl, hall⟩ := hrel
    have HG := hid hkg
    by_cases hlt : k < 14
    · clear hkg
      have hc : wr.cell? ⟨G, k, none⟩ = some (.string (signB k)) := by
        rw [SG.out.cell k]
        simp [hlt]
      obtain ⟨S, hS⟩ : ∃ S, S = signB k := ⟨_, rfl⟩
      have HS := hid hS
      rw [← hS] at hc
      clear hS
      obtain ⟨b, hb⟩ : ∃ b, Lib.hasPrefix s.data.toList S.data.toList = b := ⟨_, rfl⟩
      have HB := hid hb
      clear hb
      cases b
      · go_wp2_with (go_at_call 32; (with_reducible refine (Tryd.strings_HasPrefix _ _ _).mono ?_); rw [HB.out]; rintro e w' ⟨rfl, rfl⟩)
        have hgk := HG.out
        go_roundg (gk - 1)
        case rel => exact ⟨k + 1, by omega, by go_num, rfl, hid (fun j hj => (Nat.lt_or_eq_of_le (Nat.le_of_lt_succ hj)).elim (hall.out j) (fun h => by subst h; rw [← HS.out]; exact HB.out))⟩
        case measure => omega
      · go_wp2_with (go_at_call 32; (with_reducible refine (Tryd.strings_HasPrefix _ _ _).mono ?_); rw [HB.out]; rintro e w' ⟨rfl, rfl⟩)
        exact bodyPost_ret (v := .tuple #[.agg #[.int .i64 6, .string S, .int .i64 0, .int .i64 0], .int .i64 S.size, .int .i64 0]) (by simp [results, Tryd.results16, go_sem, x0, x1, x2, x3]) rfl ⟨_, rfl, sign_okR hlt hall.out HS.out HB.out, (by go_grown)⟩
    · obtain rfl : k = 14 := by omega
      go_wp2_with fail
      exact bodyPost_ret (v := .tuple #[.agg #[.int .i64 0, .string ⟨#[]⟩, .int .i64 0, .int .i64 0], .int .i64 0, .int .i64 110]) (by simp [results, Tryd.results16, go_sem, x0, x1, x2, x3]) rfl ⟨_, rfl, (by rw [sign_none hall.out]; exact ⟨0, rfl⟩), (by go_grown)⟩
set_option maxHeartbeats 8000000 in
set_option maxRecDepth 100000 in
theorem tok_sign1 (s : ByteArray) (w : World) (hm : s.size ≤ 281474976710656) (h0 : 0 < s.size) (k : Nat) (hk : Lx.runL Lx.isPart (s.extract 1 s.size).data.toList = k) (hks : k < s.size)
    (hb1 : Lx.smI (wrap32 ((s[0]'h0).toNat : Int)) = false) (hb2 : Lx.grI (wrap32 ((s[0]'h0).toNat : Int)) = false) (hq : (wrap32 ((s[0]'h0).toNat : Int) == 39) = true) (hk0 : 0 < k) (h1 : 1 < s.size) (hb3 : Lx.smI (wrap32 ((s[1]'h1).toNat : Int)) = false) (hq2 : (wrap32 ((s[0]'h0).toNat : Int) == 126) = false) (hb4 : Lx.dgI (wrap32 ((s[0]'h0).toNat : Int)) = false) :
    Calls Tryd.prog 16 #[.string s] w (TokP (Lx.signF s.data.toList) w) := by
  have HK := hid hk
  have HZ := hid (show (s.extract 1 s.size).size ≤ 281474976710656 by simp; omega)
  have B1 := hid hb1
  have B2 := hid hb2
  have B4 := hid hb4
  clear hk hb1 hb2 hb4
  (have B3 := hid hb3; clear hb3; have hk1 : 1 < 1 + (k : Int) := by omega)
  go_enter Tryd.func16, Tryd.ntmps16
  go_wp2_with (first
    | (go_at_call 24; (with_reducible refine (lx_run_inside _ _ HZ.out).mono ?_); rw [HK.out]; rintro e w1 ⟨rfl, b⟩; have BR := hid ((Blk.new w 32 #[.int .i64 0, .string ⟨#[]⟩, .int .i64 0, .int .i64 0]).below b (by simp)); have b9 := below_hop b (alB w _); clear b)
    | (go_at_call 26; (with_reducible refine (lx_small _ _).mono ?_); (first | rw [B1.out] | rw [B3.out]); rintro e w' ⟨rfl, rfl⟩)
    | (go_at_call 28; (with_reducible refine (lx_great _ _).mono ?_); rw [B2.out]; rintro e w' ⟨rfl, rfl⟩)
    | (go_at_call 29; (with_reducible refine (lx_digit _ _).mono ?_); rw [B4.out]; rintro e w' ⟨rfl, rfl⟩)
    | (go_at_call 31; (with_reducible refine (lx_signs _).mono ?_); rintro e w2 ⟨rfl, hw2⟩; have b := (show Below w1.heap.size w1 w2 from hw2 ▸ alB w1 _); have SG := hid (show Blk w2 w1.heap.size 9 ((List.range 14).map (fun k => Value.string (signB k))).toArray from hw2 ▸ Blk.new _ _ _); clear hw2; have BR2 := hid (BR.out.up2 b); clear BR; have BR := BR2; clear BR2; have b8 := below_hop b b9; clear b b9; have b9 := b8; clear b8; obtain ⟨x0, x1, x2, x3, f0, f1, f2, f3⟩ := BR.out.cells4))
  obtain ⟨G, hG⟩ : ∃ G, G = w1.heap.size := ⟨_, rfl⟩
  rw [← hG] at SG
  rw [← hG]
  clear hG
  have hz := b9.size
  go_loopg [96] 14 (fun g i wr => ∃ k : Nat, k + g = 14 ∧ i = .int .i64 k ∧ wr = w2 ∧ Hid (∀ j, j < k → Lib.hasPrefix s.data.toList (signB j).data.toList = false))
  case atStart => exact ⟨0, rfl, rfl, rfl, hid (fun j h => by omega)⟩
  case round =>
    obtain ⟨k, hkg, rfl, rfl, hall⟩ := hrel
    have HG := hid hkg
    by_cases hlt : k < 14
    · clear hkg
      have hc : wr.cell? ⟨G, k, none⟩ = some (.string (signB k)) := by
        rw [SG.out.cell k]
        simp [hlt]
      obtain ⟨S, hS⟩ : ∃ S, S = signB k := ⟨_, rfl⟩
      have HS := hid hS
      rw [← hS] at hc
      clear hS
      obtain ⟨b, hb⟩ : ∃ b, Lib.hasPrefix s.data.toList S.data.toList = b := ⟨_, rfl⟩
      have HB := hid hb
      clear hb
      cases b
      · go_wp2_with (go_at_call 32; (with_reducible refine (Tryd.strings_HasPrefix _ _ _).mono ?_); rw [HB.out]; rintro e w' ⟨rfl, rfl⟩)
        have hgk := HG.out
        go_roundg (gk - 1)
        case rel => exact ⟨k + 1, by omega, by go_num, rfl, hid (fun j hj => (Nat.lt_or_eq_of_le (Nat.le_of_lt_succ hj)).elim (hall.out j) (fun h => by subst h; rw [← HS.out]; exact HB.out))⟩
        case measure => omega
      · go_wp2_with (go_at_call 32; (with_reducible refine (Tryd.strings_HasPrefix _ _ _).mono ?_); rw [HB.out]; rintro e w' ⟨rfl, rfl⟩)
        exact bodyPost_ret (v := .tuple #[.agg #[.int .i64 6, .string S, .int .i64 0, .int .i64 0], .int .i64 S.size, .int .i64 0]) (by simp [results, Tryd.results16, go_sem, x0, x1, x2, x3]) rfl ⟨_, rfl, sign_okR hlt hall.out HS.out HB.out, (by go_grown)⟩
    · obtain rfl : k = 14 := by omega
      go_wp2_with fail
      exact bodyPost_ret (v := .tuple #[.agg #[.int .i64 0, .string ⟨#[]⟩, .int .i64 0, .int .i64 0], .int .i64 0, .int .i64 110]) (by simp [results, Tryd.results16, go_sem, x0, x1, x2, x3]) rfl ⟨_, rfl, (by rw [sign_none hall.out]; exact ⟨0, rfl⟩), (by go_grown)⟩
end Go.Proofs.YtngbaghkjaibeaaDoor
