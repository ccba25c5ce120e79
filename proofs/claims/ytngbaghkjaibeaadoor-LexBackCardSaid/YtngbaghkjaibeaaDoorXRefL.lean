/-
  athanorref11.one HANDS BACK WHAT tokF SAYS.
-/
import Derived.Test.YtngbaghkjaibeaaDoorXRef5
namespace Go.Proofs.YtngbaghkjaibeaaDoor
set_option linter.all false
open Go.ChangeShapes Go.WideShapes Go.ChangeAt Go.RowKit

theorem key_small {l : List UInt8} (h : Lx.isKey l = true) : ∃ c r, l = c :: r ∧ Lx.isSmall c = true := by
  have hm : l ∈ Lx.keysL := by unfold Lx.isKey at h; simpa using h
  have : ∀ x ∈ Lx.keysL, (x.head?.map Lx.isSmall) = some true := by decide
  have h2 := this l hm
  cases l with
  | nil => simp at h2
  | cons c r => exact ⟨c, r, rfl, by simpa using h2⟩
theorem rf_one (s : ByteArray) (p : Nat) (w : World) (hp : p < s.size) (hm : s.size ≤ 100000) : Calls Tryd.prog 18 #[.string s, .int .i64 p] w (OneP (Lx.tokF (s.data.toList.drop p)) p w) := by
  have hdr : s.data.toList.drop p = s[p]'hp :: s.data.toList.drop (p + 1) := List.drop_eq_getElem_cons (by rw [size_list]; exact hp)
  have hlen : (s.data.toList.drop p).length = s.size - p := by rw [List.length_drop, size_list]
  obtain ⟨l, hl⟩ : ∃ l, s.data.toList.drop p = l := ⟨_, rfl⟩
  obtain ⟨r, hr⟩ : ∃ r, s.data.toList.drop (p + 1) = r := ⟨_, rfl⟩
  obtain ⟨c, hc⟩ : ∃ c, s[p]'hp = c := ⟨_, rfl⟩
  rw [hl, hr, hc] at hdr
  rw [hl] at hlen
  have b1 : Lx.smI ((s[p]'hp).toNat : Int) = Lx.isSmall c := by rw [Lx.smI_byte, hc]
  have b2 : Lx.grI ((s[p]'hp).toNat : Int) = Lx.isGreat c := by rw [Lx.grI_byte, hc]
  have b4 : Lx.dgI ((s[p]'hp).toNat : Int) = Lx.isDig c := by rw [Lx.dgI_byte, hc]
  have bq : ∀ m : Nat, m < 256 → (((s[p]'hp).toNat : Int) == (m : Int)) = (c == UInt8.ofNat m) := fun m hm => by
    rw [← hc, ← Lx.eqI_byte _ m hm]; rfl
  have q39 := bq 39 (by omega)
  have q126 := bq 126 (by omega)
  rw [show ((39 : Nat) : Int) = 39 from rfl] at q39
  rw [show ((126 : Nat) : Int) = 126 from rfl] at q126
  have hword : ∀ (sm : Bool), Lx.isPart c = true → Lx.smI ((s[p]'hp).toNat : Int) = sm → Lx.grI ((s[p]'hp).toNat : Int) = !sm → (sm = false → Lx.isSmall c = false) →
      Calls Tryd.prog 18 #[.string s, .int .i64 p] w (OneP (Lx.wordF (if sm then 1 else 2) (c :: r.take (Lx.runL Lx.isPart r)) (1 + Lx.runL Lx.isPart r)) p w) := by
    intro sm hpt hs hg hsm
    have hrun : Lx.runL Lx.isPart l = 1 + Lx.runL Lx.isPart r := by rw [hdr, Lx.runL, if_pos hpt]; omega
    obtain ⟨k, hk⟩ : ∃ k, Lx.runL Lx.isPart r = k := ⟨_, rfl⟩
    rw [hk] at hrun ⊢
    have hkr : k ≤ r.length := by rw [← hk]; exact Lx.runL_le _ _
    have hlr : l.length = r.length + 1 := by rw [hdr]; rfl
    have hn : p + Lx.runL Lx.isPart (s.data.toList.drop p) = p + (1 + k) := by rw [hl, hrun]
    have hx : (s.extract p (p + (1 + k))).data.toList = c :: r.take k := by
      rw [ext_list, List.drop_take, hl, hdr, show p + (1 + k) - p = k + 1 by omega, List.take_succ_cons]
    have hwl : (c :: r.take k).length = 1 + k := by simp; omega
    unfold Lx.wordF
    rw [hwl]
    by_cases h32 : 32 < 1 + k
    · rw [if_pos h32]
      exact one_word_long s p w hp hm sm hs (fun h => by rw [hg, h]; rfl) _ hn (by omega) _ rfl
    · rw [if_neg h32]
      obtain ⟨b, hb⟩ : ∃ b, Lx.isKey (c :: r.take k) = b := ⟨_, rfl⟩
      refine one_word s p w hp hm sm hs hg _ hn (by omega) b (by rw [hx]; exact hb) _ ?_
      rw [hx, hb, show p + (1 + k) - p = 1 + k by omega]
      congr 1
      unfold OneK
      cases sm
      · have hbf : b = false := by
          cases b with
          | false => rfl
          | true =>
            obtain ⟨c2, r2, e, h2⟩ := key_small hb
            injection e with e1 e2
            rw [← e1, hsm rfl] at h2; cases h2
        subst hbf; rfl
      · cases b <;> rfl
  rw [hl, hdr, Lx.tokF_cons]
  by_cases h1 : Lx.isSmall c = true
  · rw [if_pos h1]
    have hgf : Lx.isGreat c = false := by
      unfold Lx.isSmall at h1; unfold Lx.isGreat
      simp only [Bool.and_eq_true, decide_eq_true_eq, Lx.le_u8] at h1
      rw [← Bool.not_eq_true]
      simp only [Bool.and_eq_true, decide_eq_true_eq, Lx.le_u8]
      intro h
      have a1 : 97 ≤ c.toNat := h1.1
      have a2 : c.toNat ≤ 90 := h.2
      omega
    exact hword true (by unfold Lx.isPart; simp [h1]) (b1.trans h1) (b2.trans hgf) (fun h => by cases h)
  rw [if_neg h1]
  have h1f : Lx.isSmall c = false := by simpa using h1
  have b1' := b1.trans h1f
  by_cases h2 : Lx.isGreat c = true
  · rw [if_pos h2]
    exact hword false (by unfold Lx.isPart; simp [h2]) b1' (b2.trans h2) (fun _ => h1f)
  rw [if_neg h2]
  have b2' := b2.trans (by simpa using h2 : Lx.isGreat c = false)
  by_cases h3 : c = 39
  · rw [if_pos h3]
    have q39' := q39.trans (by rw [h3]; rfl : (c == UInt8.ofNat 39) = true)
    cases hrr : r with
    | nil =>
      have : p + 1 = s.size := by have := congrArg List.length hdr; rw [hrr] at this; simp at this; omega
      exact one_quote_end s p w hp hm b1' b2' q39' this _ rfl
    | cons c2 r2 =>
      have hlr : l.length = r2.length + 2 := by rw [hdr, hrr]; rfl
      have he : p + 1 < s.size := by omega
      have hc2 : s[p + 1]'he = c2 := by
        have e : s.data.toList.drop (p + 1) = s[p + 1]'he :: s.data.toList.drop (p + 1 + 1) := List.drop_eq_getElem_cons (by rw [size_list]; exact he)
        rw [hr, hrr] at e
        injection e with e _; exact e.symm
      have b3 : Lx.smI ((s[p + 1]'he).toNat : Int) = Lx.isSmall c2 := by rw [Lx.smI_byte, hc2]
      by_cases h5 : Lx.isSmall c2 = true
      · rw [if_pos (by simpa using h5), ← hrr]
        obtain ⟨k, hk⟩ : ∃ k, Lx.runL Lx.isPart r = k := ⟨_, rfl⟩
        rw [hk]
        have hkr : k ≤ r.length := by rw [← hk]; exact Lx.runL_le _ _
        have hlr2 : r.length = r2.length + 1 := by rw [hrr]; rfl
        have hn : p + 1 + Lx.runL Lx.isPart (s.data.toList.drop (p + 1)) = p + 1 + k := by rw [hr, hk]
        have hx : (s.extract (p + 1) (p + 1 + k)).data.toList = r.take k := by
          rw [ext_list, List.drop_take, hr, show p + 1 + k - (p + 1) = k by omega]
        have hwl : (r.take k).length = k := by simp; omega
        unfold Lx.wordF
        rw [hwl]
        by_cases h32 : 32 < k
        · rw [if_pos h32]
          exact one_quote_long s p w hp hm b1' b2' q39' he (b3.trans h5) _ hn (by omega) _ rfl
        · rw [if_neg h32, if_neg (fun h => absurd h.1 (by decide))]
          exact one_quote s p w hp hm b1' b2' q39' he (b3.trans h5) _ hn (by omega) _ (by rw [hx, show p + 1 + k - p = 1 + k by omega])
      · rw [if_neg (by simpa using h5)]
        exact one_quote_not s p w hp hm b1' b2' q39' he (b3.trans (by simpa using h5)) _ rfl
  rw [if_neg h3]
  have q39' := q39.trans (by simpa using h3 : (c == UInt8.ofNat 39) = false)
  by_cases h6 : c = 126
  · rw [if_pos h6]
    have q126' := q126.trans (by rw [h6]; rfl : (c == UInt8.ofNat 126) = true)
    exact one_num1 s p w hp hm b1' b2' q39' q126' _ (by rw [hr]) _ (by
      have h9 := Lx.runL_le Lx.isDig r
      rw [List.length_take, Nat.min_eq_left h9])
  rw [if_neg h6]
  have q126' := q126.trans (by simpa using h6 : (c == UInt8.ofNat 126) = false)
  by_cases h7 : Lx.isDig c = true
  · rw [if_pos h7]
    have h9 := Lx.runL_le Lx.isDig r
    have hrun : Lx.runL Lx.isDig l = Lx.runL Lx.isDig r + 1 := by rw [hdr, Lx.runL, if_pos h7]
    exact one_num0 s p w hp hm b1' b2' q39' q126' (b4.trans h7) (c :: r.take (Lx.runL Lx.isDig r)) (by rw [hl, hrun, hdr, List.take_succ_cons]) _ (by
      congr 1; simp; omega)
  rw [if_neg h7, ← hdr, ← hl]
  exact one_sign s p w hp hm b1' b2' q39' q126' (b4.trans (by simpa using h7)) _ rfl
end Go.Proofs.YtngbaghkjaibeaaDoor
