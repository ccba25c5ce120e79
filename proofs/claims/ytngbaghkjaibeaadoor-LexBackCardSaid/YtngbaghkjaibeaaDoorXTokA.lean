/-
  lex.token HANDS BACK WHAT tokF SAYS.
-/
import Derived.Test.YtngbaghkjaibeaaDoorXTokS
import Derived.Test.YtngbaghkjaibeaaDoorXPlainB
namespace Go.Proofs.YtngbaghkjaibeaaDoor
set_option linter.all false
open Go.ChangeShapes Go.WideShapes Go.ChangeAt Go.RowKit

theorem size_list (s : ByteArray) : s.data.toList.length = s.size := by rw [Array.length_toList]; rfl
theorem word_case (kd : Int) (s : ByteArray) (l : List UInt8) (hl : s.data.toList = l) (len : Nat) : ∃ q tx er, WordC kd s q tx er ∧ TokR (Lx.wordF kd l len) (.tuple #[.agg #[.int .i64 q, .string tx, .int .i64 0, .int .i64 0], .int .i64 len, .int .i64 er]) := by
  subst hl
  by_cases h : 32 < s.size
  · refine ⟨0, ⟨#[]⟩, 2, fun w => lx_word_long kd s w h, ?_⟩
    unfold Lx.wordF
    rw [if_pos (by rw [size_list]; exact h)]
    exact ⟨_, rfl⟩
  · refine ⟨_, s, 0, fun w => lx_word_short kd s w (by omega), ?_⟩
    unfold Lx.wordF
    rw [if_neg (by rw [size_list]; exact h)]
    show _ = Value.tuple #[tokV _ ⟨s.data.toList.toArray⟩ 0 0, .int .i64 len, .int .i64 0]
    rw [mk_data']
    rfl
theorem run_digs (r : List UInt8) : Lx.digs (r.take (Lx.runL Lx.isDig r)) := by
  intro c hc
  obtain ⟨i, hi, rfl⟩ := List.getElem_of_mem hc
  have h1 : i < Lx.runL Lx.isDig r := by simp at hi; omega
  have h2 : i < r.length := by simp at hi; omega
  rw [List.getElem_take]
  exact Lx.runL_lt Lx.isDig r i h1 h2
theorem num_case (neg : Bool) (s : ByteArray) (ds : List UInt8) (hd : Lx.digs ds) (hs : s.data.toList = if neg then 126 :: ds else ds) (hm : s.size ≤ 281474976710656) (len : Nat) :
    ∃ q tx n er, NumC s q tx n er ∧ TokR (Lx.numF neg ds len) (.tuple #[.agg #[.int .i64 q, .string tx, .int .i64 n, .int .i64 0], .int .i64 len, .int .i64 er]) := by
  obtain ⟨d, hdd⟩ : ∃ d : ByteArray, d = ⟨ds.toArray⟩ := ⟨_, rfl⟩
  have hdl : d.data.toList = ds := by rw [hdd]
  have hc : CutIs s d neg := by
    unfold CutIs
    rw [hs, hdd]
    cases neg
    · have hp : Lib.hasPrefix ds [126] = false := by
        cases ds with
        | nil => rfl
        | cons c r =>
          have := Lx.dig_range (hd c (by simp))
          have h9 : c ≠ 126 := by intro h; rw [h] at this; exact absurd this.2 (by decide)
          unfold Lib.hasPrefix
          simp [List.isPrefixOf, Ne.symm h9]
      refine ⟨?_, hp⟩
      show (⟨(Lib.trimPrefix ds [126]).toArray⟩ : ByteArray) = _
      unfold Lib.trimPrefix
      rw [hp]; rfl
    · exact ⟨rfl, rfl⟩
  have hdz : d.size ≤ 281474976710656 := by
    have h1 := congrArg List.length hs
    rw [size_list] at h1
    have h2 := congrArg List.length hdl
    rw [size_list] at h2
    cases neg <;> simp at h1 <;> omega
  have ha := Lx.atoi_digs hd
  rw [← hdl] at ha
  have hlen : ds.length = d.size := by rw [← hdl, size_list]
  have bad : (ds = [] ∨ (1 < ds.length ∧ ds.head? = some 48) ∨ ¬ Lx.inR (Lx.valS neg ds)) → TokR (Lx.numF neg ds len) (.tuple #[.agg #[.int .i64 0, .string ⟨#[]⟩, .int .i64 0, .int .i64 0], .int .i64 len, .int .i64 110]) := fun h => by
    unfold Lx.numF
    rw [if_pos h]
    exact ⟨_, rfl⟩
  by_cases h0 : ds = []
  · rw [if_pos (by rw [hdl]; exact h0)] at ha
    exact ⟨0, ⟨#[]⟩, 0, 110, fun w hE => number_syntax s d neg w hE hc ha hdz, bad (.inl h0)⟩
  rw [if_neg (by rw [hdl]; exact h0), hdl] at ha
  by_cases h1 : Lx.valD ds < 9223372036854775808
  · rw [if_pos h1, ← hdl] at ha
    by_cases hz : 1 < ds.length ∧ ds.head? = some 48
    · have h2 : 0 < d.size := by omega
      have h3 : (d[0]'h2).toNat = 48 := by
        have e : d.data.toList[0]'(by rw [size_list]; exact h2) = d[0]'h2 := rfl
        rw [← e]
        have h9 := hz.2
        rw [← hdl, List.head?_eq_getElem?, List.getElem?_eq_getElem (by rw [size_list]; exact h2)] at h9
        injection h9 with h9
        rw [h9]; rfl
      exact ⟨0, ⟨#[]⟩, 0, 110, fun w hE => number_zero s d neg _ w hE hc ha hdz (by omega) h2 h3, bad (.inr (.inl hz))⟩
    · have h2 : ¬ 1 < d.size ∨ ∃ h : 0 < d.size, (d[0]'h).toNat ≠ 48 := by
        by_cases h3 : 1 < d.size
        · right
          have h4 : 0 < d.size := by omega
          refine ⟨h4, fun h5 => hz ⟨by omega, ?_⟩⟩
          rw [← hdl, List.head?_eq_getElem?, List.getElem?_eq_getElem (by rw [size_list]; exact h4)]
          have e : d.data.toList[0]'(by rw [size_list]; exact h4) = d[0]'h4 := rfl
          rw [e]
          have : d[0]'h4 = 48 := by apply UInt8.toNat_inj.1; rw [h5]; rfl
          rw [this]
        · exact .inl h3
      have hv : Lx.valS neg ds = if neg then -((Lx.valD d.data.toList : Nat) : Int) else (Lx.valD d.data.toList : Nat) := by rw [hdl]; rfl
      by_cases hin : Lx.inR (Lx.valS neg ds)
      · refine ⟨4, ⟨#[]⟩, Lx.valS neg ds, 0, fun w hE => (number_one s d neg _ _ w hE hc ha hdz (by omega) (by rw [hdl]; omega) hv h2).mono fun e w' h => ?_, ?_⟩
        · rw [if_pos hin] at h; exact h
        · unfold Lx.numF
          rw [if_neg (fun h => h.elim h0 (fun h => h.elim hz (fun h => h hin)))]
          rfl
      · refine ⟨0, ⟨#[]⟩, 0, 110, fun w hE => (number_one s d neg _ _ w hE hc ha hdz (by omega) (by rw [hdl]; omega) hv h2).mono fun e w' h => ?_, bad (.inr (.inr hin))⟩
        rw [if_neg hin] at h; exact h
  · rw [if_neg h1, ← hdl] at ha
    have hin : ¬ Lx.inR (Lx.valS neg ds) := by
      unfold Lx.inR Lx.valS
      cases neg <;> simp <;> omega
    rw [hdl] at ha
    exact ⟨0, ⟨#[]⟩, 0, 110, fun w hE => number_range s d neg w hE hc (by rw [hdl]; exact ha) hdz, bad (.inr (.inr hin))⟩
theorem cast1 (k : Nat) : (1 + (k : Int)) = ((1 + k : Nat) : Int) := by omega
set_option maxHeartbeats 1000000 in
theorem lx_token (s : ByteArray) (w : World) (hE : ErrVars w) (hm : s.size ≤ 281474976710656) (hne : s.data.toList ≠ []) : Calls Tryd.prog 16 #[.string s] w (TokP (Lx.tokF s.data.toList) w) := by
  obtain ⟨c, r, hs⟩ : ∃ c r, s.data.toList = c :: r := by
    cases h : s.data.toList with
    | nil => exact absurd h hne
    | cons c r => exact ⟨c, r, rfl⟩
  have hsz : s.size = r.length + 1 := by rw [← size_list, hs]; rfl
  have h0 : 0 < s.size := by omega
  have hc : s[0]'h0 = c := by
    have e : s.data.toList[0]'(by rw [size_list]; exact h0) = s[0]'h0 := rfl
    rw [← e]; simp [hs]
  have hr : (s.extract 1 s.size).data.toList = r := by
    rw [ext_list, ← size_list, List.take_length, hs]; rfl
  obtain ⟨k, hk⟩ : ∃ k, Lx.runL Lx.isPart r = k := ⟨_, rfl⟩
  obtain ⟨j, hj⟩ : ∃ j, Lx.runL Lx.isDig r = j := ⟨_, rfl⟩
  have hks : k < s.size := by have := Lx.runL_le Lx.isPart r; omega
  have hjs : j < s.size := by have := Lx.runL_le Lx.isDig r; omega
  have hk' : Lx.runL Lx.isPart (s.extract 1 s.size).data.toList = k := by rw [hr]; exact hk
  have hj' : Lx.runL Lx.isDig (s.extract 1 s.size).data.toList = j := by rw [hr]; exact hj
  have hp : ∀ n, (s.extract 0 (1 + n)).data.toList = c :: r.take n := fun n => by
    rw [ext_list, hs, Nat.add_comm 1, List.take_succ_cons]; rfl
  have hp1 : ∀ n, (s.extract 1 (1 + n)).data.toList = r.take n := fun n => by
    rw [ext_list, hs, Nat.add_comm 1, List.take_succ_cons]; rfl
  have b1 : Lx.smI (wrap32 ((s[0]'h0).toNat : Int)) = Lx.isSmall c := by rw [wrap32_byte, Lx.smI_byte, hc]
  have b2 : Lx.grI (wrap32 ((s[0]'h0).toNat : Int)) = Lx.isGreat c := by rw [wrap32_byte, Lx.grI_byte, hc]
  have b4 : Lx.dgI (wrap32 ((s[0]'h0).toNat : Int)) = Lx.isDig c := by rw [wrap32_byte, Lx.dgI_byte, hc]
  have bq : ∀ m : Nat, m < 256 → (wrap32 ((s[0]'h0).toNat : Int) == (m : Int)) = (c == UInt8.ofNat m) := fun m hm => by
    rw [wrap32_byte, ← hc, ← Lx.eqI_byte _ m hm]; rfl
  rw [hs, Lx.tokF_cons, hk, hj]
  by_cases h1 : Lx.isSmall c = true
  · rw [if_pos h1]
    obtain ⟨q, tx, er, hw, ht⟩ := word_case 1 _ _ (hp k) (1 + k)
    exact (tok_small s w hm h0 k hk' hks (b1.trans h1) hw).mono fun e w' ⟨h9, hb⟩ => ⟨_, h9, by rw [cast1]; exact ht, hb⟩
  rw [if_neg h1]
  have b1' := b1.trans (by simpa using h1 : Lx.isSmall c = false)
  by_cases h2 : Lx.isGreat c = true
  · rw [if_pos h2]
    obtain ⟨q, tx, er, hw, ht⟩ := word_case 2 _ _ (hp k) (1 + k)
    exact (tok_great s w hm h0 k hk' hks b1' (b2.trans h2) hw).mono fun e w' ⟨h9, hb⟩ => ⟨_, h9, by rw [cast1]; exact ht, hb⟩
  rw [if_neg h2]
  have b2' := b2.trans (by simpa using h2 : Lx.isGreat c = false)
  have q39 := bq 39 (by omega)
  have q126 := bq 126 (by omega)
  rw [show ((39 : Nat) : Int) = 39 from rfl] at q39
  rw [show ((126 : Nat) : Int) = 126 from rfl] at q126
  by_cases h3 : c = 39
  · rw [if_pos h3]
    have q39' := q39.trans (by rw [h3]; rfl : (c == UInt8.ofNat 39) = true)
    have q126' := q126.trans (by rw [h3]; rfl : (c == UInt8.ofNat 126) = false)
    have b4' := b4.trans (by rw [h3]; rfl : Lx.isDig c = false)
    have hsg : Lx.signF (c :: r) = .bad 110 := by
      rw [h3]; unfold Lx.signF; simp [Lx.signsL, List.find?, List.isPrefixOf]
    cases r with
    | nil =>
      have hk0 : k = 0 := by rw [← hk]; rfl
      have := tok_sign0 s w hm h0 k hk' hks b1' b2' q39' hk0 q126' b4'
      rw [hs, hsg] at this
      exact this
    | cons c2 r2 =>
      have h4 : 1 < s.size := by simp at hsz; omega
      have hc2 : s[1]'h4 = c2 := by
        have e : s.data.toList[1]'(by rw [size_list]; exact h4) = s[1]'h4 := rfl
        rw [← e]; simp [hs]
      have b3 : Lx.smI (wrap32 ((s[1]'h4).toNat : Int)) = Lx.isSmall c2 := by rw [wrap32_byte, Lx.smI_byte, hc2]
      by_cases h5 : Lx.isSmall c2 = true
      · have hk0 : 0 < k := by
          rw [← hk, Lx.runL, if_pos (by unfold Lx.isPart; simp [h5])]; omega
        rw [if_pos (by simpa using h5)]
        obtain ⟨q, tx, er, hw, ht⟩ := word_case 3 _ _ (hp1 k) (1 + k)
        exact (tok_quote s w hm h0 k hk' hks b1' b2' q39' hk0 h4 (b3.trans h5) hw).mono fun e w' ⟨h9, hb⟩ => ⟨_, h9, by rw [cast1]; exact ht, hb⟩
      · rw [if_neg (by simpa using h5)]
        by_cases hk0 : k = 0
        · have := tok_sign0 s w hm h0 k hk' hks b1' b2' q39' hk0 q126' b4'
          rw [hs, hsg] at this
          exact this
        · have := tok_sign1 s w hm h0 k hk' hks b1' b2' q39' (by omega) h4 (b3.trans (by simpa using h5)) q126' b4'
          rw [hs, hsg] at this
          exact this
  rw [if_neg h3]
  have q39' := q39.trans (by simpa using h3 : (c == UInt8.ofNat 39) = false)
  by_cases h6 : c = 126
  · rw [if_pos h6]
    have q126' := q126.trans (by rw [h6]; rfl : (c == UInt8.ofNat 126) = true)
    have hd := run_digs r
    rw [hj] at hd
    obtain ⟨q, tx, n, er, hw, ht⟩ := num_case true (s.extract 0 (1 + j)) (r.take j) hd (by rw [hp, h6]; rfl) (by rw [ByteArray.size_extract]; omega) (1 + j)
    exact (tok_num s w hE hm h0 k j hk' hks hj' hjs b1' b2' q39' q126' (by simp) hw).mono fun e w' ⟨h9, hb⟩ => ⟨_, h9, by rw [cast1]; exact ht, hb⟩
  rw [if_neg h6]
  have q126' := q126.trans (by simpa using h6 : (c == UInt8.ofNat 126) = false)
  by_cases h7 : Lx.isDig c = true
  · rw [if_pos h7]
    have hd := run_digs r
    rw [hj] at hd
    obtain ⟨q, tx, n, er, hw, ht⟩ := num_case false (s.extract 0 (1 + j)) (c :: r.take j) (fun x hx => (List.mem_cons.1 hx).elim (fun h => h ▸ h7) (hd x)) (by rw [hp]; rfl) (by rw [ByteArray.size_extract]; omega) (1 + j)
    exact (tok_num s w hE hm h0 k j hk' hks hj' hjs b1' b2' q39' q126' (fun _ => b4.trans h7) hw).mono fun e w' ⟨h9, hb⟩ => ⟨_, h9, by rw [cast1]; exact ht, hb⟩
  rw [if_neg h7]
  have := tok_sign s w hm h0 k hk' hks b1' b2' q39' q126' (b4.trans (by simpa using h7))
  rw [hs] at this
  exact this
end Go.Proofs.YtngbaghkjaibeaaDoor
