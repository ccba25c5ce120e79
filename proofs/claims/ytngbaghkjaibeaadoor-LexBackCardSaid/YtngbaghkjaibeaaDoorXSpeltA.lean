/-
  lex.spelt: a token as it stands, if it is a good one.
-/
import Derived.Test.YtngbaghkjaibeaaDoorXSpelt
import Derived.Test.YtngbaghkjaibeaaDoorXTextP
namespace Go.Proofs.YtngbaghkjaibeaaDoor
set_option linter.all false
open Go.ChangeShapes Go.WideShapes Go.ChangeAt Go.RowKit

def SpQ (w : World) (S : ByteArray) (b : Bool) (e : Ending) (w' : World) : Prop := e = .returned (.tuple #[.string S, .bool b]) ∧ Below w.heap.size w w'
/-- What spelt tells. -/
def SpP (t : Lx.Tok) (w : World) (e : Ending) (w' : World) : Prop := ∃ s : ByteArray, e = .returned (.tuple #[.string s, .bool (Lx.goodB t)]) ∧ (Lx.goodB t = true → s = Lx.spB t) ∧ Below w.heap.size w w'
theorem goodB_false {t : Lx.Tok} (h : ¬ Lx.goodF Lib.decDigits t) : Lx.goodB t = false := by
  rw [← Bool.not_eq_true]
  exact fun h9 => h (Lx.good_of h9)
theorem spB_len (t : Lx.Tok) : (Lx.spB t).size = (Lx.spellF Lib.decDigits t).length := by rw [← size_list, Lx.spB_list]
theorem good_long {t : Lx.Tok} (h : 33 < (Lx.spB t).size) : Lx.goodB t = false := goodB_false (fun h9 => by have := h9.1; rw [spB_len] at h; omega)
theorem good_empty {t : Lx.Tok} (h : (Lx.spB t).data.toList = []) : Lx.goodB t = false := goodB_false (fun h9 => Lx.spell_ne h9 h)
theorem sp_quit {t : Lx.Tok} {w w' : World} {e : Ending} {S : ByteArray} (h : Lx.goodB t = false) (he : SpQ w S false e w') : SpP t w e w' := ⟨S, (by rw [h]; exact he.1), (fun h9 => by rw [h] at h9; cases h9), he.2⟩
theorem sp_all (t : Lx.Tok) (S : ByteArray) (hS : S = Lx.spB t) (w : World) (args : Array Value)
    (hbad : ∀ er : Int, (er == 0) = false → Lx.tokF S.data.toList = .bad er → Calls Tryd.prog 19 args w (SpQ w S false))
    (hoff : ∀ (kd2 v : Int) (ux : List UInt8) (len : Nat), Lx.tokF S.data.toList = .ok kd2 ux v len → ¬ len = S.size → Calls Tryd.prog 19 args w (SpQ w S false))
    (hok : ∀ (kd2 v : Int) (ux : List UInt8), Lx.tokF S.data.toList = .ok kd2 ux v S.size → ∀ b, EqlT t.kind t.n ⟨t.text.toArray⟩ kd2 v ux b → Calls Tryd.prog 19 args w (SpQ w S b)) (hl : S.size ≤ 33) : Calls Tryd.prog 19 args w (SpP t w) := by
  subst hS
  have hz := spB_len t
  cases ht : Lx.tokF (Lx.spB t).data.toList with
  | bad er =>
    have hg : Lx.goodB t = false := goodB_false (fun h9 => by have := h9.2; rw [← Lx.spB_list, ht] at this; cases this)
    have her : (er == 0) = false := by have := tokF_err ht; simp; omega
    exact (hbad er her ht).mono fun e w' h => sp_quit hg h
  | ok kd2 ux v len =>
    by_cases hlen : len = (Lx.spB t).size
    · subst hlen
      have hb := eql_tok kd2 t.kind v t.n ⟨ux.toArray⟩ ⟨t.text.toArray⟩ _ _ _ rfl rfl rfl
      refine (hok kd2 v ux ht _ hb).mono fun e w' h => ⟨_, ?_, fun _ => rfl, h.2⟩
      have e1 : Lx.goodB t = ((kd2 == t.kind) && ((⟨ux.toArray⟩ : ByteArray).toList == (⟨t.text.toArray⟩ : ByteArray).toList) && (v == t.n)) := by
        rw [list_data2, list_data2]
        show _ = ((kd2 == t.kind) && (ux == t.text) && (v == t.n))
        rw [Bool.eq_iff_iff]
        constructor
        · intro hg
          have := (Lx.good_of hg).2
          rw [← Lx.spB_list, ht] at this
          injection this with a1 a2 a3 a4
          simp [a1, a2, a3]
        · intro hb
          simp only [Bool.and_eq_true, beq_iff_eq] at hb
          obtain ⟨⟨a1, a2⟩, a3⟩ := hb
          refine Lx.good_back ⟨by rw [← spB_len]; exact hl, ?_⟩
          rw [← Lx.spB_list, ht, a1, a2, a3, hz]
          rfl
      rw [e1]
      exact h.1
    · have hg : Lx.goodB t = false := goodB_false (fun h9 => by
        have := h9.2
        rw [← Lx.spB_list, ht] at this
        injection this with a1 a2 a3 a4
        rw [Lx.spB_list] at a4
        exact hlen (by rw [a4, hz]))
      exact (hoff kd2 v ux len ht hlen).mono fun e w' h => sp_quit hg h
set_option maxHeartbeats 8000000 in
set_option maxRecDepth 100000 in
theorem spelt_var_long (tx S : ByteArray) (n p : Int) (w : World) (hl : 33 < S.size) (hm : S.size ≤ 100000) (hS : ⟨#[39]⟩ ++ tx = S) : Calls Tryd.prog 19 #[.agg #[.int .i64 3, .string tx, .int .i64 n, .int .i64 p]] w (SpQ w ⟨#[]⟩ false) := by
  have hSz : (33 : Int) < S.size := by omega
  have hz : ¬ 9223372036854775807 < (⟨#[39]⟩ : ByteArray).size + tx.size := by rw [← ByteArray.size_append, hS]; omega
  have hne : S.data.toList ≠ [] := by rw [← hS, app_list]; simp
  have he : (S.toList == []) = false := by rw [list_data2]; simpa using hne
  clear hl hne
  go_enter Tryd.func19, Tryd.ntmps19
  go_wp2_with fail
  exact bodyPost_ret (v := .tuple #[.string ⟨#[]⟩, .bool false]) (by simp [results, Tryd.results19, go_sem]) rfl ⟨rfl, by go_grown⟩
set_option maxHeartbeats 8000000 in
set_option maxRecDepth 100000 in
theorem spelt_other_long (S : ByteArray) (kd n p : Int) (w : World) (hl : 33 < S.size) (hm : S.size ≤ 100000) (hk3 : (kd == 3) = false) (hk4 : (kd == 4) = false) : Calls Tryd.prog 19 #[.agg #[.int .i64 kd, .string S, .int .i64 n, .int .i64 p]] w (SpQ w ⟨#[]⟩ false) := by
  have hSz : (33 : Int) < S.size := by omega
  have hne : S.data.toList ≠ [] := by intro h; have := size_list S; rw [h] at this; simp at this; omega
  have he : (S.toList == []) = false := by rw [list_data2]; simpa using hne
  clear hl hne
  go_enter Tryd.func19, Tryd.ntmps19
  go_wp2_with fail
  exact bodyPost_ret (v := .tuple #[.string ⟨#[]⟩, .bool false]) (by simp [results, Tryd.results19, go_sem]) rfl ⟨rfl, by go_grown⟩
set_option maxHeartbeats 8000000 in
set_option maxRecDepth 100000 in
theorem spelt_other_empty (S : ByteArray) (kd n p : Int) (w : World) (hl : S.data.toList = []) (hk3 : (kd == 3) = false) (hk4 : (kd == 4) = false) : Calls Tryd.prog 19 #[.agg #[.int .i64 kd, .string S, .int .i64 n, .int .i64 p]] w (SpQ w ⟨#[]⟩ false) := by
  have he : (S.toList == []) = true := by rw [list_data2, hl]; rfl
  clear hl
  go_enter Tryd.func19, Tryd.ntmps19
  go_wp2_with fail
  exact bodyPost_ret (v := .tuple #[.string ⟨#[]⟩, .bool false]) (by simp [results, Tryd.results19, go_sem]) rfl ⟨rfl, by go_grown⟩
theorem itoa_size (n : Int) (hn : -9223372036854775808 ≤ n ∧ n ≤ 9223372036854775807) : 1 ≤ (Lib.itoa n).length ∧ (Lib.itoa n).length ≤ 21 := by
  have h1 := Lx.dec_len 19 n.natAbs (by omega)
  have h2 := Lx.dec_ne n.natAbs
  have h3 : 1 ≤ (Lib.decDigits n.natAbs).length := List.length_pos_iff.2 h2
  unfold Lib.itoa
  split
  · simp; omega
  · rw [show n.toNat = n.natAbs by omega]; omega
theorem lx_spelt (t : Lx.Tok) (w : World) (hE : ErrVars w) (hT : TabW w) (hm : t.text.length ≤ 200) (hn : -9223372036854775808 ≤ t.n ∧ t.n ≤ 9223372036854775807) : Calls Tryd.prog 19 #[.agg #[.int .i64 t.kind, .string ⟨t.text.toArray⟩, .int .i64 t.n, .int .i64 t.pos]] w (SpP t w) := by
  obtain ⟨kd, tx, n, p⟩ := t
  simp only at hm hn ⊢
  have htz : (⟨tx.toArray⟩ : ByteArray).size = tx.length := rfl
  by_cases h3 : kd = 3
  · subst h3
    have hS : (⟨#[39]⟩ : ByteArray) ++ ⟨tx.toArray⟩ = Lx.spB ⟨3, tx, n, p⟩ := by
      apply ByteArray.ext
      rw [ByteArray.data_append]
      apply Array.ext'
      rw [Lx.spB_list, Lx.spell_var rfl]
      simp
    have hz : (Lx.spB ⟨3, tx, n, p⟩).size = tx.length + 1 := by rw [← hS, ByteArray.size_append, htz]; show 1 + tx.length = _; omega
    by_cases hl : 33 < (Lx.spB ⟨3, tx, n, p⟩).size
    · exact (spelt_var_long ⟨tx.toArray⟩ _ n p w hl (by omega) hS).mono fun e w' h => sp_quit (good_long hl) h
    · exact sp_all ⟨3, tx, n, p⟩ _ rfl w _ (fun er her ht => spelt_var_bad _ _ n p w hE (by omega) hS her ht) (fun kd2 v ux len ht hlen => spelt_var_off _ _ n p w hE (by omega) hS ht hlen) (fun kd2 v ux ht b hb => spelt_var_ok _ _ n p w hE (by omega) hS ht b hb) (by omega)
  by_cases h4 : kd = 4
  · subst h4
    have hi := itoa_size n hn
    by_cases hn0 : n < 0
    · have hS : (⟨#[126]⟩ : ByteArray) ++ (⟨(Lib.itoa n).toArray⟩ : ByteArray).extract 1 (⟨(Lib.itoa n).toArray⟩ : ByteArray).size = Lx.spB ⟨4, tx, n, p⟩ := by
        apply ByteArray.ext
        apply Array.ext'
        rw [Lx.spB_list, Lx.spell_int rfl, app_list, ext_list]
        simp only [if_pos hn0, Lib.itoa]
        simp [ByteArray.size]
      have hz : (Lx.spB ⟨4, tx, n, p⟩).size ≤ 33 := by
        rw [spB_len, Lx.spell_int rfl]
        simp only [if_pos hn0, List.length_cons]
        unfold Lib.itoa at hi
        rw [if_pos hn0, List.length_cons] at hi
        omega
      exact sp_all ⟨4, tx, n, p⟩ _ rfl w _ (fun er her ht => spelt_neg_bad _ _ _ n p w hE hT hz rfl hS hi.1 (by have := hi.2; show (Lib.itoa n).length ≤ 40; omega) hn hn0 her ht) (fun kd2 v ux len ht hlen => spelt_neg_off _ _ _ n p w hE hT hz rfl hS hi.1 (by have := hi.2; show (Lib.itoa n).length ≤ 40; omega) hn hn0 ht hlen) (fun kd2 v ux ht b hb => spelt_neg_ok _ _ _ n p w hE hT hz rfl hS hi.1 (by have := hi.2; show (Lib.itoa n).length ≤ 40; omega) hn hn0 ht b hb) hz
    · have hS : (⟨(Lib.itoa n).toArray⟩ : ByteArray) = Lx.spB ⟨4, tx, n, p⟩ := by
        apply ByteArray.ext
        apply Array.ext'
        rw [Lx.spB_list, Lx.spell_int rfl]
        simp only [if_neg hn0, Lib.itoa]
        rw [show n.toNat = n.natAbs by omega]
      have hz : (Lx.spB ⟨4, tx, n, p⟩).size ≤ 33 := by rw [← hS]; have := hi.2; show (Lib.itoa n).length ≤ 33; omega
      have hne : (Lx.spB ⟨4, tx, n, p⟩).data.toList ≠ [] := by
        rw [← hS]
        show Lib.itoa n ≠ []
        intro h; rw [h] at hi; simp at hi
      exact sp_all ⟨4, tx, n, p⟩ _ rfl w _ (fun er her ht => spelt_pos_bad _ _ n p w hE hT hz hS hne hn hn0 her ht) (fun kd2 v ux len ht hlen => spelt_pos_off _ _ n p w hE hT hz hS hne hn hn0 ht hlen) (fun kd2 v ux ht b hb => spelt_pos_ok _ _ n p w hE hT hz hS hne hn hn0 ht b hb) hz
  have e3 : (kd == 3) = false := by simpa using h3
  have e4 : (kd == 4) = false := by simpa using h4
  have hS : Lx.spB ⟨kd, tx, n, p⟩ = ⟨tx.toArray⟩ := by unfold Lx.spB; rw [Lx.spell_other h3 h4]
  by_cases hl : 33 < tx.length
  · exact (spelt_other_long ⟨tx.toArray⟩ kd n p w (by rw [htz]; exact hl) (by rw [htz]; omega) e3 e4).mono fun e w' h => sp_quit (good_long (by rw [hS, htz]; exact hl)) h
  by_cases hne : tx = []
  · exact (spelt_other_empty ⟨tx.toArray⟩ kd n p w hne e3 e4).mono fun e w' h => sp_quit (good_empty (by rw [hS]; exact hne)) h
  have hz : (⟨tx.toArray⟩ : ByteArray).size ≤ 33 := by rw [htz]; omega
  exact sp_all ⟨kd, tx, n, p⟩ ⟨tx.toArray⟩ hS.symm w _ (fun er her ht => spelt_other_bad _ kd n p w hE hz hne e3 e4 her ht) (fun kd2 v ux len ht hlen => spelt_other_off _ kd n p w hE hz hne e3 e4 ht hlen) (fun kd2 v ux ht b hb => spelt_other_ok _ kd n p w hE hz hne e3 e4 ht b hb) hz
end Go.Proofs.YtngbaghkjaibeaaDoor
