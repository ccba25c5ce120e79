/-
  THE WALK OF lex.Lex.
-/
import Derived.Test.YtngbaghkjaibeaaDoorXTokA
import Derived.Deep.LoopGhost
namespace Go.Proofs.YtngbaghkjaibeaaDoor
set_option linter.all false
open Go.ChangeShapes Go.WideShapes Go.ChangeAt Go.RowKit

def tokC (t : Lx.Tok) : List Value := [.int .i64 t.kind, .string ⟨t.text.toArray⟩, .int .i64 t.n, .int .i64 t.pos]
def tcells (l : List Lx.Tok) : List Value := l.flatMap tokC
theorem tcells_snoc (l : List Lx.Tok) (t : Lx.Tok) : tcells (l ++ [t]) = tcells l ++ tokC t := by simp [tcells]
/-- A row of tokens of one's own. -/
def TRowT (w : World) (B : Nat) (v : Value) (l : List Lx.Tok) : Prop := w.ownsRow B 32 4 v l.length (tcells l)
theorem info_tok : InfoIs Tryd.prog 32 (.agg #[.int .i64 0, .string ⟨#[]⟩, .int .i64 0, .int .i64 0]) 4 40 := by unfold InfoIs; kernel_rfl
/-- What Lex hands back. -/
def LexR (r : Lx.LR) (w : World) (e : Ending) (w' : World) : Prop :=
  Below w.heap.size w w' ∧ match r with
  | .ok l => ∃ v, e = .returned (.tuple #[v, .int .i64 0, .int .i64 0]) ∧ TRowT w' w.heap.size v l
  | .bad p er => e = .returned (.tuple #[.slice none 0 0, .int .i64 p, .int .i64 er])
theorem lex_long (s : ByteArray) (w : World) (h : 8192 < s.size) : Calls Tryd.prog 10 #[.string s] w (LexR (Lx.lexT s.data.toList) w) := by
  have hr : Lx.lexT s.data.toList = .bad 0 2 := by unfold Lx.lexT; rw [if_pos (by rw [size_list]; exact h)]
  rw [hr]
  clear hr
  go_enter Tryd.func10, Tryd.ntmps10
  go_wp2_with fail
  go_step3
  go_wp2_with fail
  rw [Exit.noGoto_ret]
  go_ret3
  exact ⟨Below.refl _ _, rfl⟩
theorem idx_run : ∀ (l : List UInt8), Lib.indexByte l 10 = if Lx.runL (fun x => x != 10) l < l.length then (Lx.runL (fun x => x != 10) l : Int) else -1
  | [] => rfl
  | c :: l => by
    have ih := idx_run l
    unfold Lib.indexByte
    by_cases hc : c = 10
    · subst hc; rfl
    · have hb : (c != 10) = true := by simpa using hc
      rw [if_neg (by simpa using hc), ih, Lx.runL, if_pos hb]
      by_cases h : Lx.runL (fun x => x != 10) l < l.length
      · have e : ¬ ((Lx.runL (fun x => x != 10) l : Int) == -1) = true := by simp <;> omega
        rw [if_pos h, if_neg e, if_pos (by simpa using h)]; omega
      · rw [if_neg h, if_pos (by decide), if_neg (by simpa using h)]
theorem LR_app_app (l k : List Lx.Tok) (x : Lx.LR) : Lx.LR.app l (Lx.LR.app k x) = Lx.LR.app (l ++ k) x := by cases x <;> simp [Lx.LR.app]
theorem LR_cons_eq (t : Lx.Tok) (x : Lx.LR) : x.cons t = Lx.LR.app [t] x := by cases x <;> rfl
theorem tokF_err {l : List UInt8} {er : Int} (h : Lx.tokF l = .bad er) : er = 2 ∨ er = 110 := by
  cases l with
  | nil => unfold Lx.tokF at h; injection h with h; omega
  | cons c r =>
    have hw : ∀ kd w n, Lx.wordF kd w n = .bad er → er = 2 := fun kd w n h => by
      unfold Lx.wordF at h
      split at h
      · injection h with h; omega
      · cases h
    have hn : ∀ b w n, Lx.numF b w n = .bad er → er = 110 := fun b w n h => by
      unfold Lx.numF at h
      split at h
      · injection h with h; omega
      · cases h
    rw [Lx.tokF_cons] at h
    split at h
    · exact .inl (hw _ _ _ h)
    split at h
    · exact .inl (hw _ _ _ h)
    split at h
    · split at h
      · exact .inl (hw _ _ _ h)
      · injection h with h; exact .inr h.symm
    split at h
    · exact .inr (hn _ _ _ h)
    split at h
    · exact .inr (hn _ _ _ h)
    unfold Lx.signF at h
    split at h
    · cases h
    · injection h with h; exact .inr h.symm
theorem rowT_slice {w : World} {B : Nat} {v : Value} {l : List Lx.Tok} (h : TRowT w B v l) : ∃ A c, v = .slice A l.length c := by
  rcases h.2 with ⟨h1, h2⟩ | ⟨g, cap, cur, h1, _⟩
  · rw [h2, h1]; exact ⟨none, 0, rfl⟩
  · exact ⟨_, _, h1⟩
theorem TRowT.snoc {w : World} {B : Nat} {v : Value} {l : List Lx.Tok} {t : Lx.Tok} {C : List Value} (h : w.ownsRow B 32 4 v (l.length + 1) (tcells l ++ C)) (hC : C = tokC t) : TRowT w B v (l ++ [t]) := by
  subst hC
  unfold TRowT
  rw [tcells_snoc, List.length_append]
  exact h
theorem TRowT.up {w w' : World} {B : Nat} {v : Value} {l : List Lx.Tok} (h : TRowT w B v l) (hb : Below w.heap.size w w') : TRowT w' B v l := row_keep h (fun g hg => hb.block g (h.lt g hg).2)
set_option maxHeartbeats 8000000 in
set_option maxRecDepth 100000 in
theorem lex_short (s : ByteArray) (w : World) (hE : ErrVars w) (h : s.size ≤ 8192) : Calls Tryd.prog 10 #[.string s] w (LexR (Lx.lexA s.data.toList 0 0) w) := by
  have HE := hid hE
  clear hE
  go_enter Tryd.func10, Tryd.ntmps10
  go_wp2_with fail
  go_step3
  go_wp2_with fail
  go_step3
  go_wp2_with fail
  go_loopg [5, 6] s.size (fun g lv x wr => ∃ (l : List Lx.Tok) (p : Nat) (A : Option Addr) (c : Nat), p + g = s.size ∧ x = .int .i64 p ∧ lv = .slice A l.length c ∧ Hid (TRowT wr w.heap.size (.slice A l.length c) l) ∧ Hid (Below w.heap.size w wr) ∧ Hid (l.length ≤ 4096) ∧ Hid (Lx.lexA s.data.toList 0 0 = Lx.LR.app l (Lx.lexA (s.data.toList.drop p) p l.length)))
  case atStart => exact ⟨[], 0, none, 0, by omega, rfl, rfl, hid (World.ownsRow_nil _ _ _ _), hid (Below.refl _ _), hid (by simp), hid (by rw [Lx.LR.app_nil]; rfl)⟩
  case round =>
    obtain ⟨l, p, A, c, hp, rfl, rfl, hrow, hB, hL, hlex⟩ := hrel
    have Hp := hid hp
    by_cases hlt : p < s.size
    · clear hp
      have hdr : s.data.toList.drop p = s[p]'hlt :: s.data.toList.drop (p + 1) := List.drop_eq_getElem_cons (by rw [size_list]; exact hlt)
      have hxl : (s.extract p s.size).data.toList = s.data.toList.drop p := by rw [ext_list, ← size_list, List.take_length]
      obtain ⟨cb, hcb⟩ : ∃ cb, s[p]'hlt = cb := ⟨_, rfl⟩
      rw [hcb] at hdr
      have hx : ((s[p]'hlt).toNat : Int) = (cb.toNat : Int) := by rw [hcb]
      have HD := hid hdr
      have HX := hid hxl
      clear hdr hxl hcb
      have hp0 : (p : Int) < s.size := by omega
      by_cases h9 : cb = 9
      · have hx2 : ((s[p]'hlt).toNat : Int) = 9 := by rw [hx, h9]; rfl
        have H9 := hid h9
        clear hx h9
        go_wp2_with fail
        have hgk := Hp.out
        go_roundg (gk - 1)
        case rel => exact ⟨l, p + 1, A, c, by omega, by go_num, rfl, hrow, hB, hL, hid (by rw [hlex.out, HD.out, Lx.lexA_cons, if_pos (by rw [H9.out]; rfl)])⟩
        case measure => omega
      by_cases h10 : cb = 10
      · have hx2 : ((s[p]'hlt).toNat : Int) = 10 := by rw [hx, h10]; rfl
        have H9 := hid h10
        clear hx h10
        go_wp2_with fail
        have hgk := Hp.out
        go_roundg (gk - 1)
        case rel => exact ⟨l, p + 1, A, c, by omega, by go_num, rfl, hrow, hB, hL, hid (by rw [hlex.out, HD.out, Lx.lexA_cons, if_pos (by rw [H9.out]; rfl)])⟩
        case measure => omega
      by_cases h13 : cb = 13
      · have hx2 : ((s[p]'hlt).toNat : Int) = 13 := by rw [hx, h13]; rfl
        have H9 := hid h13
        clear hx h13
        go_wp2_with fail
        have hgk := Hp.out
        go_roundg (gk - 1)
        case rel => exact ⟨l, p + 1, A, c, by omega, by go_num, rfl, hrow, hB, hL, hid (by rw [hlex.out, HD.out, Lx.lexA_cons, if_pos (by rw [H9.out]; rfl)])⟩
        case measure => omega
      by_cases h32 : cb = 32
      · have hx2 : ((s[p]'hlt).toNat : Int) = 32 := by rw [hx, h32]; rfl
        have H9 := hid h32
        clear hx h32
        go_wp2_with fail
        have hgk := Hp.out
        go_roundg (gk - 1)
        case rel => exact ⟨l, p + 1, A, c, by omega, by go_num, rfl, hrow, hB, hL, hid (by rw [hlex.out, HD.out, Lx.lexA_cons, if_pos (by rw [H9.out]; rfl)])⟩
        case measure => omega
      by_cases h35 : cb = 35
      · have hx2 : ((s[p]'hlt).toNat : Int) = 35 := by rw [hx, h35]; rfl
        have H9 := hid h35
        obtain ⟨j, hj⟩ : ∃ j, Lx.runL (fun x => x != 10) (s.data.toList.drop (p + 1)) = j := ⟨_, rfl⟩
        have hj2 : Lx.runL (fun x => x != 10) (s.data.toList.drop p) = j + 1 := by rw [HD.out, Lx.runL, if_pos (by rw [h35]; rfl), hj]
        have hstep : Lx.lexA (s.data.toList.drop p) p l.length = Lx.lexA (s.data.toList.drop (p + (j + 1))) (p + (j + 1)) l.length := by
          rw [HD.out, Lx.lexA_cons, if_neg (by rw [h35]; decide), if_pos h35, hj, List.drop_drop]
          congr 1
          · congr 1; omega
          · omega
        have HS := hid hstep
        have hlen : (s.data.toList.drop p).length = s.size - p := by rw [List.length_drop, size_list]
        clear hx h35 h9 h10 h13 h32
        by_cases hn : j + 1 < s.size - p
        · have HI := hid (show Lib.indexByte (s.extract p s.size).data.toList ((10 : Int).toNat.toUInt8) = ((j + 1 : Nat) : Int) by rw [HX.out]; exact (idx_run _).trans (by rw [hj2, hlen, if_pos hn]))
          have hj0 : ¬ ((j + 1 : Nat) : Int) < 0 := by omega
          clear hj hj2 hstep hlen
          obtain ⟨i, hi⟩ : ∃ i, i = j + 1 := ⟨_, rfl⟩
          rw [← hi] at HI HS hn hj0
          have HI9 := hid hi
          clear hi
          go_wp2_with (go_at_call 15; (with_reducible refine (Tryd.strings_IndexByte _ _ _).mono ?_); rw [HI.out]; rintro e w' ⟨rfl, rfl⟩)
          have hgk := Hp.out
          have hi1 := HI9.out
          go_roundg (s.size - (p + i))
          case rel => exact ⟨l, p + i, A, c, by omega, by go_num, rfl, hrow, hB, hL, hid (by rw [hlex.out, HS.out])⟩
          case measure => omega
        · have HI := hid (show Lib.indexByte (s.extract p s.size).data.toList ((10 : Int).toNat.toUInt8) = -1 by rw [HX.out]; exact (idx_run _).trans (by rw [hj2, hlen, if_neg hn]))
          have HE9 := hid (show Lx.lexA s.data.toList 0 0 = .ok l by
            rw [hlex.out, hstep, List.drop_of_length_le (by rw [size_list]; omega), Lx.lexA_nil]
            simp [Lx.LR.app])
          clear hj hj2 hstep hlen
          go_wp2_with (go_at_call 15; (with_reducible refine (Tryd.strings_IndexByte _ _ _).mono ?_); rw [HI.out]; rintro e w' ⟨rfl, rfl⟩)
          rw [Exit.noGoto_ret]
          go_ret3
          rw [HE9.out]
          exact ⟨hB.out, _, rfl, hrow.out⟩
      have e9 : ((cb.toNat : Int) == 9) = false := by have := Lx.eqI_byte cb 9 (by omega); simp at this ⊢; intro h; exact h9 (UInt8.toNat_inj.1 (by simp; omega))
      have e10 : ((cb.toNat : Int) == 10) = false := by simp; intro h; exact h10 (UInt8.toNat_inj.1 (by simp; omega))
      have e13 : ((cb.toNat : Int) == 13) = false := by simp; intro h; exact h13 (UInt8.toNat_inj.1 (by simp; omega))
      have e32 : ((cb.toNat : Int) == 32) = false := by simp; intro h; exact h32 (UInt8.toNat_inj.1 (by simp; omega))
      have e35 : ((cb.toNat : Int) == 35) = false := by simp; intro h; exact h35 (UInt8.toNat_inj.1 (by simp; omega))
      have hnb : ¬ Lx.isBlank cb = true := by unfold Lx.isBlank; simp [h9, h10, h13, h32]
      have hstep := (congrArg (fun x => Lx.lexA x p l.length) HD.out).trans (Lx.lexA_cons cb (s.data.toList.drop (p + 1)) p l.length)
      rw [if_neg hnb, if_neg h35] at hstep
      have HN := hid h35
      clear h9 h10 h13 h32 h35 hnb
      obtain ⟨ci, hci⟩ : ∃ ci : Int, (cb.toNat : Int) = ci := ⟨_, rfl⟩
      rw [hci] at hx e9 e10 e13 e32 e35
      have hne : (s.extract p s.size).data.toList ≠ [] := by rw [HX.out, HD.out]; simp
      have hm : (s.extract p s.size).size ≤ 281474976710656 := by rw [ByteArray.size_extract]; omega
      have HM := hid (And.intro hm hne)
      clear hci hne hm
      cases ht0 : Lx.tokF (cb :: s.data.toList.drop (p + 1)) with
      | bad er =>
        rw [ht0] at hstep
        have HS := hid hstep
        have HT := hid (show Lx.tokF (s.extract p s.size).data.toList = .bad er by rw [HX.out, HD.out]; exact ht0)
        have her := tokF_err ht0
        clear hstep ht0
        rcases her with rfl | rfl
        all_goals
          go_wp2_with (go_at_call 16; (with_reducible refine (lx_token _ _ (HE.out.up hB.out) HM.out.1 HM.out.2).mono ?_); rintro e w1 ⟨v, rfl, ht, b⟩; rw [HT.out] at ht; obtain ⟨k, rfl⟩ := ht; unfold tok0 tokV; have b9 := below_hop b hB.out; clear b)
          rw [Exit.noGoto_ret]
          go_ret3
          rw [hlex.out, HS.out]
          exact ⟨by have hz := b9.size; go_grown, rfl⟩
      | ok kd tx n len =>
        rw [ht0] at hstep
        simp only at hstep
        have HS := hid hstep
        have HT := hid (show Lx.tokF (s.extract p s.size).data.toList = .ok kd tx n len by rw [HX.out, HD.out]; exact ht0)
        obtain ⟨g1, g2, _⟩ := Lx.tokF_take ht0
        have g3 : p + len ≤ s.size := by
          have e1 : (cb :: s.data.toList.drop (p + 1)).length = s.size - p := by rw [← HD.out, List.length_drop, size_list]
          omega
        have HG := hid (And.intro g1 g3)
        clear hstep ht0 g1 g2 g3
        obtain ⟨tb, htb⟩ : ∃ tb : ByteArray, tb = ⟨tx.toArray⟩ := ⟨_, rfl⟩
        have HTB := hid htb
        clear htb
        by_cases h4 : l.length = 4096
        · have hq : ((l.length : Int) == 4096) = true := by simp; omega
          have H4 := hid h4
          clear h4
          go_wp2_with (go_at_call 16; (with_reducible refine (lx_token _ _ (HE.out.up hB.out) HM.out.1 HM.out.2).mono ?_); rintro e w1 ⟨v, rfl, ht, b⟩; rw [HT.out] at ht; have ht2 : v = .tuple #[.agg #[.int .i64 kd, .string ⟨tx.toArray⟩, .int .i64 n, .int .i64 0], .int .i64 len, .int .i64 0] := ht; rw [← HTB.out] at ht2; subst ht2; have b9 := below_hop b hB.out; clear b ht)
          rw [Exit.noGoto_ret]
          go_ret3
          rw [hlex.out, HS.out, if_pos H4.out]
          exact ⟨by have hz := b9.size; go_grown, rfl⟩
        · have hq : ((l.length : Int) == 4096) = false := by simp; omega
          have H4 := hid h4
          clear h4
          go_wp2_with (first
            | (go_at_call 16; (with_reducible refine (lx_token _ _ (HE.out.up hB.out) HM.out.1 HM.out.2).mono ?_); rintro e w1 ⟨v, rfl, ht, b⟩; rw [HT.out] at ht; have ht2 : v = .tuple #[.agg #[.int .i64 kd, .string ⟨tx.toArray⟩, .int .i64 n, .int .i64 0], .int .i64 len, .int .i64 0] := ht; rw [← HTB.out] at ht2; subst ht2; have b9 := below_hop b hB.out; have HR := hid (hrow.out.up b); have HZ := hid b9.size; have B9 := hid b9; clear b ht b9)
            | (at_builtin; go_must (refine wpList_app (by rfl) _ _ 23 (by rfl) w.heap.size Tryd.underlying23 info_tok rfl (by omega) (by rfl) (World.ownsRow.alloc HR.out _) (by rw [show (World.alloc w1 (.cells #[.int .i64 kd, .string tb, .int .i64 n, .int .i64 p] 32)).heap.size = w1.heap.size + 1 by simp]; rfl) (by rfl) (by simp [Value.oneCell']) (by omega) (by have := hL.out; omega) (by have := HZ.out; simp; omega) ?_); intro v1 w2 hown hg; have HO := hid hown; have HGR := hid hg; clear hown hg))
          have hst := HG.out
          have hgk := Hp.out
          have hn := TRowT.snoc (t := ⟨kd, tx, n, p⟩) HO.out (by rw [HTB.out]; rfl)
          obtain ⟨A', c', rfl⟩ := rowT_slice hn
          have HN2 := hid hn
          have hb2 := below_grown (B9.out.alloc (Nat.le_trans HZ.out (Nat.le_refl _)) (.cells #[.int .i64 kd, .string tb, .int .i64 n, .int .i64 p] 32)) HGR.out (by have := HZ.out; simp; omega) (World.ownsRow.alloc HR.out _)
          have HB2 := hid hb2
          have hl9 := hL.out
          have h49 := H4.out
          clear hn hb2
          go_roundg (s.size - (p + len))
          case rel =>

            exact ⟨l ++ [⟨kd, tx, n, p⟩], p + len, A', c', by omega, by rw [wrap_small (by omega)]; go_num, rfl, HN2, HB2, hid (by simp; omega), hid (by rw [hlex.out, HS.out, if_neg H4.out, LR_cons_eq, LR_app_app, List.length_append, List.drop_drop, show p + 1 + (len - 1) = p + len by have := HG.out; omega]; rfl)⟩
          case measure => omega
    · obtain rfl : p = s.size := by omega
      clear hp
      go_wp2_with fail
      rw [Exit.noGoto_ret]
      go_ret3
      have e := hlex.out
      rw [List.drop_of_length_le (by rw [size_list]; omega), Lx.lexA_nil] at e
      rw [e]
      exact ⟨hB.out, _, rfl, by rw [List.append_nil]; exact hrow.out⟩
theorem lex_Lex (s : ByteArray) (w : World) (hE : ErrVars w) : Calls Tryd.prog 10 #[.string s] w (LexR (Lx.lexT s.data.toList) w) := by
  by_cases h : 8192 < s.size
  · exact lex_long s w h
  · have e : Lx.lexT s.data.toList = Lx.lexA s.data.toList 0 0 := by unfold Lx.lexT; rw [if_neg (by rw [size_list]; exact h)]
    rw [e]
    exact lex_short s w hE (by omega)
end Go.Proofs.YtngbaghkjaibeaaDoor
