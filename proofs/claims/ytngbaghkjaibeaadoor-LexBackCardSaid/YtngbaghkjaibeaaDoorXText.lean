/-
  THE WALK OF lex.Text.
-/
import Derived.Test.YtngbaghkjaibeaaDoorXSpeltA
import Derived.Deep.LoopGhost
import Derived.Deep.DeepMust
namespace Go.Proofs.YtngbaghkjaibeaaDoor
set_option linter.all false
open Go.ChangeShapes Go.WideShapes Go.ChangeAt Go.RowKit

def TokM (t : Lx.Tok) : Prop := t.text.length ≤ 200 ∧ -9223372036854775808 ≤ t.n ∧ t.n ≤ 9223372036854775807
theorem TokM.a {t : Lx.Tok} (h : TokM t) : t.text.length ≤ 200 := h.1
theorem TokM.b {t : Lx.Tok} (h : TokM t) : -9223372036854775808 ≤ t.n ∧ t.n ≤ 9223372036854775807 := h.2
/-- What Text tells. -/
def TextP (l : List Lx.Tok) (w : World) (e : Ending) (w' : World) : Prop := e = .returned (.tuple #[.string ⟨(Lx.textF l).1.toArray⟩, .int .i64 (Lx.textF l).2]) ∧ Below w.heap.size w w'
def strs (l : List Lx.Tok) (j : Nat) : List ByteArray := (l.take j).map Lx.spB
theorem strs_len {l : List Lx.Tok} {j : Nat} (h : j ≤ l.length) : (strs l j).length = j := by unfold strs; simp; omega
theorem strs_snoc {l : List Lx.Tok} {j : Nat} (h : j < l.length) : strs l (j + 1) = strs l j ++ [Lx.spB l[j]] := by unfold strs; rw [List.take_succ_eq_append_getElem h, List.map_append]; rfl
theorem SOwn.snoc {w : World} {B : Nat} {v : Value} {l : List Lx.Tok} {j : Nat} (hj : j < l.length) {s : ByteArray} (hs : s = Lx.spB l[j]) (h : w.ownsRow B 9 1 v (j + 1) ((strs l j).map .string ++ #[Value.string s].toList)) : SOwn w B v (strs l (j + 1)) := by
  unfold SOwn
  rw [strs_len (by omega), strs_snoc hj, List.map_append, ← hs]
  exact h
theorem join_strs (l : List Lx.Tok) : Lib.join ((strs l l.length).map (·.data.toList)) [32] = Lx.joinF Lib.decDigits l := by
  rw [Lx.join_is]
  unfold strs
  rw [List.take_length, List.map_map]
  rfl
theorem lx_Join (l : List Lx.Tok) (hl : l.length ≤ 4096) (hg : l.all Lx.goodB = true) (A : Option Addr) (c : Nat) (B : Nat) (w : World) (h : SOwn w B (.slice A l.length c) (strs l l.length)) : Calls Tryd.prog 20 #[.slice A l.length c, .string ⟨#[32]⟩] w fun e w' => e = .returned (.string ⟨(Lx.joinF Lib.decDigits l).toArray⟩) ∧ Below w.heap.size w w' := by
  have hjl := Lx.join_len (fun t ht => (List.all_eq_true.1 hg) t ht)
  have e32 : (⟨#[32]⟩ : ByteArray).data.toList = [32] := rfl
  rcases h.slice with ⟨h1, h2⟩ | ⟨g, c2, h1, h2, h3, h4⟩
  · have hl0 : l.length = 0 := by rw [← strs_len (l := l) (Nat.le_refl _), h2]; rfl
    have hn : l = [] := List.length_eq_zero_iff.1 hl0
    subst hn
    exact (Tryd.strings_Join_none A c ⟨#[32]⟩ w).mono fun e w' ⟨he, hw⟩ => ⟨he, by subst hw; exact Below.refl _ _⟩
  · injection h1 with e1 e2 e3
    subst e1 e3
    have hj := Tryd.strings_Join g 0 c (strs l l.length) ⟨#[32]⟩ w h4 h3 (by rw [strs_len (Nat.le_refl _)]; omega) h2 (by rw [e32, join_strs]; omega)
    rw [e32, join_strs, strs_len (Nat.le_refl _)] at hj
    exact hj
set_option maxHeartbeats 8000000 in
set_option maxRecDepth 100000 in
theorem lx_Text_many (l : List Lx.Tok) (A : Option Addr) (c : Nat) (w : World) (h : 4096 < l.length) (hl : l.length ≤ 5000) : Calls Tryd.prog 13 #[.slice A l.length c] w (TextP l w) := by
  have hz : (4096 : Int) < l.length := by omega
  have H := hid (Lx.text_many h)
  clear h hl
  go_enter Tryd.func13, Tryd.ntmps13
  go_wp2_with fail
  exact bodyPost_ret (v := .tuple #[.string ⟨#[]⟩, .int .i64 3]) (by simp [results, Tryd.results13, go_sem]) rfl ⟨by rw [H.out], Below.refl _ _⟩
set_option maxHeartbeats 8000000 in
set_option maxRecDepth 100000 in
theorem lx_Text_few (l : List Lx.Tok) (A : Option Addr) (c : Nat) (w : World) (h : ¬ 4096 < l.length) (hR : RdT w A l) (hm : ∀ t ∈ l, TokM t) (hE : ErrVars w) (hT : TabW w) : Calls Tryd.prog 13 #[.slice A l.length c] w (TextP l w) := by
  have hz : ¬ (4096 : Int) < l.length := by omega
  have HR := hid hR
  have HM := hid hm
  have HE := hid hE
  have HTAB := hid hT
  have HL := hid h
  clear h hR hm hE hT
  go_enter Tryd.func13, Tryd.ntmps13
  go_wp2_with fail
  go_loopg [4, 15] l.length (fun g v i wr => ∃ (j : Nat) (A2 : Option Addr) (c2 : Nat), j + g = l.length ∧ i = .int .i64 j ∧ v = .slice A2 j c2 ∧ Hid (SOwn wr w.heap.size (.slice A2 j c2) (strs l j)) ∧ Hid (Below w.heap.size w wr) ∧ Hid (∀ i, (h : i < l.length) → i < j → Lx.goodB l[i] = true))
  case atStart => exact ⟨0, none, 0, by omega, rfl, rfl, hid (World.ownsRow_nil w w.heap.size 9 1), hid (Below.refl _ _), hid (fun i _ h => by omega)⟩
  case round =>
    obtain ⟨j, A2, c2, hj, rfl, rfl, hrow, hb, hall⟩ := hrel
    have HJ := hid hj
    by_cases hlt : j < l.length
    · have hlt' : (j : Int) < l.length := by omega
      obtain ⟨a1, rfl, p0, y0, y1, y2, y3⟩ := (HR.out.up hb.out) j hlt
      obtain ⟨tk, htk⟩ : ∃ tk, tk = l[j] := ⟨_, rfl⟩
      have HTK := hid htk
      have HTM := hid (show TokM tk by rw [htk]; exact HM.out _ (List.getElem_mem hlt))
      rw [← htk] at y0 y1 y2 y3
      obtain ⟨b, hgb⟩ : ∃ b, Lx.goodB tk = b := ⟨_, rfl⟩
      have HGB := hid hgb
      obtain ⟨kd, tx, n, ps⟩ := tk
      dsimp only at y0 y1 y2 y3
      clear hj htk hgb
      cases b
      · go_wp2_with (go_at_call 19; go_must (with_reducible refine (lx_spelt ⟨kd, tx, n, ps⟩ _ (HE.out.up (hb.out.alloc hb.out.size _)) (HTAB.out.up (hb.out.alloc hb.out.size _)) HTM.out.a HTM.out.b).mono ?_); rintro e w1 ⟨s, rfl, hs, b⟩; rw [HGB.out]; have B1 := hid (below_hop b (hb.out.alloc hb.out.size _)); clear b)
        exact bodyPost_ret (v := .tuple #[.string ⟨#[]⟩, .int .i64 1]) (by simp [results, Tryd.results13, go_sem]) rfl ⟨by rw [Lx.text_bad HL.out hlt (by rw [← HTK.out]; exact HGB.out)], B1.out⟩
      · go_wp2_with (first
          | (go_at_call 19; go_must (with_reducible refine (lx_spelt ⟨kd, tx, n, ps⟩ _ (HE.out.up (hb.out.alloc hb.out.size _)) (HTAB.out.up (hb.out.alloc hb.out.size _)) HTM.out.a HTM.out.b).mono ?_); rintro e w1 ⟨s, rfl, hs, b⟩; rw [HGB.out]; have HS := hid (hs HGB.out); have B1 := hid (below_hop b (hb.out.alloc hb.out.size _)); have R1 := hid (show SOwn w1 w.heap.size (.slice A2 j c2) (strs l j) from row_keep hrow.out (fun g e => (b.block g (by have := (hrow.out.lt g e).2; simp; omega)).trans ((alB wr _).block g (hrow.out.lt g e).2))); clear b hs)
          | (at_builtin; go_must (refine wpList_app (by rfl) _ _ 47 (by rfl) w.heap.size Tryd.underlying47 info_str rfl (by omega) (by rfl) (by have h := R1.out; unfold SOwn at h; rw [strs_len (Nat.le_of_lt hlt)] at h; exact h) (by rfl) (by rfl) (by simp [Value.oneCell']) (by omega) (by have := HL.out; omega) B1.out.size ?_); intro v1 w2 hown hg; have HO := hid hown; have HG := hid hg; clear hown hg))
        have hn1 := SOwn.snoc hlt (by rw [← HTK.out]; exact HS.out) HO.out
        obtain ⟨A', c', hv1⟩ := hn1.shape
        rw [strs_len hlt] at hv1
        subst hv1
        have hb2 := below_grown B1.out HG.out B1.out.size R1.out
        have hjg := HJ.out
        go_roundg (gk - 1)
        case rel => exact ⟨j + 1, A', c', by omega, by go_num, rfl, hid hn1, hid hb2, hid (fun i h hi => (Nat.lt_or_eq_of_le (Nat.le_of_lt_succ hi)).elim (fun h3 => hall.out i h h3) (fun h3 => by subst h3; rw [← HTK.out]; exact HGB.out))⟩
        case measure => omega
    · obtain rfl : j = l.length := by omega
      clear hj
      have HALL := hid (Lx.all_good (fun i h => hall.out i h h))
      obtain ⟨S, hS⟩ : ∃ S : ByteArray, (⟨(Lx.joinF Lib.decDigits l).toArray⟩ : ByteArray) = S := ⟨_, rfl⟩
      have HS := hid hS
      have hsz : S.size = (Lx.joinF Lib.decDigits l).length := by rw [← hS]; rfl
      have HZ := hid hsz
      have hjl := Lx.join_len (fun t ht => (List.all_eq_true.1 HALL.out) t ht)
      have hsm : (S.size : Int) ≤ 1000000 := by have := HL.out; omega
      clear hS hsz hjl
      by_cases hlong : (8192 : Int) < S.size
      · go_wp2_with (go_at_call 20; go_must (with_reducible refine (lx_Join l (by have := HL.out; omega) HALL.out _ _ _ _ hrow.out).mono ?_); rintro e w1 ⟨rfl, b⟩; rw [HS.out]; have B1 := hid (below_hop b hb.out); clear b)
        exact bodyPost_ret (v := .tuple #[.string ⟨#[]⟩, .int .i64 2]) (by simp [results, Tryd.results13, go_sem]) rfl ⟨by rw [Lx.text_long HL.out HALL.out (by have := HZ.out; omega)], B1.out⟩
      · go_wp2_with (go_at_call 20; go_must (with_reducible refine (lx_Join l (by have := HL.out; omega) HALL.out _ _ _ _ hrow.out).mono ?_); rintro e w1 ⟨rfl, b⟩; rw [HS.out]; have B1 := hid (below_hop b hb.out); clear b)
        exact bodyPost_ret (v := .tuple #[.string S, .int .i64 0]) (by simp [results, Tryd.results13, go_sem]) rfl ⟨by rw [Lx.text_ok HL.out HALL.out (by have := HZ.out; omega), ← HS.out], B1.out⟩
theorem lx_Text (l : List Lx.Tok) (A : Option Addr) (c : Nat) (w : World) (hl : l.length ≤ 5000) (hR : RdT w A l) (hm : ∀ t ∈ l, TokM t) (hE : ErrVars w) (hT : TabW w) : Calls Tryd.prog 13 #[.slice A l.length c] w (TextP l w) := by
  by_cases h : 4096 < l.length
  · exact lx_Text_many l A c w h hl
  · exact lx_Text_few l A c w h hR hm hE hT
end Go.Proofs.YtngbaghkjaibeaaDoor
