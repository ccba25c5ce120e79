/-
  LEX, PLAIN: tokens as a text; blanks between tokens.
-/
import Derived.Test.YtngbaghkjaibeaaDoorXPlainB
namespace Go.Proofs.YtngbaghkjaibeaaDoor
set_option linter.all false
namespace Lx

theorem tokF_first {c : UInt8} {s : List UInt8} {kd : Int} {tx : List UInt8} {n : Int} {len : Nat} (h : tokF (c :: s) = .ok kd tx n len) : isBlank c = false ∧ c ≠ 35 := by
  by_cases hc : isSep c = true
  · exfalso
    have h0 := tokF_take h
    have g1 : isSmall c = false := by rcases sep_cases hc with rfl | rfl | rfl | rfl | rfl <;> rfl
    have g2 : isGreat c = false := by rcases sep_cases hc with rfl | rfl | rfl | rfl | rfl <;> rfl
    have g3 : c ≠ 39 ∧ c ≠ 126 := by rcases sep_cases hc with rfl | rfl | rfl | rfl | rfl <;> decide
    have g4 : signF (c :: s) = .bad 110 := by
      unfold signF
      rcases sep_cases hc with rfl | rfl | rfl | rfl | rfl <;> simp [signsL, List.find?, List.isPrefixOf]
    rw [tokF_cons, if_neg (by simp [g1]), if_neg (by simp [g2]), if_neg g3.1, if_neg g3.2, if_neg (by simp [sep_dig hc]), g4] at h
    cases h
  · unfold isSep at hc
    simp only [Bool.or_eq_true, beq_iff_eq, not_or] at hc
    exact ⟨by simpa using hc.1, hc.2⟩
/-- A number as it is written: its digits. -/
def digsF : Nat → Nat → List UInt8
  | 0, _ => []
  | k + 1, n => if n < 10 then [UInt8.ofNat (48 + n)] else digsF k (n / 10) ++ [UInt8.ofNat (48 + n % 10)]
/-- A token as it stands; digs: how a number at least nought is written. -/
def spellF (digs : Nat → List UInt8) (t : Tok) : List UInt8 :=
  if t.kind = 3 then 39 :: t.text else if t.kind = 4 then (if t.n < 0 then 126 :: digs t.n.natAbs else digs t.n.natAbs) else t.text
def goodF (digs : Nat → List UInt8) (t : Tok) : Prop := (spellF digs t).length ≤ 33 ∧ tokF (spellF digs t) = .ok t.kind t.text t.n (spellF digs t).length
instance (digs : Nat → List UInt8) (t : Tok) : Decidable (goodF digs t) := by unfold goodF; exact inferInstance
def joinF (digs : Nat → List UInt8) : List Tok → List UInt8
  | [] => []
  | [t] => spellF digs t
  | t :: u :: l => spellF digs t ++ 32 :: joinF digs (u :: l)
theorem spell_ne {digs : Nat → List UInt8} {t : Tok} (h : goodF digs t) : spellF digs t ≠ [] := by
  intro e
  have := h.2
  rw [e] at this
  cases this
def Tok.same (a b : Tok) : Prop := a.kind = b.kind ∧ a.text = b.text ∧ a.n = b.n
/-- Alike, but for places. -/
def sames : List Tok → List Tok → Prop
  | [], [] => True
  | a :: l, b :: k => a.same b ∧ sames l k
  | _, _ => False
/-- What was written is read as it was. -/
theorem lexA_back (digs : Nat → List UInt8) : ∀ (l : List Tok) (p m : Nat), (∀ t ∈ l, goodF digs t) → m + l.length ≤ 4096 → ∃ k, lexA (joinF digs l) p m = .ok k ∧ sames l k
  | [], p, m, _, _ => ⟨[], rfl, trivial⟩
  | [t], p, m, h, hm => by
    have hg := h t (by simp)
    have hne := spell_ne hg
    show ∃ k, lexA (spellF digs t) p m = .ok k ∧ sames [t] k
    obtain ⟨_, h2⟩ := hg
    cases hs : spellF digs t with
    | nil => exact absurd hs hne
    | cons c r =>
      rw [hs] at h2
      obtain ⟨g1, g2⟩ := tokF_first h2
      have hm' : m ≠ 4096 := by simp at hm; omega
      rw [lexA_cons, if_neg (by simp [g1]), if_neg g2, h2]
      simp only
      rw [if_neg hm']
      simp only [List.length_cons, Nat.add_sub_cancel, List.drop_length, lexA_nil, LR.cons]
      exact ⟨_, rfl, ⟨rfl, rfl, rfl⟩, trivial⟩
  | t :: u :: l, p, m, h, hm => by
    have hg := h t (by simp)
    have hne := spell_ne hg
    have hm' : m ≠ 4096 := by simp at hm; omega
    show ∃ k, lexA (spellF digs t ++ 32 :: joinF digs (u :: l)) p m = .ok k ∧ sames (t :: u :: l) k
    obtain ⟨_, h2⟩ := hg
    have h3 := (tokF_sep (by decide : isSep 32 = true) hne (joinF digs (u :: l))).trans h2
    have ih := fun p => lexA_back digs (u :: l) p (m + 1) (fun x hx => h x (by simp at hx ⊢; exact .inr hx)) (by simp at hm ⊢; omega)
    cases hs : spellF digs t with
    | nil => exact absurd hs hne
    | cons c r =>
      rw [hs] at h3
      obtain ⟨g1, g2⟩ := tokF_first h3
      rw [List.cons_append] at h3 ⊢
      rw [lexA_cons, if_neg (by simp [g1]), if_neg g2, h3]
      simp only
      rw [if_neg hm']
      simp only [List.length_cons, Nat.add_sub_cancel, List.drop_left]
      rw [lexA_cons, if_pos (by decide)]
      obtain ⟨k, e, hk⟩ := ih (p + (r.length + 1) + 1)
      rw [e]
      exact ⟨_, rfl, ⟨rfl, rfl, rfl⟩, hk⟩

/-- The text with b0 ahead of its first token, bl ahead of each other one. -/
def insF (b0 bl : List UInt8) : Nat → List UInt8 → List UInt8
  | 0, _ => []
  | _ + 1, [] => []
  | k + 1, c :: r =>
    if isBlank c then c :: insF b0 bl k r
    else if c = 35 then c :: (r.take (runL (fun x => x != 10) r) ++ insF b0 bl k (r.drop (runL (fun x => x != 10) r)))
    else match tokF (c :: r) with
      | .bad _ => c :: r
      | .ok _ _ _ len => b0 ++ ((c :: r).take len ++ insF bl bl k (r.drop (len - 1)))
def blanks (bl : List UInt8) : Prop := ∀ c ∈ bl, isBlank c = true
theorem lexA_blanks {bl : List UInt8} (hb : blanks bl) (s : List UInt8) (p m : Nat) : lexA (bl ++ s) p m = lexA s (p + bl.length) m := by
  induction bl generalizing p with
  | nil => rfl
  | cons c bl ih =>
    rw [List.cons_append, lexA_cons, if_pos (hb c (by simp)), ih (fun x hx => hb x (by simp [hx]))]
    congr 1
    simp; omega
theorem insF_nil (b0 bl : List UInt8) (k : Nat) : insF b0 bl k [] = [] := by cases k <;> rfl
theorem drop_run {r : List UInt8} {d : UInt8} {x : List UInt8} (h : r.drop (runL (fun x => x != 10) r) = d :: x) : d = 10 := by
  have hl : runL (fun x => x != 10) r < r.length := by
    have := congrArg List.length h
    simp at this; omega
  have h1 := runL_at (fun x : UInt8 => x != 10) r hl
  have h2 : r[runL (fun x => x != 10) r] = d := by
    have := List.drop_eq_getElem_cons hl
    rw [this] at h
    injection h
  rw [h2] at h1
  simpa using h1
/-- What insF gives begins with a blank or a comment, or is nothing, or with the text's own next token. -/
theorem insF_head {bl : List UInt8} (hb : blanks bl) (hne : bl ≠ []) (k : Nat) (s : List UInt8) (hs : s.length ≤ k) (hok : ∀ e, s ≠ [] → isBlank (s.headD 0) = false → s.headD 0 ≠ 35 → tokF s ≠ .bad e) : insF bl bl k s = [] ∨ ∃ c x, insF bl bl k s = c :: x ∧ isSep c = true := by
  cases s with
  | nil => exact .inl (insF_nil _ _ _)
  | cons c r =>
    cases k with
    | zero => simp at hs
    | succ k =>
      right
      simp only [insF]
      by_cases h1 : isBlank c = true
      · rw [if_pos h1]; exact ⟨c, _, rfl, by simp [isSep, h1]⟩
      rw [if_neg h1]
      by_cases h2 : c = 35
      · rw [if_pos h2]; exact ⟨c, _, rfl, by simp [isSep, h2]⟩
      rw [if_neg h2]
      cases ht : tokF (c :: r) with
      | bad e => exact absurd ht (hok e (by simp) (by simpa using h1) h2)
      | ok kd tx n len =>
        simp only
        cases bl with
        | nil => exact absurd rfl hne
        | cons d bl => exact ⟨d, _, rfl, by simp [isSep, hb d (by simp)]⟩
theorem lexA_okhead {s : List UInt8} {p m : Nat} {l : List Tok} (h : lexA s p m = .ok l) : ∀ e, s ≠ [] → isBlank (s.headD 0) = false → s.headD 0 ≠ 35 → tokF s ≠ .bad e := by
  intro e hs h1 h2 h3
  cases s with
  | nil => exact hs rfl
  | cons c r =>
    simp only [List.headD_cons] at h1 h2
    rw [lexA_cons, if_neg (by simp [h1]), if_neg h2, h3] at h
    cases h
theorem lexA_ins {bl : List UInt8} (hb : blanks bl) (hne : bl ≠ []) : ∀ (k : Nat) (b0 : List UInt8), blanks b0 → ∀ (s : List UInt8) (p q m : Nat) (l : List Tok), s.length ≤ k → lexA s p m = .ok l → ∃ l', lexA (insF b0 bl k s) q m = .ok l' ∧ sames l l'
  | k, b0, _, [], p, q, m, l, _, e => by
    rw [lexA_nil] at e; injection e with e; subst e
    rw [insF_nil, lexA_nil]
    exact ⟨[], rfl, trivial⟩
  | 0, b0, _, c :: r, p, q, m, l, h, _ => by simp at h
  | k + 1, b0, h0, c :: r, p, q, m, l, h, e => by
    have hr : r.length ≤ k := by simpa using h
    rw [lexA_cons] at e
    simp only [insF]
    by_cases h1 : isBlank c = true
    · rw [if_pos h1] at e ⊢
      obtain ⟨l', e1, e2⟩ := lexA_ins hb hne k b0 h0 r (p + 1) (q + 1) m l hr e
      refine ⟨l', ?_, e2⟩
      rw [lexA_cons, if_pos h1]
      exact e1
    rw [if_neg h1] at e ⊢
    by_cases h2 : c = 35
    · rw [if_pos h2] at e ⊢
      have hk : (r.drop (runL (fun x => x != 10) r)).length ≤ k := by simp; omega
      obtain ⟨l', e1, e2⟩ := lexA_ins hb hne k b0 h0 _ _ (q + 1 + runL (fun x => x != 10) r) m l hk e
      refine ⟨l', ?_, e2⟩
      have hj : runL (fun x => x != 10) (r.take (runL (fun x => x != 10) r) ++ insF b0 bl k (r.drop (runL (fun x => x != 10) r))) = runL (fun x => x != 10) r := by
        cases hd : r.drop (runL (fun x => x != 10) r) with
        | nil => rw [insF_nil, List.append_nil, runL_take]
        | cons d x =>
          obtain rfl := drop_run hd
          cases k with
          | zero => rw [hd] at hk; simp at hk
          | succ k =>
            simp only [insF]
            rw [if_pos (by decide), runL_sep (by decide), runL_take]
      rw [lexA_cons, if_neg h1, if_pos h2, hj]
      have hlen : (r.take (runL (fun x => x != 10) r)).length = runL (fun x => x != 10) r := by have := runL_le (fun x : UInt8 => x != 10) r; simp; omega
      rw [List.drop_append, hlen, Nat.sub_self, List.drop_zero, List.drop_of_length_le (by omega), List.nil_append]
      exact e1
    rw [if_neg h2] at e ⊢
    cases ht : tokF (c :: r) with
    | bad e9 => rw [ht] at e; cases e
    | ok kd tx n len =>
      rw [ht] at e
      simp only at e ⊢
      obtain ⟨g1, g2, g3⟩ := tokF_take ht
      by_cases h4 : m = 4096
      · rw [if_pos h4] at e; cases e
      rw [if_neg h4] at e
      cases hx : lexA (r.drop (len - 1)) (p + len) (m + 1) with
      | bad q2 e9 => rw [hx] at e; cases e
      | ok l2 =>
        rw [hx] at e
        injection e with e
        subst e
        have hk : (r.drop (len - 1)).length ≤ k := by simp; omega
        obtain ⟨l', e1, e2⟩ := lexA_ins hb hne k bl hb _ _ (q + b0.length + len) (m + 1) l2 hk hx
        have hX : tokF ((c :: r).take len ++ insF bl bl k (r.drop (len - 1))) = .ok kd tx n len := by
          rcases insF_head hb hne k (r.drop (len - 1)) hk (lexA_okhead hx) with h5 | ⟨d, x, h5, h6⟩
          · rw [h5, List.append_nil]; exact g3
          · rw [h5, tokF_sep h6 (by intro h9; rw [h9] at g3; cases g3)]; exact g3
        obtain ⟨j, rfl⟩ : ∃ j, len = j + 1 := ⟨len - 1, by omega⟩
        rw [List.take_succ_cons, List.cons_append] at hX ⊢
        rw [lexA_blanks h0, lexA_cons, if_neg h1, if_neg h2, hX]
        simp only
        rw [if_neg h4]
        have hlen : (r.take j).length = j := by simp at g2 ⊢; omega
        have hj : j + 1 - 1 = j := by omega
        rw [hj] at e1 ⊢
        rw [List.drop_append, hlen, Nat.sub_self, List.drop_zero, List.drop_of_length_le (by omega), List.nil_append, e1]
        exact ⟨_, rfl, ⟨rfl, rfl, rfl⟩, e2⟩
/-- Places rise, from p on, and are less than e. -/
def Rising : Int → Int → List Tok → Prop
  | _, _, [] => True
  | p, e, t :: l => p ≤ t.pos ∧ t.pos < e ∧ Rising (t.pos + 1) e l
theorem Rising.mono : ∀ {l : List Tok} {p q e : Int}, Rising p e l → q ≤ p → Rising q e l
  | [], _, _, _, _, _ => trivial
  | _ :: _, _, _, _, h, hq => ⟨Int.le_trans hq h.1, h.2⟩
theorem lexA_rising : ∀ (k : Nat) (s : List UInt8) (p m : Nat) (l : List Tok), s.length ≤ k → lexA s p m = .ok l → Rising p (p + s.length : Nat) l
  | k, [], p, m, l, _, e => by rw [lexA_nil] at e; injection e with e; subst e; trivial
  | 0, c :: r, p, m, l, h, _ => by simp at h
  | k + 1, c :: s, p, m, l, h, e => by
    have hs : s.length ≤ k := by simpa using h
    rw [lexA_cons] at e
    by_cases h1 : isBlank c = true
    · rw [if_pos h1] at e
      have h9 := (lexA_rising k s _ _ l hs e).mono (q := p) (by omega)
      have : p + 1 + s.length = p + (c :: s).length := by simp; omega
      rw [this] at h9; exact h9
    rw [if_neg h1] at e
    by_cases h2 : c = 35
    · rw [if_pos h2] at e
      have h9 := (lexA_rising k _ _ _ l (by simp; omega) e).mono (q := p) (by omega)
      have g := runL_le (fun x : UInt8 => x != 10) s
      have : p + 1 + runL (fun x => x != 10) s + (s.drop (runL (fun x => x != 10) s)).length = p + (c :: s).length := by simp; omega
      rw [this] at h9; exact h9
    rw [if_neg h2] at e
    cases ht : tokF (c :: s) with
    | bad e9 => rw [ht] at e; cases e
    | ok kd tx n len =>
      rw [ht] at e
      simp only at e
      obtain ⟨g3, g4, _⟩ := tokF_take ht
      by_cases h4 : m = 4096
      · rw [if_pos h4] at e; cases e
      rw [if_neg h4] at e
      cases hx : lexA (s.drop (len - 1)) (p + len) (m + 1) with
      | bad q e9 => rw [hx] at e; cases e
      | ok l2 =>
        rw [hx] at e
        injection e with e
        subst e
        have h9 := (lexA_rising k _ _ _ l2 (by simp; omega) hx).mono (q := (p : Int) + 1) (by omega)
        have : p + len + (s.drop (len - 1)).length = p + (c :: s).length := by simp at g4 ⊢; omega
        rw [this] at h9
        exact ⟨Int.le_refl _, by simp only [List.length_cons]; omega, h9⟩
/-- The text, from q on, with b0 ahead of the first of these places, bl ahead of each other one. -/
def bldS (S : List UInt8) (bl : List UInt8) : List UInt8 → Nat → List Tok → List UInt8
  | _, q, [] => S.drop q
  | b0, q, t :: l => (S.take t.pos.toNat).drop q ++ (b0 ++ bldS S bl bl t.pos.toNat l)
theorem bldS_cut {S bl : List UInt8} : ∀ {l : List Tok} {b0 : List UInt8} {q q' : Nat}, q ≤ q' → Rising q' S.length l → (l = [] → q' ≤ S.length) → bldS S bl b0 q l = (S.take q').drop q ++ bldS S bl b0 q' l
  | [], b0, q, q', hq, _, h2 => by
    have := h2 rfl
    show S.drop q = (S.take q').drop q ++ S.drop q'
    rw [List.drop_take]
    have e : S.drop q' = (S.drop q).drop (q' - q) := by rw [List.drop_drop]; congr 1; omega
    rw [e, List.take_append_drop]
  | t :: l, b0, q, q', hq, h, _ => by
    have h1 := h.1
    show (S.take t.pos.toNat).drop q ++ _ = (S.take q').drop q ++ ((S.take t.pos.toNat).drop q' ++ _)
    rw [← List.append_assoc ((S.take q').drop q)]
    congr 1
    rw [List.drop_take, List.drop_take, List.drop_take]
    have e : (S.drop q') = (S.drop q).drop (q' - q) := by rw [List.drop_drop]; congr 1; omega
    rw [e]
    have e2 : t.pos.toNat - q = (q' - q) + (t.pos.toNat - q') := by omega
    rw [e2, List.take_add]
theorem insF_bld (S bl : List UInt8) : ∀ (k q : Nat) (b0 : List UInt8) (m : Nat) (l : List Tok), q ≤ S.length → S.length - q ≤ k → lexA (S.drop q) q m = .ok l → insF b0 bl k (S.drop q) = bldS S bl b0 q l
  | k, q, b0, m, l, hq, h, e => by
    cases hs : S.drop q with
    | nil =>
      rw [hs, lexA_nil] at e
      injection e with e
      subst e
      rw [insF_nil]
      exact hs.symm
    | cons c r =>
      have hl := congrArg List.length hs
      simp only [List.length_drop, List.length_cons] at hl
      cases k with
      | zero => omega
      | succ k =>
        have hS : ∀ j, r.drop j = S.drop (q + 1 + j) := fun j => by
          have h9 := congrArg (List.drop (1 + j)) hs
          rw [List.drop_drop, Nat.add_comm 1 j, List.drop_succ_cons] at h9
          rw [← h9]
          congr 1; omega
        have hS0 : r = S.drop (q + 1) := by simpa using hS 0
        have hT : ∀ j, j ≤ r.length → (S.take (q + 1 + j)).drop q = c :: r.take j := fun j _ => by
          rw [List.drop_take, hs]
          have : q + 1 + j - q = j + 1 := by omega
          rw [this, List.take_succ_cons]
        rw [hs, lexA_cons] at e
        simp only [insF]
        by_cases h1 : isBlank c = true
        · rw [if_pos h1] at e ⊢
          rw [hS0] at e
          have hr := lexA_rising _ _ _ _ _ (Nat.le_refl _) e
          have hn : q + 1 + (S.drop (q + 1)).length = S.length := by simp; omega
          rw [hn] at hr
          rw [bldS_cut (q' := q + 1) (by omega) (by simpa using hr) (fun _ => by omega)]
          have := hT 0 (by omega)
          rw [Nat.add_zero] at this
          rw [this, hS0, insF_bld S bl k (q + 1) b0 m l (by omega) (by omega) e]
          simp
        rw [if_neg h1] at e ⊢
        by_cases h2 : c = 35
        · rw [if_pos h2] at e ⊢
          have g := runL_le (fun x : UInt8 => x != 10) r
          generalize hj : runL (fun x : UInt8 => x != 10) r = j at e g ⊢
          rw [hS j] at e
          have hr := lexA_rising _ _ _ _ _ (Nat.le_refl _) e
          have hn : q + 1 + j + (S.drop (q + 1 + j)).length = S.length := by simp; omega
          rw [hn] at hr
          rw [bldS_cut (q' := q + 1 + j) (by omega) (by simpa using hr) (fun _ => by omega), hT j g, hS j, insF_bld S bl k (q + 1 + j) b0 m l (by omega) (by omega) e]
          simp
        rw [if_neg h2] at e ⊢
        cases ht : tokF (c :: r) with
        | bad e9 => rw [ht] at e; cases e
        | ok kd tx n len =>
          rw [ht] at e
          simp only at e ⊢
          obtain ⟨g3, g4, _⟩ := tokF_take ht
          by_cases h4 : m = 4096
          · rw [if_pos h4] at e; cases e
          rw [if_neg h4] at e
          obtain ⟨j, rfl⟩ : ∃ j, len = j + 1 := ⟨len - 1, by omega⟩
          have hj : j + 1 - 1 = j := by omega
          rw [hj] at e ⊢
          have gj : j ≤ r.length := by simp at g4; exact g4
          rw [hS j] at e
          have ej : q + (j + 1) = q + 1 + j := by omega
          rw [ej] at e
          cases hx : lexA (S.drop (q + 1 + j)) (q + 1 + j) (m + 1) with
          | bad q2 e9 => rw [hx] at e; cases e
          | ok l2 =>
            rw [hx] at e
            injection e with e
            subst e
            have hr := lexA_rising _ _ _ _ _ (Nat.le_refl _) hx
            have hn : q + 1 + j + (S.drop (q + 1 + j)).length = S.length := by simp; omega
            rw [hn] at hr
            show _ = (S.take ((q : Int)).toNat).drop q ++ (b0 ++ bldS S bl bl ((q : Int)).toNat l2)
            have e0 : (S.take q).drop q = [] := List.drop_of_length_le (by simp; omega)
            rw [Int.toNat_natCast, e0, List.nil_append]
            rw [bldS_cut (q' := q + 1 + j) (by omega) (by simpa using hr) (fun _ => by omega), hT j gj, hS j, insF_bld S bl k (q + 1 + j) bl (m + 1) l2 (by omega) (by omega) hx, List.take_succ_cons]
termination_by k => k
/-- Blanks ahead of the text, and between its tokens. -/
theorem lexA_built {S bl : List UInt8} (hb : blanks bl) {l : List Tok} (h : lexA S 0 0 = .ok l) : ∃ l', lexA (bl ++ bldS S bl [] 0 l) 0 0 = .ok l' ∧ sames l l' := by
  have e := insF_bld S bl S.length 0 [] 0 l (Nat.zero_le _) (by omega) (by simpa using h)
  rw [List.drop_zero] at e
  by_cases hne : bl = []
  · subst hne
    have h9 : ∀ (l : List Tok) (q : Nat), q ≤ S.length → Rising q S.length l → bldS S [] [] q l = S.drop q := by
      intro l
      induction l with
      | nil => intro q _ _; rfl
      | cons t l ih =>
        intro q hq hr
        have h1 := hr.1
        have h2 := hr.2.1
        have hr3 := hr.2.2.mono (q := (t.pos.toNat : Int)) (by omega)
        show (S.take t.pos.toNat).drop q ++ ([] ++ bldS S [] [] t.pos.toNat l) = _
        rw [ih _ (by omega) hr3, List.nil_append, List.drop_take]
        have e : S.drop t.pos.toNat = (S.drop q).drop (t.pos.toNat - q) := by rw [List.drop_drop]; congr 1; omega
        rw [e, List.take_append_drop]
    have hr := lexA_rising _ _ _ _ _ (Nat.le_refl _) h
    rw [h9 l 0 (Nat.zero_le _) (by simpa using hr), List.nil_append, List.drop_zero, h]
    refine ⟨l, rfl, ?_⟩
    clear h e hr h9
    induction l with
    | nil => trivial
    | cons t l ih => exact ⟨⟨rfl, rfl, rfl⟩, ih⟩
  · rw [← e, lexA_blanks hb]
    exact lexA_ins hb hne _ _ (fun _ h => by simp at h) S 0 _ 0 l (Nat.le_refl _) h
end Lx
end Go.Proofs.YtngbaghkjaibeaaDoor
