/-
  THE LAW TypCanons: the plainest names of any type's variables, and whether two types are alike; its tied card.
-/
import Derived.Test.YtnlifgcnmhakiaaDoorPostL
import Derived.Test.YtnlifgcnmhakiaaDoorTRCanon
import Derived.Test.YtnlifgcnmhakiaaDoorTSameG
import Derived.Test.YtnlifgcnmhakiaaDoorTWake
import Derived.Test.YtnlifgcnmhakiaaDoorTLarge
import Derived.Test.YtnlifgcnmhakiaaDoorTie
import Derived.Test.YtnlifgcnmhakiaaDoorCards
import Derived.SevenTiedAt
namespace Go.Proofs.YtnlifgcnmhakiaaDoor.typCanons
open Go.ChangeShapes Go.WideShapes Go.ChangeAt Go.RowKit

theorem t_all {w : World} {S : Nat → Prop} {t : Ty} {v : Value} (h : TAt w S t v) : TAt w (fun b => b < w.heap.size) t v := h.keep (fun _ _ hl => ⟨rfl, hl⟩)
theorem t_up {w w' : World} {S : Nat → Prop} {t : Ty} {v : Value} (h : TAt w S t v) (hb : Below w.heap.size w w') : TAt w' (fun b => b < w'.heap.size) t v := t_all (h.up hb)
/-- What the first name-giving tells. -/
def Can (t ct : Ty) (er : Int) : Prop := (canonF t).1 = ct ∧ (canonF t).2 = er ∧ nodes ct ≤ 20000
def CanQ (ct : Ty) (er : Int) (w : World) (e : Ending) (w' : World) : Prop := (∃ v, e = .returned (.tuple #[v, .int .i64 er]) ∧ TAt w' (fun b => w.heap.size ≤ b) ct v) ∧ Below w.heap.size w w'
theorem code_Canon {t ct : Ty} {er : Int} (h : Can t ct er) {v : Value} {w : World} (hv : TAt w (fun b => b < w.heap.size) t v) : Calls Tryd.prog 7 #[v] w (CanQ ct er w) := by
  obtain ⟨rfl, rfl, _⟩ := h
  exact typ_Canon t v _ w (fun _ h => h) hv
theorem doc_Canon {t ct : Ty} {er : Int} (h : Can t ct er) {v : Value} {w : World} (hv : TAt w (fun b => b < w.heap.size) t v) : Calls Tryd.prog 9 #[v] w (CanQ ct er w) := by
  obtain ⟨rfl, rfl, _⟩ := h
  exact ref15_Canon t v _ w (fun _ h => h) hv
theorem can_few {t : Ty} (h : nodes t ≤ 1024) : Can t (canF [] t).2 0 ∧ Can (canF [] t).2 (canF [] t).2 0 := by
  have hn := canF_nodes _ t (Nat.le_refl _) []
  have ha := canF_again _ t (Nat.le_refl _) [] (by simp; omega)
  have hp : plainK ([] : List (ByteArray × Int)).length = [] := rfl
  rw [hp] at ha
  refine ⟨⟨by unfold canonF; rw [if_pos h], by unfold canonF; rw [if_pos h], by omega⟩, ?_, ?_, by omega⟩
  · unfold canonF; rw [if_pos (by omega), ha]
  · unfold canonF; rw [if_pos (by omega)]
theorem can_many {t : Ty} (h : ¬ nodes t ≤ 1024) : Can t zeroT 3 ∧ Can zeroT (canF [] zeroT).2 0 := by
  have hz : nodes zeroT = 1 := by unfold zeroT; simp [nodes, nodesL]
  have hn := canF_nodes _ zeroT (Nat.le_refl _) []
  refine ⟨⟨by unfold canonF; rw [if_neg h], by unfold canonF; rw [if_neg h], by omega⟩, ?_, ?_, by omega⟩
  · unfold canonF; rw [if_pos (by omega)]
  · unfold canonF; rw [if_pos (by omega)]
/-- A box that holds a type. -/
def Bx (W : World) (g : Nat) (t : Ty) (q : Int) (s : ByteArray) (n : Int) (A : Option Addr) (m c : Nat) : Prop := Blk W g 24 #[.int .i64 q, .string s, .int .i64 n, .slice A m c] ∧ TAt W (fun b => b < W.heap.size) t (.agg #[.int .i64 q, .string s, .int .i64 n, .slice A m c])
theorem Bx.up {W W' : World} {g : Nat} {t : Ty} {q : Int} {s : ByteArray} {n : Int} {A : Option Addr} {m c : Nat} (h : Bx W g t q s n A m c) (hb : Below W.heap.size W W') : Bx W' g t q s n A m c := ⟨h.1.below hb h.1.lt, t_up h.2 hb⟩
theorem Bx.at_ {W : World} {g : Nat} {t : Ty} {q : Int} {s : ByteArray} {n : Int} {A : Option Addr} {m c : Nat} (h : Bx W g t q s n A m c) : TAt W (fun b => b < W.heap.size) t (.agg #[.int .i64 q, .string s, .int .i64 n, .slice A m c]) := h.2
theorem Bx.cs {W : World} {g : Nat} {t : Ty} {q : Int} {s : ByteArray} {n : Int} {A : Option Addr} {m c : Nat} (h : Bx W g t q s n A m c) : W.cell? ⟨g, 0, none⟩ = some (.int .i64 q) ∧ W.cell? ⟨g, 1, none⟩ = some (.string s) ∧ W.cell? ⟨g, 2, none⟩ = some (.int .i64 n) ∧ W.cell? ⟨g, 3, none⟩ = some (.slice A m c) := ⟨h.1.cell 0, h.1.cell 1, h.1.cell 2, h.1.cell 3⟩
theorem Bx.new {W : World} {t : Ty} {q : Int} {s : ByteArray} {n : Int} {A : Option Addr} {m c : Nat} {S : Nat → Prop} (h : TAt W S t (.agg #[.int .i64 q, .string s, .int .i64 n, .slice A m c])) : Bx (W.alloc (.cells #[.int .i64 q, .string s, .int .i64 n, .slice A m c] 24)) W.heap.size t q s n A m c := ⟨Blk.new _ _ _, t_up h (al1 W _)⟩
set_option maxHeartbeats 16000000 in
set_option maxRecDepth 100000 in
theorem walk (w : World) {v v' : Value} {t : Ty} (hv : TAt w (fun b => b < w.heap.size) t v) {u : Ty} (hv' : TAt w (fun b => b < w.heap.size) u v') :
    Calls Tryd.prog 3 #[v, v'] w fun e w' => e = .returned (.bool true) ∧ Below w.heap.size w w' := by
  obtain ⟨q, s, n, A, m, c, rfl⟩ := hv.agg
  obtain ⟨q', s', n', A', m', c', rfl⟩ := hv'.agg
  have X0 := hid (Bx.new hv)
  have Y : Hid (Bx ((w.alloc (.cells #[.int .i64 q, .string s, .int .i64 n, .slice A m c] 24)).alloc (.cells #[.int .i64 q', .string s', .int .i64 n', .slice A' m' c'] 24)) (w.heap.size + 1) u q' s' n' A' m' c') := hid (by have := Bx.new (hv'.up (al1 w (.cells #[.int .i64 q, .string s, .int .i64 n, .slice A m c] 24))); simpa using this)
  have X := hid (X0.out.up (al1 _ (.cells #[.int .i64 q', .string s', .int .i64 n', .slice A' m' c'] 24)))
  have HB := hid (al2 w (.cells #[.int .i64 q, .string s, .int .i64 n, .slice A m c] 24) (.cells #[.int .i64 q', .string s', .int .i64 n', .slice A' m' c'] 24))
  obtain ⟨bs, hbs⟩ : ∃ bs, sameT t u = bs := ⟨_, rfl⟩
  have HBS := hid hbs
  have hcan : ∃ ct er ct2, (er = 0 ∧ ct = ct2 ∨ er = 3) ∧ Can t ct er ∧ Can ct ct2 0 := by
    by_cases h : nodes t ≤ 1024
    · exact ⟨_, _, _, .inl ⟨rfl, rfl⟩, can_few h⟩
    · exact ⟨_, _, _, .inr rfl, can_many h⟩
  obtain ⟨ct, er, ct2, hor, hc1, hc2⟩ := hcan
  have HC1 := hid hc1
  have HC2 := hid hc2
  have HCN := hid hc1.2.2
  have HOR := hid hor
  have HS1 := hid (show sameT ct ct = true from (sameT_iff _ _).2 rfl)
  clear hbs X0 hv hv' hc1 hc2 hor
  obtain ⟨x0, x1, x2, x3⟩ := X.out.cs; obtain ⟨y0, y1, y2, y3⟩ := Y.out.cs
  go_enter Tryd.func3, Tryd.ntmps3
  go_wp2_with (first
    | (go_at_call 5; (refine (law12_LargeType t _ _ _ X.out.at_).mono ?_); rintro e w1 ⟨⟨l1, rfl, hl1⟩, b9⟩; go_must (have HL1 := hid hl1; clear x0 x1 x2 x3 y0 y1 y2 y3; have h9 := hid (X.out.up b9); clear X; have X := h9; clear h9; have h9 := hid (Y.out.up b9); clear Y; have Y := h9; clear h9; have h9 := hid (below_hop b9 HB.out); clear HB; have HB := h9; clear h9; obtain ⟨x0, x1, x2, x3⟩ := X.out.cs; obtain ⟨y0, y1, y2, y3⟩ := Y.out.cs; clear b9 hl1))
    | (go_at_call 5; (refine (law12_LargeType u _ _ _ Y.out.at_).mono ?_); rintro e w2 ⟨⟨l2, rfl, hl2⟩, b9⟩; go_must (have HL2 := hid hl2; clear x0 x1 x2 x3 y0 y1 y2 y3; have h9 := hid (X.out.up b9); clear X; have X := h9; clear h9; have h9 := hid (Y.out.up b9); clear Y; have Y := h9; clear h9; have h9 := hid (below_hop b9 HB.out); clear HB; have HB := h9; clear h9; obtain ⟨x0, x1, x2, x3⟩ := X.out.cs; obtain ⟨y0, y1, y2, y3⟩ := Y.out.cs; clear b9 hl2))
    | (go_at_call 6; go_must (refine (law15_wakes _).mono ?_); rintro e w9 ⟨rfl, b9⟩)
    | (go_at_call 8; (refine (law15_copied t _ _ _ (HL1.out (by cases l1 <;> simp_all)) X.out.at_).mono ?_); rintro e w3 ⟨⟨v9, rfl, hv9⟩, b9⟩; go_must (have T3 := hid (t_all hv9); obtain ⟨q9, s9, n9, A9, m9, c9, rfl⟩ := hv9.agg; clear x0 x1 x2 x3 y0 y1 y2 y3; have h9 := hid (X.out.up b9); clear X; have X := h9; clear h9; have h9 := hid (Y.out.up b9); clear Y; have Y := h9; clear h9; have h9 := hid (below_hop b9 HB.out); clear HB; have HB := h9; clear h9; obtain ⟨x0, x1, x2, x3⟩ := X.out.cs; obtain ⟨y0, y1, y2, y3⟩ := Y.out.cs; clear b9 hv9))
    | (go_at_call 7; go_must (refine (code_Canon HC1.out T3.out).mono ?_); rintro e w4 ⟨⟨v9, rfl, hv9⟩, b9⟩; go_must (obtain ⟨qa, sa, na, Aa, ma, ca, rfl⟩ := hv9.agg; clear x0 x1 x2 x3 y0 y1 y2 y3; have h9 := hid (X.out.up b9); clear X; have X := h9; clear h9; have h9 := hid (Y.out.up b9); clear Y; have Y := h9; clear h9; have h9 := hid (below_hop b9 HB.out); clear HB; have HB := h9; clear h9; obtain ⟨x0, x1, x2, x3⟩ := X.out.cs; obtain ⟨y0, y1, y2, y3⟩ := Y.out.cs; clear b9 T3; have T4 := hid hv9; clear hv9; have Z := hid (Bx.new T4.out); have b9 := al1 w4 (.cells #[.int .i64 qa, .string sa, .int .i64 na, .slice Aa ma ca] 24); clear x0 x1 x2 x3 y0 y1 y2 y3; have h9 := hid (X.out.up b9); clear X; have X := h9; clear h9; have h9 := hid (Y.out.up b9); clear Y; have Y := h9; clear h9; have h9 := hid (below_hop b9 HB.out); clear HB; have HB := h9; clear h9; obtain ⟨x0, x1, x2, x3⟩ := X.out.cs; obtain ⟨y0, y1, y2, y3⟩ := Y.out.cs; clear b9))
    | (go_at_call 9; go_must (refine (doc_Canon HC1.out X.out.at_).mono ?_); rintro e w5 ⟨⟨v9, rfl, hv9⟩, b9⟩; go_must (obtain ⟨qb, sb, nb, Ab, mb, cb, rfl⟩ := hv9.agg; clear x0 x1 x2 x3 y0 y1 y2 y3; have h9 := hid (X.out.up b9); clear X; have X := h9; clear h9; have h9 := hid (Y.out.up b9); clear Y; have Y := h9; clear h9; have h9 := hid (below_hop b9 HB.out); clear HB; have HB := h9; clear h9; obtain ⟨x0, x1, x2, x3⟩ := X.out.cs; obtain ⟨y0, y1, y2, y3⟩ := Y.out.cs; have h9 := hid (Z.out.up b9); clear Z; have Z := h9; clear h9; clear b9; have T5 := hid hv9; clear hv9; have V := hid (Bx.new T5.out); have b9 := al1 w5 (.cells #[.int .i64 qb, .string sb, .int .i64 nb, .slice Ab mb cb] 24); clear x0 x1 x2 x3 y0 y1 y2 y3; have h9 := hid (X.out.up b9); clear X; have X := h9; clear h9; have h9 := hid (Y.out.up b9); clear Y; have Y := h9; clear h9; have h9 := hid (below_hop b9 HB.out); clear HB; have HB := h9; clear h9; obtain ⟨x0, x1, x2, x3⟩ := X.out.cs; obtain ⟨y0, y1, y2, y3⟩ := Y.out.cs; have h9 := hid (Z.out.up b9); clear Z; have Z := h9; clear h9; clear b9; obtain ⟨z0, z1, z2, z3⟩ := Z.out.cs; obtain ⟨v0, v1, v2, v3⟩ := V.out.cs)))
  · go_ret
    exact ⟨rfl, below_hop b9 HB.out⟩
  · go_ret
    exact ⟨rfl, below_hop b9 HB.out⟩
  have HN1 := hid (HL1.out (by cases l1 <;> simp_all))
  have HN2 := hid (HL2.out (by cases l2 <;> simp_all))
  clear T4 T5
  generalize (w5.alloc (.cells #[.int .i64 qb, .string sb, .int .i64 nb, .slice Ab mb cb] 24)) = wr at X Y Z V HB x0 x1 x2 x3 y0 y1 y2 y3 z0 z1 z2 z3 v0 v1 v2 v3 ⊢
  have b9 : Below wr.heap.size wr wr.drew := (Below.refl _ _).drew
  clear x0 x1 x2 x3 y0 y1 y2 y3; have h9 := hid (X.out.up b9); clear X; have X := h9; clear h9; have h9 := hid (Y.out.up b9); clear Y; have Y := h9; clear h9; have h9 := hid (below_hop b9 HB.out); clear HB; have HB := h9; clear h9; obtain ⟨x0, x1, x2, x3⟩ := X.out.cs; obtain ⟨y0, y1, y2, y3⟩ := Y.out.cs; clear z0 z1 z2 z3; have h9 := hid (Z.out.up b9); clear Z; have Z := h9; clear h9; obtain ⟨z0, z1, z2, z3⟩ := Z.out.cs; clear v0 v1 v2 v3; have h9 := hid (V.out.up b9); clear V; have V := h9; clear h9; obtain ⟨v0, v1, v2, v3⟩ := V.out.cs; (try (have h9 := hid (t_up T7.out b9); clear T7; have T7 := h9; clear h9)); (try (have h9 := hid (t_up T8.out b9); clear T8; have T8 := h9; clear h9))
  clear b9
  go_region_held3 (fun w' => w'.cell? ⟨w.heap.size, 0, none⟩ = some (.int .i64 q) ∧ w'.cell? ⟨w.heap.size, 1, none⟩ = some (.string s) ∧ w'.cell? ⟨w.heap.size, 2, none⟩ = some (.int .i64 n) ∧ w'.cell? ⟨w.heap.size, 3, none⟩ = some (.slice A m c) ∧ w'.cell? ⟨w.heap.size + 1, 0, none⟩ = some (.int .i64 q') ∧ w'.cell? ⟨w.heap.size + 1, 1, none⟩ = some (.string s') ∧ w'.cell? ⟨w.heap.size + 1, 2, none⟩ = some (.int .i64 n') ∧ w'.cell? ⟨w.heap.size + 1, 3, none⟩ = some (.slice A' m' c') ∧ w'.cell? ⟨w4.heap.size, 0, none⟩ = some (.int .i64 qa) ∧ w'.cell? ⟨w4.heap.size, 1, none⟩ = some (.string sa) ∧ w'.cell? ⟨w4.heap.size, 2, none⟩ = some (.int .i64 na) ∧ w'.cell? ⟨w4.heap.size, 3, none⟩ = some (.slice Aa ma ca) ∧ w'.cell? ⟨w5.heap.size, 0, none⟩ = some (.int .i64 qb) ∧ w'.cell? ⟨w5.heap.size, 1, none⟩ = some (.string sb) ∧ w'.cell? ⟨w5.heap.size, 2, none⟩ = some (.int .i64 nb) ∧ w'.cell? ⟨w5.heap.size, 3, none⟩ = some (.slice Ab mb cb)) (first | with_reducible exact ⟨x0, x1, x2, x3, y0, y1, y2, y3, z0, z1, z2, z3, v0, v1, v2, v3⟩ | go_keep)
    (first
      | (go_at_call 10; (refine (ref15_Same ct ct _ _ _ _ _ Z.out.at_ V.out.at_).mono ?_); rintro e w6 ⟨he, b9⟩; rw [HS1.out] at he; subst he; clear x0 x1 x2 x3 y0 y1 y2 y3; have h9 := hid (X.out.up b9); clear X; have X := h9; clear h9; have h9 := hid (Y.out.up b9); clear Y; have Y := h9; clear h9; have h9 := hid (below_hop b9 HB.out); clear HB; have HB := h9; clear h9; obtain ⟨x0, x1, x2, x3⟩ := X.out.cs; obtain ⟨y0, y1, y2, y3⟩ := Y.out.cs; clear z0 z1 z2 z3; have h9 := hid (Z.out.up b9); clear Z; have Z := h9; clear h9; obtain ⟨z0, z1, z2, z3⟩ := Z.out.cs; clear v0 v1 v2 v3; have h9 := hid (V.out.up b9); clear V; have V := h9; clear h9; obtain ⟨v0, v1, v2, v3⟩ := V.out.cs; (try (have h9 := hid (t_up T7.out b9); clear T7; have T7 := h9; clear h9)); (try (have h9 := hid (t_up T8.out b9); clear T8; have T8 := h9; clear h9)); clear b9)
      | (go_at_call 8; (refine (law15_copied t _ _ _ HN1.out X.out.at_).mono ?_); rintro e w7 ⟨⟨v9, rfl, hv9⟩, b9⟩; have T7 := hid (t_all hv9); obtain ⟨q7, s7, n7, A7, m7, c7, rfl⟩ := hv9.agg; clear x0 x1 x2 x3 y0 y1 y2 y3; have h9 := hid (X.out.up b9); clear X; have X := h9; clear h9; have h9 := hid (Y.out.up b9); clear Y; have Y := h9; clear h9; have h9 := hid (below_hop b9 HB.out); clear HB; have HB := h9; clear h9; obtain ⟨x0, x1, x2, x3⟩ := X.out.cs; obtain ⟨y0, y1, y2, y3⟩ := Y.out.cs; clear z0 z1 z2 z3; have h9 := hid (Z.out.up b9); clear Z; have Z := h9; clear h9; obtain ⟨z0, z1, z2, z3⟩ := Z.out.cs; clear v0 v1 v2 v3; have h9 := hid (V.out.up b9); clear V; have V := h9; clear h9; obtain ⟨v0, v1, v2, v3⟩ := V.out.cs; (try (have h9 := hid (t_up T8.out b9); clear T8; have T8 := h9; clear h9)); clear b9 hv9)
      | (go_at_call 8; (refine (law15_copied u _ _ _ HN2.out Y.out.at_).mono ?_); rintro e w8 ⟨⟨v9, rfl, hv9⟩, b9⟩; have T8 := hid (t_all hv9); obtain ⟨q8, s8, n8, A8, m8, c8, rfl⟩ := hv9.agg; clear x0 x1 x2 x3 y0 y1 y2 y3; have h9 := hid (X.out.up b9); clear X; have X := h9; clear h9; have h9 := hid (Y.out.up b9); clear Y; have Y := h9; clear h9; have h9 := hid (below_hop b9 HB.out); clear HB; have HB := h9; clear h9; obtain ⟨x0, x1, x2, x3⟩ := X.out.cs; obtain ⟨y0, y1, y2, y3⟩ := Y.out.cs; clear z0 z1 z2 z3; have h9 := hid (Z.out.up b9); clear Z; have Z := h9; clear h9; obtain ⟨z0, z1, z2, z3⟩ := Z.out.cs; clear v0 v1 v2 v3; have h9 := hid (V.out.up b9); clear V; have V := h9; clear h9; obtain ⟨v0, v1, v2, v3⟩ := V.out.cs; (try (have h9 := hid (t_up T7.out b9); clear T7; have T7 := h9; clear h9)); clear b9 hv9)
      | (go_at_call 11; (refine (typ_same_ t u _ _ _ _ _ T7.out T8.out).mono ?_); rintro e w10 ⟨he, b9⟩; rw [HBS.out] at he; subst he; clear x0 x1 x2 x3 y0 y1 y2 y3; have h9 := hid (X.out.up b9); clear X; have X := h9; clear h9; have h9 := hid (Y.out.up b9); clear Y; have Y := h9; clear h9; have h9 := hid (below_hop b9 HB.out); clear HB; have HB := h9; clear h9; obtain ⟨x0, x1, x2, x3⟩ := X.out.cs; obtain ⟨y0, y1, y2, y3⟩ := Y.out.cs; clear z0 z1 z2 z3; have h9 := hid (Z.out.up b9); clear Z; have Z := h9; clear h9; obtain ⟨z0, z1, z2, z3⟩ := Z.out.cs; clear v0 v1 v2 v3; have h9 := hid (V.out.up b9); clear V; have V := h9; clear h9; obtain ⟨v0, v1, v2, v3⟩ := V.out.cs; (try (have h9 := hid (t_up T7.out b9); clear T7; have T7 := h9; clear h9)); (try (have h9 := hid (t_up T8.out b9); clear T8; have T8 := h9; clear h9)); clear b9)
      | (go_at_call 10; (refine (ref15_Same t u _ _ _ _ _ X.out.at_ Y.out.at_).mono ?_); rintro e w11 ⟨he, b9⟩; rw [HBS.out] at he; subst he; clear x0 x1 x2 x3 y0 y1 y2 y3; have h9 := hid (X.out.up b9); clear X; have X := h9; clear h9; have h9 := hid (Y.out.up b9); clear Y; have Y := h9; clear h9; have h9 := hid (below_hop b9 HB.out); clear HB; have HB := h9; clear h9; obtain ⟨x0, x1, x2, x3⟩ := X.out.cs; obtain ⟨y0, y1, y2, y3⟩ := Y.out.cs; clear z0 z1 z2 z3; have h9 := hid (Z.out.up b9); clear Z; have Z := h9; clear h9; obtain ⟨z0, z1, z2, z3⟩ := Z.out.cs; clear v0 v1 v2 v3; have h9 := hid (V.out.up b9); clear V; have V := h9; clear h9; obtain ⟨v0, v1, v2, v3⟩ := V.out.cs; (try (have h9 := hid (t_up T7.out b9); clear T7; have T7 := h9; clear h9)); (try (have h9 := hid (t_up T8.out b9); clear T8; have T8 := h9; clear h9)); clear b9))
  all_goals
    rcases HOR.out with ⟨rfl, rfl⟩ | rfl
  all_goals
    go_wp2_with (first
      | (go_at_call 8; (refine (law15_copied ct _ _ _ HCN.out Z.out.at_).mono ?_); rintro e w12 ⟨⟨v9, rfl, hv9⟩, b9⟩; go_must (have T9 := hid (t_all hv9); obtain ⟨q9, s9, n9, A9, m9, c9, rfl⟩ := hv9.agg; clear x0 x1 x2 x3 y0 y1 y2 y3; have h9 := hid (X.out.up b9); clear X; have X := h9; clear h9; have h9 := hid (Y.out.up b9); clear Y; have Y := h9; clear h9; have h9 := hid (below_hop b9 HB.out); clear HB; have HB := h9; clear h9; obtain ⟨x0, x1, x2, x3⟩ := X.out.cs; obtain ⟨y0, y1, y2, y3⟩ := Y.out.cs; clear z0 z1 z2 z3; have h9 := hid (Z.out.up b9); clear Z; have Z := h9; clear h9; obtain ⟨z0, z1, z2, z3⟩ := Z.out.cs; clear v0 v1 v2 v3; have h9 := hid (V.out.up b9); clear V; have V := h9; clear h9; obtain ⟨v0, v1, v2, v3⟩ := V.out.cs; (try (have h9 := hid (t_up T7.out b9); clear T7; have T7 := h9; clear h9)); (try (have h9 := hid (t_up T8.out b9); clear T8; have T8 := h9; clear h9)); clear b9 hv9))
      | (go_at_call 7; go_must (refine (code_Canon HC2.out T9.out).mono ?_); rintro e w13 ⟨⟨v9, rfl, hv9⟩, b9⟩; go_must (obtain ⟨qd, sd, nd, Ad, md, cd, rfl⟩ := hv9.agg; clear x0 x1 x2 x3 y0 y1 y2 y3; have h9 := hid (X.out.up b9); clear X; have X := h9; clear h9; have h9 := hid (Y.out.up b9); clear Y; have Y := h9; clear h9; have h9 := hid (below_hop b9 HB.out); clear HB; have HB := h9; clear h9; obtain ⟨x0, x1, x2, x3⟩ := X.out.cs; obtain ⟨y0, y1, y2, y3⟩ := Y.out.cs; clear z0 z1 z2 z3; have h9 := hid (Z.out.up b9); clear Z; have Z := h9; clear h9; obtain ⟨z0, z1, z2, z3⟩ := Z.out.cs; clear v0 v1 v2 v3; have h9 := hid (V.out.up b9); clear V; have V := h9; clear h9; obtain ⟨v0, v1, v2, v3⟩ := V.out.cs; (try (have h9 := hid (t_up T7.out b9); clear T7; have T7 := h9; clear h9)); (try (have h9 := hid (t_up T8.out b9); clear T8; have T8 := h9; clear h9)); clear b9 T9; have T4 := hid hv9; clear hv9; have N := hid (Bx.new T4.out); have b9 := al1 w13 (.cells #[.int .i64 qd, .string sd, .int .i64 nd, .slice Ad md cd] 24); clear x0 x1 x2 x3 y0 y1 y2 y3; have h9 := hid (X.out.up b9); clear X; have X := h9; clear h9; have h9 := hid (Y.out.up b9); clear Y; have Y := h9; clear h9; have h9 := hid (below_hop b9 HB.out); clear HB; have HB := h9; clear h9; obtain ⟨x0, x1, x2, x3⟩ := X.out.cs; obtain ⟨y0, y1, y2, y3⟩ := Y.out.cs; clear z0 z1 z2 z3; have h9 := hid (Z.out.up b9); clear Z; have Z := h9; clear h9; obtain ⟨z0, z1, z2, z3⟩ := Z.out.cs; clear v0 v1 v2 v3; have h9 := hid (V.out.up b9); clear V; have V := h9; clear h9; obtain ⟨v0, v1, v2, v3⟩ := V.out.cs; (try (have h9 := hid (t_up T7.out b9); clear T7; have T7 := h9; clear h9)); (try (have h9 := hid (t_up T8.out b9); clear T8; have T8 := h9; clear h9)); clear b9; obtain ⟨d0, d1, d2, d3⟩ := N.out.cs))
      | (go_at_call 10; (refine (ref15_Same ct ct _ _ _ _ _ Z.out.at_ N.out.at_).mono ?_); rintro e w14 ⟨he, b9⟩; go_must (rw [HS1.out] at he; subst he; clear x0 x1 x2 x3 y0 y1 y2 y3; have h9 := hid (X.out.up b9); clear X; have X := h9; clear h9; have h9 := hid (Y.out.up b9); clear Y; have Y := h9; clear h9; have h9 := hid (below_hop b9 HB.out); clear HB; have HB := h9; clear h9; obtain ⟨x0, x1, x2, x3⟩ := X.out.cs; obtain ⟨y0, y1, y2, y3⟩ := Y.out.cs; clear z0 z1 z2 z3; have h9 := hid (Z.out.up b9); clear Z; have Z := h9; clear h9; obtain ⟨z0, z1, z2, z3⟩ := Z.out.cs; clear v0 v1 v2 v3; have h9 := hid (V.out.up b9); clear V; have V := h9; clear h9; obtain ⟨v0, v1, v2, v3⟩ := V.out.cs; (try (have h9 := hid (t_up T7.out b9); clear T7; have T7 := h9; clear h9)); (try (have h9 := hid (t_up T8.out b9); clear T8; have T8 := h9; clear h9)); clear b9))
      | (go_at_call 6; go_must (refine (law15_wakes _).mono ?_); rintro e w15 ⟨rfl, b9⟩; go_must (have HE := hid (below_hop b9 HB.out); clear b9)))
    go_ret
    exact ⟨rfl, HE.out⟩
set_option maxRecDepth 100000 in
theorem answers {H : Type} (enc : TypeId × Value → H) : Answers enc Tryd.prog 3 Tryd.f3 := by
  intro W base args ds ps hA hval hlt hwt
  rw [Tryd.params3] at hA hval
  obtain ⟨v0, vs0, d0, ds0, p0, q0, hargs, rfl, rfl, h0, r0⟩ := trodAll_cons hA
  obtain ⟨v1, vs1, d1, ds1, p1, q1, rfl, rfl, rfl, h1, r1⟩ := trodAll_cons r0
  obtain ⟨rfl, rfl, rfl⟩ := trodAll_nil r1
  obtain rfl : args = #[v0, v1] := Array.ext' hargs
  obtain ⟨x0, i0⟩ := open_type (B := W.heap.size) (hval 0 24 v0 rfl rfl) h0 (fun p hp => hlt p (by simp [hp]))
  obtain ⟨x1, i1⟩ := open_type (B := W.heap.size) (hval 1 24 v1 rfl rfl) h1 (fun p hp => hlt p (by simp [hp]))
  exact walk W i0 i1
theorem hspec {H : Type} (ds : List (DataW H)) (h : ds.length = (Tryd.f3).params.toList.length) : Rows.typCanonsSpec.fn H ds = { results := [.lit (.bool true)], args := ds } := by
  rw [Tryd.params3] at h
  match ds, h with
  | [_, _], _ => rfl
theorem lifted (os : Os) (started : os.Started) (H : Type) (enc : TypeId × Value → H) : ReturnsInHanded {} Tryd.checked os 3 .any (fun w args => (Rows.typCanonsSpec.pre enc Tryd.prog Tryd.f3 Rows.typCanonsRow.domain false w args ∧ laidMetH Tryd.prog Rows.typCanonsRow.laid w) ∧ sizedMet enc Tryd.prog Tryd.f3 (OpenSpec.ofChange Rows.typCanonsSpec) false w args) (Rows.typCanonsSpec.post enc Tryd.prog Tryd.f3 false true false false) :=
  lifted_of_walk_laid (C := Tryd.checked) (tb := 4) (by kernel_rfl) started (by kernel_rfl) Tryd.func3 rfl hspec rfl Tryd.underlying4 (by kernel_rfl) (by kernel_rfl)
    (ChangeSpec.witness_shaped (enc := enc) (C := Tryd.checked) (os := os) (X := fun w _ => laidMetH Tryd.prog Rows.typCanonsRow.laid w) false (World.doorLaid Tryd.prog 24 os) #[.agg #[.int .i64 0, .string ⟨#[]⟩, .int .i64 0, .slice none 0 0], .agg #[.int .i64 0, .string ⟨#[]⟩, .int .i64 0, .slice none 0 0]] 8 rfl (World.shaped_of_RefB (by kernel_rfl) (by kernel_rfl)) (by kernel_rfl) (by kernel_rfl) (by kernel_rfl) (door_met os _)) (answers enc)
theorem over : Rows.typCanonsRow.holds Tryd.pinned (OpenSpec.ofChange Rows.typCanonsSpec) :=
  OpenClaim.holds_of_wide 3 Tryd.f3 rfl rfl rfl rfl rfl rfl rfl ⟨rfl, rfl, rfl, rfl, rfl⟩ rfl rfl rfl rfl rfl (by kernel_rfl) Tryd.func3 (by kernel_rfl)
    (of_decide_eq_true (by kernel_rfl)) (by unfold Func.isWrapper; first | (rw [if_pos (by decide +kernel)]; kernel_rfl) | (rw [if_neg (by decide +kernel)]; exact ⟨rfl, rfl⟩))
    (fun os started H enc _ => lifted os started H enc)
/-- THE STATEMENT: THE TIED CARD. -/
theorem proved : Rows.TypCanonsCardSaid :=
  Claim7.holds_tied_plain_at .later [] Rows.typCanonsCard.laidKinds true Rows.typCanonsCard.stood.harness false
    over (fun _ h => by cases h) (by kernel_rfl) (fun _ h => by cases h) typCanons_row_tie rfl ⟨rfl, rfl⟩ (by kernel_rfl) rfl
    (fun f fn hf hfn => by
      obtain rfl : f = 3 := Option.some.inj ((show Tryd.prog.funcNamed Rows.typCanonsRow.func = some 3 by kernel_rfl).symm.trans hf) |>.symm
      obtain rfl : fn = Tryd.f3 := (Option.some.inj (Tryd.func3.symm.trans hfn)).symm
      exact ⟨by kernel_rfl, fun j t ht => by
        have hall : (Tryd.f3.params.toList.all fun u => !Tryd.prog.wantsStandIn u) = true := by kernel_rfl
        have hm : t ∈ Tryd.f3.params.toList := Array.mem_toList_iff.2 (Array.mem_of_getElem? ht)
        exact (show Tryd.prog.wantsStandIn t = false by simpa using List.all_eq_true.1 hall t hm)⟩)
    (by kernel_rfl)
#print axioms proved
end Go.Proofs.YtnlifgcnmhakiaaDoor.typCanons
