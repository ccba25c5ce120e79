/-
  THE WALK OF athanorref14.All: three declared types, and the others behind them, in new memory.
-/
import Derived.Test.YtnlifgcnmhakiaaTCopyD
namespace Go.Proofs.Ytnlifgcnmhakiaa
open Go.ChangeShapes Go.WideShapes Go.ChangeAt Go.RowKit

/-- Many elements more. -/
theorem GB.more {α : Type} {E : World → (Nat → Prop) → α → List Value → Prop} {TE : TypeId} {sz R : Nat} {us : List α} {i m : Nat} {v v' : Value} {xs news : List Value} {w1 w2 : World} {S : Nat → Prop} (hE : Keeps E) (h : GB E TE sz R us i v xs w1)
    (hk : ∀ j, j < m → (hj : i + j < us.length) → ∃ vs : List Value, vs.length = sz ∧ (∀ k, k < sz → news[j * sz + k]? = vs[k]?) ∧ E w1 S us[i + j] vs) (hS : ∀ b, S b → R ≤ b ∧ v.ownBlock ≠ some b)
    (hr : w2.ownsRow R TE sz v' (i + m) (xs ++ news)) (hg : w1.grownBy w2 v.ownBlock) (hn : ∀ g, v'.ownBlock = some g → v.ownBlock = some g ∨ w1.heap.size ≤ g) : GB E TE sz R us (i + m) v' (xs ++ news) w2 := by
  have hlen : xs.length = i * sz := h.row.1
  have key : ∀ b, (R ≤ b ∧ v.ownBlock ≠ some b) → b < w1.heap.size → w2.heap[b]? = w1.heap[b]? ∧ (R ≤ b ∧ v'.ownBlock ≠ some b) := fun b hb hl =>
    ⟨hg.block b hl (fun e => hb.2 e.symm), hb.1, fun e => by rcases hn b e with e | e; exact hb.2 e; omega⟩
  refine ⟨hr, fun j hj hji => ?_⟩
  by_cases hjj : j < i
  · obtain ⟨vs, h1, h2, h3⟩ := h.kids j hj hjj
    refine ⟨vs, h1, fun k hk9 => ?_, hE _ _ _ _ _ _ h3 (fun b hb hl => key b hb hl)⟩
    have : j * sz + k < i * sz := by
      have : (j + 1) * sz ≤ i * sz := Nat.mul_le_mul_right _ hjj
      rw [Nat.succ_mul] at this
      omega
    rw [List.getElem?_append_left (by omega)]
    exact h2 k hk9
  · obtain ⟨j2, rfl⟩ : ∃ j2, j = i + j2 := ⟨j - i, by omega⟩
    obtain ⟨vs, h1, h2, h3⟩ := hk j2 (by omega) hj
    refine ⟨vs, h1, fun k hk9 => ?_, hE _ _ _ _ _ _ h3 (fun b hb hl => key b (hS b hb) hl)⟩
    rw [List.getElem?_append_right (by rw [hlen, Nat.add_mul]; omega), hlen, Nat.add_mul, show i * sz + j2 * sz + k - i * sz = j2 * sz + k from by omega]
    exact h2 k hk9
/-- A row of declared types, cell by cell. -/
theorem DcRow.news {w : World} {S : Nat → Prop} {ds : List Dc} {A : Option Addr} (h : DcRow w S ds A) : ∃ news : List Value, news.length = ds.length * 4 ∧ (∀ ad, A = some ad → ∀ j u, news[j]? = some u → w.cell? (ad.add j) = some u) ∧ (∀ u ∈ news, u.oneCell' = true) ∧
    ∀ j, (hj : j < ds.length) → ∃ vs : List Value, vs.length = 4 ∧ (∀ k, k < 4 → news[j * 4 + k]? = vs[k]?) ∧ DcV w S ds[j] vs := by
  have key : ∀ m, m ≤ ds.length → ∃ news : List Value, news.length = m * 4 ∧ (∀ ad, A = some ad → ∀ j u, news[j]? = some u → w.cell? (ad.add j) = some u) ∧ (∀ u ∈ news, u.oneCell' = true) ∧
      ∀ j, (hj : j < ds.length) → j < m → ∃ vs : List Value, vs.length = 4 ∧ (∀ k, k < 4 → news[j * 4 + k]? = vs[k]?) ∧ DcV w S ds[j] vs := by
    intro m
    induction m with
    | zero => intro _; exact ⟨[], rfl, by simp, by simp, fun j _ h => by omega⟩
    | succ m ih =>
      intro hm
      obtain ⟨news, n1, n2, n3, n4⟩ := ih (by omega)
      obtain ⟨ad, P, pc, C, cc, h1, h2, h3, h4, h5, h6, h7, h8, h9⟩ := h m (by omega)
      rw [← add_n _ _ _ _ (by omega)] at h4 h5 h6
      refine ⟨news ++ [.string ds[m].name, .slice P ds[m].params.length pc, .slice C ds[m].cons.length cc, .int .i64 ds[m].place], by simp [n1]; omega, ?_, ?_, ?_⟩
      · intro ad' hA j u hu
        rw [h1] at hA
        injection hA with hA
        subst hA
        by_cases hj : j < m * 4
        · rw [List.getElem?_append_left (by omega)] at hu
          exact n2 ad h1 j u hu
        · rw [List.getElem?_append_right (by omega), n1] at hu
          obtain ⟨k, rfl⟩ : ∃ k, j = m * 4 + k := ⟨j - m * 4, by omega⟩
          rw [Nat.add_sub_cancel_left] at hu
          match k, hu with
          | 0, hu => simp at hu; rw [← hu]; exact h3
          | 1, hu => simp at hu; rw [← hu]; exact h4
          | 2, hu => simp at hu; rw [← hu]; exact h5
          | 3, hu => simp at hu; rw [← hu]; exact h6
          | k + 4, hu => simp at hu
      · intro u hu
        rcases List.mem_append.1 hu with hu | hu
        · exact n3 u hu
        · simp only [List.mem_cons, List.not_mem_nil, or_false] at hu
          rcases hu with rfl | rfl | rfl | rfl <;> rfl
      · intro j hj hjm
        by_cases hjj : j < m
        · obtain ⟨vs, v1, v2, v3⟩ := n4 j hj hjj
          refine ⟨vs, v1, fun k hk => ?_, v3⟩
          rw [List.getElem?_append_left (by omega)]
          exact v2 k hk
        · obtain rfl : j = m := by omega
          refine ⟨_, rfl, fun k hk => ?_, P, pc, C, cc, rfl, h7, h8, h9⟩
          rw [List.getElem?_append_right (by omega), n1, Nat.add_sub_cancel_left]
  obtain ⟨news, n1, n2, n3, n4⟩ := key ds.length (Nat.le_refl _)
  exact ⟨news, n1, n2, n3, fun j hj => n4 j hj hj⟩
def sUnit : ByteArray := ⟨#[117, 110, 105, 116]⟩
def sBool : ByteArray := ⟨#[98, 111, 111, 108]⟩
def sList : ByteArray := ⟨#[108, 105, 115, 116]⟩
def sA : ByteArray := ⟨#[97]⟩
def tyA : Ty := .mk 2 sA 0 []
/-- The types that there always are. -/
def base3 : List Dc := [⟨sUnit, [], [⟨⟨#[85, 110, 105, 116]⟩, []⟩], 0⟩, ⟨sBool, [], [⟨⟨#[70, 97, 108, 115, 101]⟩, []⟩, ⟨⟨#[84, 114, 117, 101]⟩, []⟩], 0⟩, ⟨sList, [sA], [⟨⟨#[78, 105, 108]⟩, []⟩, ⟨⟨#[67, 111, 110, 115]⟩, [tyA, .mk 4 sList 0 [tyA]]⟩], 0⟩]
/-- The world behind the literals. -/
def AllW (w : World) (pr : Array Value) (t : TypeId) : World :=
  ((((((((w.alloc (.cells pr t)).alloc (.cells #[.int .i64 2, .string sA, .int .i64 0, .slice none 0 0] 34)).alloc (.cells #[.string ⟨#[85, 110, 105, 116]⟩, .slice none 0 0] 85)).alloc
    (.cells #[.string ⟨#[70, 97, 108, 115, 101]⟩, .slice none 0 0, .string ⟨#[84, 114, 117, 101]⟩, .slice none 0 0] 85)).alloc (.cells #[.string sA] 9)).alloc (.cells #[.int .i64 2, .string sA, .int .i64 0, .slice none 0 0] 34)).alloc
    (.cells #[.int .i64 2, .string sA, .int .i64 0, .slice none 0 0, .int .i64 4, .string sList, .int .i64 0, .slice (some ⟨w.heap.size + 1 + 1 + 1 + 1 + 1, 0, none⟩) 1 1] 34)).alloc
    (.cells #[.string ⟨#[78, 105, 108]⟩, .slice none 0 0, .string ⟨#[67, 111, 110, 115]⟩, .slice (some ⟨w.heap.size + 1 + 1 + 1 + 1 + 1 + 1, 0, none⟩) 2 2] 85)).alloc
    (.cells #[.string sUnit, .slice none 0 0, .slice (some ⟨w.heap.size + 1 + 1, 0, none⟩) 1 1, .int .i64 0, .string sBool, .slice none 0 0, .slice (some ⟨w.heap.size + 1 + 1 + 1, 0, none⟩) 2 2, .int .i64 0,
      .string sList, .slice (some ⟨w.heap.size + 1 + 1 + 1 + 1, 0, none⟩) 1 1, .slice (some ⟨w.heap.size + 1 + 1 + 1 + 1 + 1 + 1 + 1, 0, none⟩) 2 2, .int .i64 0] 83)
def allV (w : World) : Value := .slice (some ⟨w.heap.size + 1 + 1 + 1 + 1 + 1 + 1 + 1 + 1, 0, none⟩) 3 3
def allX (w : World) : List Value := [.string sUnit, .slice none 0 0, .slice (some ⟨w.heap.size + 1 + 1, 0, none⟩) 1 1, .int .i64 0, .string sBool, .slice none 0 0, .slice (some ⟨w.heap.size + 1 + 1 + 1, 0, none⟩) 2 2, .int .i64 0,
      .string sList, .slice (some ⟨w.heap.size + 1 + 1 + 1 + 1, 0, none⟩) 1 1, .slice (some ⟨w.heap.size + 1 + 1 + 1 + 1 + 1 + 1 + 1, 0, none⟩) 2 2, .int .i64 0]
theorem AllW.size (w : World) (pr : Array Value) (t : TypeId) : (AllW w pr t).heap.size = w.heap.size + 9 := by unfold AllW; simp
theorem AllW.below (w : World) (pr : Array Value) (t : TypeId) : Below w.heap.size w (AllW w pr t) := by
  unfold AllW
  go_grown
theorem TAt.var_ {w : World} {S : Nat → Prop} : TAt w S tyA (.agg #[.int .i64 2, .string sA, .int .i64 0, .slice none 0 0]) := TAt.make rfl (Nat.le_refl _) (Nat.zero_le _) (fun _ => ⟨rfl, rfl⟩) (by rw [TRow]; trivial) (by decide) (by decide)
set_option maxRecDepth 100000 in
theorem all_lits (w : World) (pr : Array Value) (t : TypeId) (ds : List Dc) : GB DcV 83 4 w.heap.size (base3 ++ ds) 3 (allV w) (allX w) (AllW w pr t) := by
  have b2 : Blk (AllW w pr t) (w.heap.size + 1 + 1) 85 #[.string ⟨#[85, 110, 105, 116]⟩, .slice none 0 0] := by unfold AllW; repeat (first | exact Blk.new' (by simp) _ _ | refine Blk.alloc ?_ _)
  have b3 : Blk (AllW w pr t) (w.heap.size + 1 + 1 + 1) 85 #[.string ⟨#[70, 97, 108, 115, 101]⟩, .slice none 0 0, .string ⟨#[84, 114, 117, 101]⟩, .slice none 0 0] := by unfold AllW; repeat (first | exact Blk.new' (by simp) _ _ | refine Blk.alloc ?_ _)
  have b4 : Blk (AllW w pr t) (w.heap.size + 1 + 1 + 1 + 1) 9 #[.string sA] := by unfold AllW; repeat (first | exact Blk.new' (by simp) _ _ | refine Blk.alloc ?_ _)
  have b5 : Blk (AllW w pr t) (w.heap.size + 1 + 1 + 1 + 1 + 1) 34 #[.int .i64 2, .string sA, .int .i64 0, .slice none 0 0] := by unfold AllW; repeat (first | exact Blk.new' (by simp) _ _ | refine Blk.alloc ?_ _)
  have b6 : Blk (AllW w pr t) (w.heap.size + 1 + 1 + 1 + 1 + 1 + 1) 34 #[.int .i64 2, .string sA, .int .i64 0, .slice none 0 0, .int .i64 4, .string sList, .int .i64 0, .slice (some ⟨w.heap.size + 1 + 1 + 1 + 1 + 1, 0, none⟩) 1 1] := by unfold AllW; repeat (first | exact Blk.new' (by simp) _ _ | refine Blk.alloc ?_ _)
  have b7 : Blk (AllW w pr t) (w.heap.size + 1 + 1 + 1 + 1 + 1 + 1 + 1) 85 #[.string ⟨#[78, 105, 108]⟩, .slice none 0 0, .string ⟨#[67, 111, 110, 115]⟩, .slice (some ⟨w.heap.size + 1 + 1 + 1 + 1 + 1 + 1, 0, none⟩) 2 2] := by unfold AllW; repeat (first | exact Blk.new' (by simp) _ _ | refine Blk.alloc ?_ _)
  have hS : ∀ b, w.heap.size ≤ b → b < w.heap.size + 8 → (w.heap.size ≤ b ∧ (allV w).ownBlock ≠ some b) := fun b h1 h2 => ⟨h1, fun e => by unfold allV at e; simp [Value.ownBlock] at e; omega⟩
  have hm1 : (1 : Nat) ≤ maxLen := by unfold maxLen; omega
  have hm2 : (2 : Nat) ≤ maxLen := by unfold maxLen; omega
  generalize hS2 : (fun b => w.heap.size ≤ b ∧ (allV w).ownBlock ≠ some b) = S at hS
  have hSb : ∀ b, w.heap.size ≤ b → b < w.heap.size + 8 → S b := fun b h1 h2 => by rw [← hS2]; exact hS b h1 h2
  have hrow : (AllW w pr t).ownsRow w.heap.size 83 4 (allV w) 3 (allX w) := by
    unfold AllW allV allX
    have := World.ownsRow_lit (base := w.heap.size) (e := 83) (size := 4) ((((((((w.alloc (.cells pr t)).alloc (.cells #[.int .i64 2, .string sA, .int .i64 0, .slice none 0 0] 34)).alloc (.cells #[.string ⟨#[85, 110, 105, 116]⟩, .slice none 0 0] 85)).alloc
    (.cells #[.string ⟨#[70, 97, 108, 115, 101]⟩, .slice none 0 0, .string ⟨#[84, 114, 117, 101]⟩, .slice none 0 0] 85)).alloc (.cells #[.string sA] 9)).alloc (.cells #[.int .i64 2, .string sA, .int .i64 0, .slice none 0 0] 34)).alloc
    (.cells #[.int .i64 2, .string sA, .int .i64 0, .slice none 0 0, .int .i64 4, .string sList, .int .i64 0, .slice (some ⟨w.heap.size + 1 + 1 + 1 + 1 + 1, 0, none⟩) 1 1] 34)).alloc
    (.cells #[.string ⟨#[78, 105, 108]⟩, .slice none 0 0, .string ⟨#[67, 111, 110, 115]⟩, .slice (some ⟨w.heap.size + 1 + 1 + 1 + 1 + 1 + 1, 0, none⟩) 2 2] 85)) #[.string sUnit, .slice none 0 0, .slice (some ⟨w.heap.size + 1 + 1, 0, none⟩) 1 1, .int .i64 0, .string sBool, .slice none 0 0, .slice (some ⟨w.heap.size + 1 + 1 + 1, 0, none⟩) 2 2, .int .i64 0,
      .string sList, .slice (some ⟨w.heap.size + 1 + 1 + 1 + 1, 0, none⟩) 1 1, .slice (some ⟨w.heap.size + 1 + 1 + 1 + 1 + 1 + 1 + 1, 0, none⟩) 2 2, .int .i64 0] 3 (by simp; omega) (by unfold maxLen; omega) rfl
    simpa using this
  generalize AllW w pr t = W at *
  refine ⟨hrow, fun j hj hji => ?_⟩
  rw [hS2]
  clear hS2 hS hrow
  match j, hji with
  | 0, _ =>
    refine ⟨[.string sUnit, .slice none 0 0, .slice (some ⟨w.heap.size + 1 + 1, 0, none⟩) 1 1, .int .i64 0], rfl, fun k hk => by match k, hk with | 0, _ => rfl | 1, _ => rfl | 2, _ => rfl | 3, _ => rfl, none, 0, _, 1, rfl, ⟨Nat.le_refl _, Nat.zero_le _, fun _ => ⟨rfl, rfl⟩, fun i hi => by cases hi⟩, ⟨Nat.le_refl _, hm1, fun h => (by cases h), ?_⟩, rfl⟩
    intro i hi
    match i, hi with
    | 0, _ => exact ⟨_, none, 0, rfl, hSb _ (by dsimp only; omega) (by dsimp only; omega), b2.cell 0, b2.cell 1, Nat.le_refl _, Nat.zero_le _, fun _ => ⟨rfl, rfl⟩, (show TRow W S [] none 0 from by rw [TRow]; trivial)⟩
  | 1, _ =>
    refine ⟨[.string sBool, .slice none 0 0, .slice (some ⟨w.heap.size + 1 + 1 + 1, 0, none⟩) 2 2, .int .i64 0], rfl, fun k hk => by match k, hk with | 0, _ => rfl | 1, _ => rfl | 2, _ => rfl | 3, _ => rfl, none, 0, _, 2, rfl, ⟨Nat.le_refl _, Nat.zero_le _, fun _ => ⟨rfl, rfl⟩, fun i hi => by cases hi⟩, ⟨Nat.le_refl _, hm2, fun h => (by cases h), ?_⟩, rfl⟩
    intro i hi
    match i, hi with
    | 0, _ => exact ⟨_, none, 0, rfl, hSb _ (by dsimp only; omega) (by dsimp only; omega), b3.cell 0, b3.cell 1, Nat.le_refl _, Nat.zero_le _, fun _ => ⟨rfl, rfl⟩, (show TRow W S [] none 0 from by rw [TRow]; trivial)⟩
    | 1, _ => exact ⟨_, none, 0, rfl, hSb _ (by dsimp only; omega) (by dsimp only; omega), b3.cell 2, b3.cell 3, Nat.le_refl _, Nat.zero_le _, fun _ => ⟨rfl, rfl⟩, (show TRow W S [] none 0 from by rw [TRow]; trivial)⟩
  | 2, _ =>
    refine ⟨[.string sList, .slice (some ⟨w.heap.size + 1 + 1 + 1 + 1, 0, none⟩) 1 1, .slice (some ⟨w.heap.size + 1 + 1 + 1 + 1 + 1 + 1 + 1, 0, none⟩) 2 2, .int .i64 0], rfl, fun k hk => by match k, hk with | 0, _ => rfl | 1, _ => rfl | 2, _ => rfl | 3, _ => rfl, _, 1, _, 2, rfl, ⟨Nat.le_refl _, hm1, fun h => (by cases h), ?_⟩, ⟨Nat.le_refl _, hm2, fun h => (by cases h), ?_⟩, rfl⟩
    · intro i hi
      match i, hi with
      | 0, _ => exact ⟨_, rfl, hSb _ (by dsimp only; omega) (by dsimp only; omega), b4.cell 0⟩
    · have l5 : TAt W S (.mk 4 sList 0 [tyA]) (.agg #[.int .i64 4, .string sList, .int .i64 0, .slice (some ⟨w.heap.size + 1 + 1 + 1 + 1 + 1, 0, none⟩) 1 1]) :=
        TAt.make rfl (Nat.le_refl _) hm1 (fun h => (by cases h)) (Blk.row1 b5 (hSb _ (by omega) (by omega)) TAt.var_) (by decide) (by decide)
      intro i hi
      match i, hi with
      | 0, _ => exact ⟨_, none, 0, rfl, hSb _ (by dsimp only; omega) (by dsimp only; omega), b7.cell 0, b7.cell 1, Nat.le_refl _, Nat.zero_le _, fun _ => ⟨rfl, rfl⟩, (show TRow W S [] none 0 from by rw [TRow]; trivial)⟩
      | 1, _ =>
        refine ⟨_, some ⟨w.heap.size + 1 + 1 + 1 + 1 + 1 + 1, 0, none⟩, 2, rfl, hSb _ (by dsimp only; omega) (by dsimp only; omega), b7.cell 2, b7.cell 3, Nat.le_refl _, hm2, fun h => (by cases h), ?_⟩
        dsimp only [base3]
        show TRow W S [tyA, .mk 4 sList 0 [tyA]] _ 0
        rw [TRow, TRow, TRow]
        exact ⟨⟨_, _, _, _, _, rfl, hSb _ (by dsimp only; omega) (by dsimp only; omega), b6.cell 0, b6.cell 1, b6.cell 2, b6.cell 3, TAt.var_⟩, ⟨_, _, _, _, _, rfl, hSb _ (by dsimp only; omega) (by dsimp only; omega), b6.cell 4, b6.cell 5, b6.cell 6, b6.cell 7, l5⟩, trivial⟩
theorem all_done {w w1 w2 : World} {pr : Array Value} {t : TypeId} {ds : List Dc} {news : List Value} {A6 : Option Addr} {m6 c6 : Nat} (hb : Below (AllW w pr t).heap.size (AllW w pr t) w1)
    (hk : ∀ j, (hj : j < ds.length) → ∃ vs : List Value, vs.length = 4 ∧ (∀ k, k < 4 → news[j * 4 + k]? = vs[k]?) ∧ DcV w1 (fun b => (AllW w pr t).heap.size ≤ b) ds[j] vs)
    (hr : w2.ownsRow w.heap.size 83 4 (.slice A6 m6 c6) (3 + ds.length) (allX w ++ news)) (hg : w1.grownBy w2 (allV w).ownBlock) (hn : ∀ g, (Value.slice A6 m6 c6).ownBlock = some g → (allV w).ownBlock = some g ∨ w1.heap.size ≤ g) :
    DcsAt w2 (fun b => w.heap.size ≤ b) (base3 ++ ds) (.slice A6 m6 c6) := by
  have hz := AllW.size w pr t
  refine (GB.more DcV.keeps ((all_lits w pr t ds).up DcV.keeps hb) (m := ds.length) (S := fun b => (AllW w pr t).heap.size ≤ b) (fun j hj hj2 => ?_) (fun b hb2 => ⟨by omega, fun e => by unfold allV at e; simp [Value.ownBlock] at e; omega⟩) hr hg hn).decls (by simp [base3]; omega)
  obtain ⟨vs, h1, h2, h3⟩ := hk j hj
  exact ⟨vs, h1, h2, of_get (P := fun x => DcV _ _ x _) (by rw [List.getElem_append_right (by simp [base3])]; simp [base3]) h3⟩
theorem all_below {w w1 w2 : World} {pr : Array Value} {t : TypeId} (hb : Below (AllW w pr t).heap.size (AllW w pr t) w1) (hg : w1.grownBy w2 (allV w).ownBlock) : Below w.heap.size w w2 := by
  have hz := AllW.size w pr t
  have h1 := hb.size
  exact (below_hop hb (AllW.below w pr t)).grown hg (by omega) (fun k e => by unfold allV at e; simp [Value.ownBlock] at e; omega)
set_option maxHeartbeats 8000000 in
set_option maxRecDepth 100000 in
theorem ref14_All (ds : List Dc) (A : Option Addr) (c : Nat) (S : Nat → Prop) (w : World) (hlim : Lim ds) (hv : DcsAt w S ds (.slice A ds.length c)) :
    Calls Try.prog 25 #[.agg #[.slice A ds.length c, .int .i64 0, .string ⟨#[]⟩, .string ⟨#[]⟩, .int .i64 0, .slice none 0 0, .slice none 0 0, .int .i64 0]] w (CopyDP (base3 ++ ds) w) := by
  have H := hid (And.intro hv hlim)
  clear hv hlim
  go_enter Try.func25, Try.ntmps25
  go_wp2_with (first
    | (go_at_call 27; go_must (refine (ref12_CopyDecls ds _ S _ H.out.2 (H.out.1.up (by go_grown : Below w.heap.size w _))).mono ?_); rintro e w1 ⟨⟨v, rfl, hv⟩, b1⟩; go_must (have b : Hid (Below (AllW w #[.slice A ds.length c, .int .i64 0, .string ⟨#[]⟩, .string ⟨#[]⟩, .int .i64 0, .slice none 0 0, .slice none 0 0, .int .i64 0] 59).heap.size (AllW w #[.slice A ds.length c, .int .i64 0, .string ⟨#[]⟩, .string ⟨#[]⟩, .int .i64 0, .slice none 0 0, .slice none 0 0, .int .i64 0] 59) w1) := hid b1; obtain ⟨A5, c5, rfl, h2, h3, h4, h5⟩ := hv; have J := hid (And.intro h4 h5.news); clear h2 h3 h4 h5 b1))
    | (at_builtin; go_must (obtain ⟨news, n1, n2, n3, n4⟩ := J.out.2; refine wpList_appM Try.underlying51 info_decl rfl (by omega) (by omega) (by rfl) _ _ (by rfl) w.heap.size (by rfl) ((all_lits w _ _ ds).up DcV.keeps b.out).row (by rfl) (len0 J.out.1) n1 n2 n3 (by have := H.out.2.1; omega) (by have := b.out.size; rw [AllW.size] at this; omega) ?_); intro v' w2 hr hg hn; go_must (obtain ⟨A6, c6, rfl, _⟩ := row_sliceG hr; have N := hid (And.intro (all_done b.out n4 hr hg hn) (all_below b.out hg)); clear hr hg hn)))
  go_ret
  exact ⟨⟨_, rfl, N.out.1⟩, N.out.2⟩
end Go.Proofs.Ytnlifgcnmhakiaa
