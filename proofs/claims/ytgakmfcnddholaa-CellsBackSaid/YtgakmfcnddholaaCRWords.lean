/-
  THE WALK OF athanorref27.Words: the same as cells.Words.
-/
import Derived.Test.YtgakmfcnddholaaCRPut
import Derived.Test.YtgakmfcnddholaaCWords
namespace Go.Proofs.Ytgakmfcnddholaa
open Go.ChangeShapes Go.WideShapes Go.ChangeAt Go.RowKit

set_option maxRecDepth 100000 in
theorem rwords_arg (b : Bool) (n : Int) (A : Option Addr) (m c : Nat) (x : Int) (w : World) (hx : x < 0 ∨ ¬ x < 0 ∧ x > 262144) :
    Calls Try.prog 16 #[.agg #[.bool b, .int .i64 n, .slice A m c], .int .i64 x] w (WordsP ([], 0, 1) w) := by
  rcases hx with hx | ⟨hx, hx2⟩
  all_goals
    go_enter Try.func16, Try.ntmps16
    go_wp2
    refine bodyPost_ret (results_tmp3 rfl _ _ _) rfl ?_
    exact ⟨none, 0, rfl, OwnI.nil _ _, by go_grown⟩
set_option maxRecDepth 100000 in
theorem rwords_deny (B : Nat) (t : Tr) (b : Bool) (n : Int) (A : Option Addr) (m c : Nat) (x : Int) (w : World) (h0 : ¬ x < 0) (h1 : ¬ x > 262144) (hB : B ≤ w.heap.size) (hv : VAt w B t (.agg #[.bool b, .int .i64 n, .slice A m c])) (hmay : mayB t 1 = false) :
    Calls Try.prog 16 #[.agg #[.bool b, .int .i64 n, .slice A m c], .int .i64 x] w (WordsP ([], 0, 270) w) := by
  have H := hid (And.intro hB (And.intro hv hmay))
  have hnot : ∀ (x : Bool) (w : World), (Op.unary .not (.bool x)).run Try.prog w = .ok (.bool (!x)) w := fun _ _ => rfl
  clear hB hv hmay
  go_enter Try.func16, Try.ntmps16
  go_wp2_with (go_at_call 33; go_must (refine (ref27_may _ t (Nat.le_refl _) B 1 _ _ _ (by omega) (by omega) (by have := H.out.1; simp; omega) (H.out.2.1.keep (fun k hk => Below.heap_alloc _ _ _ (by have := H.out.1; omega)))).mono ?_); rw [H.out.2.2]; rintro e w1 ⟨rfl, b1⟩)
  refine bodyPost_ret (results_tmp3 rfl _ _ _) rfl ?_
  exact ⟨none, 0, rfl, OwnI.nil _ _, below_hop b1 (by go_grown : Below w.heap.size w _)⟩
set_option maxHeartbeats 4000000 in
set_option maxRecDepth 100000 in
theorem rwords_main (B : Nat) (t : Tr) (b : Bool) (n : Int) (A : Option Addr) (m c p : Nat) (w : World) (hp : p ≤ 262144) (hB : B ≤ w.heap.size) (hv : VAt w B t (.agg #[.bool b, .int .i64 n, .slice A m c])) (hmay : mayB t 1 = true) (hbig : (putT t p).2.2 ≤ 900000) :
    Calls Try.prog 16 #[.agg #[.bool b, .int .i64 n, .slice A m c], .int .i64 p] w (WordsP (wordsM t p) w) := by
  have q0 : ¬ (p : Int) < 0 := by omega
  have q1 : ¬ (p : Int) > 262144 := by omega
  obtain ⟨s1, s2, s3⟩ := putR_same t p
  have hl := putR_len t p
  have e1 : IntKind.i64.wrap ((p : Int) + ((putR t p).1.length : Nat)) = p + ((putR t p).1.length : Nat) := IntWalk.i64_in _ (by omega)
  have H := hid (And.intro hB (And.intro hv (And.intro hmay (And.intro s1 (And.intro s2 (And.intro s3 (And.intro hl hbig)))))))
  have hnot : ∀ (x : Bool) (w : World), (Op.unary .not (.bool x)).run Try.prog w = .ok (.bool (!x)) w := fun _ _ => rfl
  clear hB hv hmay s1 s2 s3 hl hbig
  by_cases hfit : (p : Int) + ((putR t p).1.length : Nat) > 262144
  · go_enter Try.func16, Try.ntmps16
    go_wp2_with (first
      | (go_at_call 33; go_must (refine (ref27_may _ t (Nat.le_refl _) B 1 _ _ _ (by omega) (by omega) (by have := H.out.1; simp; omega) (H.out.2.1.keep (fun k hk => Below.heap_alloc _ _ _ (by have := H.out.1; omega)))).mono ?_); rw [H.out.2.2.1]; rintro e w1 ⟨rfl, b1⟩; go_must (have hb := below_hop b1 (by go_grown : Below w.heap.size w _); have z0 : w1.cell? ⟨w.heap.size, 0, none⟩ = some (.bool b) := (Blk.below (Blk.new w 33 #[.bool b, .int .i64 n, .slice A m c]) b1 (by simp)).cell 0; have z1 : w1.cell? ⟨w.heap.size, 1, none⟩ = some (.int .i64 n) := (Blk.below (Blk.new w 33 #[.bool b, .int .i64 n, .slice A m c]) b1 (by simp)).cell 1; have z2 : w1.cell? ⟨w.heap.size, 2, none⟩ = some (.slice A m c) := (Blk.below (Blk.new w 33 #[.bool b, .int .i64 n, .slice A m c]) b1 (by simp)).cell 2))
      | (go_at_call 34; go_must (refine (ref27_put w.heap.size B p H.out.1 _ t (Nat.le_refl _) 1 p _ none 0 0 [] _ (OwnI.nil _ _) rfl hb.size (H.out.2.1.keep (fun k hk => hb.block k (by have := H.out.1; omega))) (by rw [H.out.2.2.2.1]; exact H.out.2.2.2.2.2.2.2) H.out.2.2.1).mono ?_); rintro e w2 ⟨A5, c5, rfl, g1, g2, g3⟩; go_must (simp only [Nat.zero_add, List.nil_append] at g1 ⊢)))
    refine bodyPost_ret (results_tmp3 rfl _ _ _) rfl ?_
    have e : wordsM t p = ([], 0, 3) := if_pos (by have := H.out.2.2.2.1; have := H.out.2.2.2.2.2.2.1; omega)
    rw [e]
    exact ⟨none, 0, rfl, OwnI.nil _ _, hb.trans (g2.below hb.size (by rintro b ⟨a, h, _⟩; cases h))⟩
  · go_enter Try.func16, Try.ntmps16
    go_wp2_with (first
      | (go_at_call 33; go_must (refine (ref27_may _ t (Nat.le_refl _) B 1 _ _ _ (by omega) (by omega) (by have := H.out.1; simp; omega) (H.out.2.1.keep (fun k hk => Below.heap_alloc _ _ _ (by have := H.out.1; omega)))).mono ?_); rw [H.out.2.2.1]; rintro e w1 ⟨rfl, b1⟩; go_must (have hb := below_hop b1 (by go_grown : Below w.heap.size w _); have z0 : w1.cell? ⟨w.heap.size, 0, none⟩ = some (.bool b) := (Blk.below (Blk.new w 33 #[.bool b, .int .i64 n, .slice A m c]) b1 (by simp)).cell 0; have z1 : w1.cell? ⟨w.heap.size, 1, none⟩ = some (.int .i64 n) := (Blk.below (Blk.new w 33 #[.bool b, .int .i64 n, .slice A m c]) b1 (by simp)).cell 1; have z2 : w1.cell? ⟨w.heap.size, 2, none⟩ = some (.slice A m c) := (Blk.below (Blk.new w 33 #[.bool b, .int .i64 n, .slice A m c]) b1 (by simp)).cell 2))
      | (go_at_call 34; go_must (refine (ref27_put w.heap.size B p H.out.1 _ t (Nat.le_refl _) 1 p _ none 0 0 [] _ (OwnI.nil _ _) rfl hb.size (H.out.2.1.keep (fun k hk => hb.block k (by have := H.out.1; omega))) (by rw [H.out.2.2.2.1]; exact H.out.2.2.2.2.2.2.2) H.out.2.2.1).mono ?_); rintro e w2 ⟨A5, c5, rfl, g1, g2, g3⟩; go_must (simp only [Nat.zero_add, List.nil_append] at g1 ⊢)))
    refine bodyPost_ret (results_tmp3 rfl _ _ _) rfl ?_
    have hf : (putT t p).2.2 ≤ 262144 := by have := H.out.2.2.2.1; have := H.out.2.2.2.2.2.2.1; omega
    have e : wordsM t p = ((putR t p).1, (putR t p).2.1, 0) := by rw [H.out.2.2.2.2.2.1 hf]; exact if_neg (by omega)
    rw [e]
    exact ⟨A5, c5, rfl, g1, hb.trans (g2.below hb.size (by rintro b ⟨a, h, _⟩; cases h))⟩
/-- athanorref27.Words, of whatever value. -/
theorem ref27_Words (B : Nat) (t : Tr) (v : Value) (x : Int) (w : World) (hB : B ≤ w.heap.size) (hv : VAt w B t v) (hbig : 0 ≤ x → x ≤ 262144 → (putT t x.toNat).2.2 ≤ 900000) :
    Calls Try.prog 16 #[v, .int .i64 x] w (WordsP (wordsR t x) w) := by
  have hv0 := hv
  obtain ⟨b, n, us⟩ := t
  obtain ⟨A, c, rfl, _⟩ := hv.parts
  unfold wordsR
  by_cases hx : x < 0 ∨ 262144 < x
  · rw [if_pos hx]
    exact rwords_arg b n A us.length c x w (by omega)
  · rw [if_neg hx]
    cases hm : mayB (.mk b n us) 1 with
    | false =>
      rw [if_pos rfl]
      exact rwords_deny B _ b n A us.length c x w (by omega) (by omega) hB hv0 hm
    | true =>
      rw [if_neg (by simp)]
      obtain ⟨p, rfl⟩ : ∃ p : Nat, x = p := ⟨x.toNat, by omega⟩
      have := rwords_main B _ b n A us.length c p w (by omega) hB hv0 hm (by have := hbig (by omega) (by omega); simpa using this)
      simpa [wordsM] using this
mutual
theorem putT_nodes : ∀ (t : Tr) (p : Nat), (putT t p).1.length + 1 ≤ 2 * nodes t
  | .mk b n us, p => by
    have := putL_nodes us p
    have := putL_length us p
    rw [nodes]
    cases b with
    | true => rw [putT_int]; simp; omega
    | false => rw [putT_node]; simp; omega
theorem putL_nodes : ∀ (us : List Tr) (p : Nat), (putL us p).1.length + us.length ≤ 2 * nodesL us
  | [], p => by rw [putL_nil]; simp
  | t :: ts, p => by
    have := putT_nodes t p
    have := putL_nodes ts (putT t p).2.2
    rw [putL_cons, nodesL]
    simp
    omega
end
end Go.Proofs.Ytgakmfcnddholaa
