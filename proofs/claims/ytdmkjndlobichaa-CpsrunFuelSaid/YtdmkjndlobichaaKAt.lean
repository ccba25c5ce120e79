/-
  TERMS IN MEMORY, BY THEIR FOOTPRINT.
-/
import Derived.Test.YtdmkjndlobichaaKTree
import Derived.Test.YtdmkjndlobichaaECo
namespace Go.Proofs.Ytdmkjndlobichaa
set_option linter.all false
open Go.ChangeShapes Go.WideShapes Go.ChangeAt Go.RowKit
open Tm (Te)

theorem add_mul (ad : Addr) (i m j : Nat) (hj : 0 < j) : (⟨(ad.add (i * m)).block, (ad.add (i * m)).off + j, none⟩ : Addr) = ad.add (i * m + j) := by
  obtain ⟨b, o, s⟩ := ad
  unfold Addr.add
  rw [if_neg (show ¬ i * m + j = 0 by omega)]
  split
  · rename_i h
    simp [h]
  · simp; omega
/-- A row of atoms. -/
def AtAt (w : World) (S : Nat → Prop) (ats : List (Bool × Int)) (A : Option Addr) (c : Nat) : Prop :=
  Sz ats A c ∧ ∀ j, (h : j < ats.length) → ∃ ad, A = some ad ∧ S ad.block ∧ w.cell? (ad.add (j * 2)) = some (.bool ats[j].1) ∧ w.cell? ⟨(ad.add (j * 2)).block, (ad.add (j * 2)).off + 1, none⟩ = some (.int .i64 ats[j].2) ∧ (Lit.int .i64 ats[j].2).wf = true
theorem AtAt.keep {w w' : World} {S T : Nat → Prop} {ats : List (Bool × Int)} {A : Option Addr} {c : Nat} (h : AtAt w S ats A c) (hk : ∀ k, S k → k < w.heap.size → w'.heap[k]? = w.heap[k]? ∧ T k) : AtAt w' T ats A c :=
  ⟨h.1, fun j hj => by
    obtain ⟨ad, h1, h2, h3, h4, h5⟩ := h.2 j hj
    have eb := add_block ad (j * 2)
    have hl : ad.block < w.heap.size := by have := cell_lt h3; omega
    exact ⟨ad, h1, (hk _ h2 hl).2, cell_of (hk _ h2 hl).1 eb h3, cell_of (p := ⟨(ad.add (j * 2)).block, (ad.add (j * 2)).off + 1, none⟩) (hk _ h2 hl).1 eb h4, h5⟩⟩
def Wf3 (k x n : Int) : Prop := (Lit.int .i64 k).wf = true ∧ (Lit.int .i64 x).wf = true ∧ (Lit.int .i64 n).wf = true
mutual
/-- A value that reads ats a term, its rows in blocks of S. -/
def TAt (w : World) (S : Nat → Prop) : Te → Value → Prop
  | .mk k x n i ts ats fh fb us, v => (∃ T tc A ac F fc U uc, v = .agg #[.int .i64 k, .int .i64 x, .int .i64 n, .bool i, .slice T ts.length tc, .slice A ats.length ac, .slice F fb.length fc, .slice U us.length uc] ∧ IAt w S ts T tc ∧ AtAt w S ats A ac ∧ Sz fb F fc ∧ fh.length = fb.length ∧ FRow w S fh fb F 0 ∧ Sz us U uc ∧ TRow w S us U 0) ∧ Wf3 k x n
def TRow (w : World) (S : Nat → Prop) : List Te → Option Addr → Nat → Prop
  | [], _, _ => True
  | t :: ts, A, j => (∃ ad v0 v1 v2 v3 v4 v5 v6 v7, A = some ad ∧ S ad.block ∧ ((w).cell? (ad.add (j * 8)) = some (v0) ∧ (w).cell? ⟨(ad.add (j * 8)).block, (ad.add (j * 8)).off + 1, none⟩ = some (v1) ∧ (w).cell? ⟨(ad.add (j * 8)).block, (ad.add (j * 8)).off + 2, none⟩ = some (v2) ∧ (w).cell? ⟨(ad.add (j * 8)).block, (ad.add (j * 8)).off + 3, none⟩ = some (v3) ∧ (w).cell? ⟨(ad.add (j * 8)).block, (ad.add (j * 8)).off + 4, none⟩ = some (v4) ∧ (w).cell? ⟨(ad.add (j * 8)).block, (ad.add (j * 8)).off + 5, none⟩ = some (v5) ∧ (w).cell? ⟨(ad.add (j * 8)).block, (ad.add (j * 8)).off + 6, none⟩ = some (v6) ∧ (w).cell? ⟨(ad.add (j * 8)).block, (ad.add (j * 8)).off + 7, none⟩ = some (v7)) ∧ TAt w S t (.agg #[v0, v1, v2, v3, v4, v5, v6, v7])) ∧ TRow w S ts A (j + 1)
def FRow (w : World) (S : Nat → Prop) : List (Int × List Int) → List Te → Option Addr → Nat → Prop
  | _, [], _, _ => True
  | [], _ :: _, _, _ => False
  | h :: hs, b :: bs, A, j => (∃ ad P pc v0 v1 v2 v3 v4 v5 v6 v7, A = some ad ∧ S ad.block ∧ ((w).cell? (ad.add (j * 10)) = some (.int .i64 h.1) ∧ (w).cell? ⟨(ad.add (j * 10)).block, (ad.add (j * 10)).off + 1, none⟩ = some (.slice P h.2.length pc) ∧ (w).cell? ⟨(ad.add (j * 10)).block, (ad.add (j * 10)).off + 2, none⟩ = some (v0) ∧ (w).cell? ⟨(ad.add (j * 10)).block, (ad.add (j * 10)).off + 3, none⟩ = some (v1) ∧ (w).cell? ⟨(ad.add (j * 10)).block, (ad.add (j * 10)).off + 4, none⟩ = some (v2) ∧ (w).cell? ⟨(ad.add (j * 10)).block, (ad.add (j * 10)).off + 5, none⟩ = some (v3) ∧ (w).cell? ⟨(ad.add (j * 10)).block, (ad.add (j * 10)).off + 6, none⟩ = some (v4) ∧ (w).cell? ⟨(ad.add (j * 10)).block, (ad.add (j * 10)).off + 7, none⟩ = some (v5) ∧ (w).cell? ⟨(ad.add (j * 10)).block, (ad.add (j * 10)).off + 8, none⟩ = some (v6) ∧ (w).cell? ⟨(ad.add (j * 10)).block, (ad.add (j * 10)).off + 9, none⟩ = some (v7)) ∧ IAt w S h.2 P pc ∧ (Lit.int .i64 h.1).wf = true ∧ TAt w S b (.agg #[v0, v1, v2, v3, v4, v5, v6, v7])) ∧ FRow w S hs bs A (j + 1)
end
theorem at8_keep {w w' : World} {p : Addr} {b : Nat} {v0 v1 v2 v3 v4 v5 v6 v7 : Value} (hk : w'.heap[b]? = w.heap[b]?) (hp : p.block = b) (h : (w).cell? (p) = some (v0) ∧ (w).cell? ⟨(p).block, (p).off + 1, none⟩ = some (v1) ∧ (w).cell? ⟨(p).block, (p).off + 2, none⟩ = some (v2) ∧ (w).cell? ⟨(p).block, (p).off + 3, none⟩ = some (v3) ∧ (w).cell? ⟨(p).block, (p).off + 4, none⟩ = some (v4) ∧ (w).cell? ⟨(p).block, (p).off + 5, none⟩ = some (v5) ∧ (w).cell? ⟨(p).block, (p).off + 6, none⟩ = some (v6) ∧ (w).cell? ⟨(p).block, (p).off + 7, none⟩ = some (v7)) : (w').cell? (p) = some (v0) ∧ (w').cell? ⟨(p).block, (p).off + 1, none⟩ = some (v1) ∧ (w').cell? ⟨(p).block, (p).off + 2, none⟩ = some (v2) ∧ (w').cell? ⟨(p).block, (p).off + 3, none⟩ = some (v3) ∧ (w').cell? ⟨(p).block, (p).off + 4, none⟩ = some (v4) ∧ (w').cell? ⟨(p).block, (p).off + 5, none⟩ = some (v5) ∧ (w').cell? ⟨(p).block, (p).off + 6, none⟩ = some (v6) ∧ (w').cell? ⟨(p).block, (p).off + 7, none⟩ = some (v7) := by
  obtain ⟨h0, h1, h2, h3, h4, h5, h6, h7⟩ := h
  exact ⟨cell_of hk hp h0, cell_of hk (p := ⟨p.block, p.off + 1, none⟩) hp h1, cell_of hk (p := ⟨p.block, p.off + 2, none⟩) hp h2, cell_of hk (p := ⟨p.block, p.off + 3, none⟩) hp h3, cell_of hk (p := ⟨p.block, p.off + 4, none⟩) hp h4, cell_of hk (p := ⟨p.block, p.off + 5, none⟩) hp h5, cell_of hk (p := ⟨p.block, p.off + 6, none⟩) hp h6, cell_of hk (p := ⟨p.block, p.off + 7, none⟩) hp h7⟩
theorem at10_keep {w w' : World} {p : Addr} {b : Nat} {v0 v1 v2 v3 v4 v5 v6 v7 v8 v9 : Value} (hk : w'.heap[b]? = w.heap[b]?) (hp : p.block = b) (h : (w).cell? (p) = some (v0) ∧ (w).cell? ⟨(p).block, (p).off + 1, none⟩ = some (v1) ∧ (w).cell? ⟨(p).block, (p).off + 2, none⟩ = some (v2) ∧ (w).cell? ⟨(p).block, (p).off + 3, none⟩ = some (v3) ∧ (w).cell? ⟨(p).block, (p).off + 4, none⟩ = some (v4) ∧ (w).cell? ⟨(p).block, (p).off + 5, none⟩ = some (v5) ∧ (w).cell? ⟨(p).block, (p).off + 6, none⟩ = some (v6) ∧ (w).cell? ⟨(p).block, (p).off + 7, none⟩ = some (v7) ∧ (w).cell? ⟨(p).block, (p).off + 8, none⟩ = some (v8) ∧ (w).cell? ⟨(p).block, (p).off + 9, none⟩ = some (v9)) : (w').cell? (p) = some (v0) ∧ (w').cell? ⟨(p).block, (p).off + 1, none⟩ = some (v1) ∧ (w').cell? ⟨(p).block, (p).off + 2, none⟩ = some (v2) ∧ (w').cell? ⟨(p).block, (p).off + 3, none⟩ = some (v3) ∧ (w').cell? ⟨(p).block, (p).off + 4, none⟩ = some (v4) ∧ (w').cell? ⟨(p).block, (p).off + 5, none⟩ = some (v5) ∧ (w').cell? ⟨(p).block, (p).off + 6, none⟩ = some (v6) ∧ (w').cell? ⟨(p).block, (p).off + 7, none⟩ = some (v7) ∧ (w').cell? ⟨(p).block, (p).off + 8, none⟩ = some (v8) ∧ (w').cell? ⟨(p).block, (p).off + 9, none⟩ = some (v9) := by
  obtain ⟨h0, h1, h2, h3, h4, h5, h6, h7, h8, h9⟩ := h
  exact ⟨cell_of hk hp h0, cell_of hk (p := ⟨p.block, p.off + 1, none⟩) hp h1, cell_of hk (p := ⟨p.block, p.off + 2, none⟩) hp h2, cell_of hk (p := ⟨p.block, p.off + 3, none⟩) hp h3, cell_of hk (p := ⟨p.block, p.off + 4, none⟩) hp h4, cell_of hk (p := ⟨p.block, p.off + 5, none⟩) hp h5, cell_of hk (p := ⟨p.block, p.off + 6, none⟩) hp h6, cell_of hk (p := ⟨p.block, p.off + 7, none⟩) hp h7, cell_of hk (p := ⟨p.block, p.off + 8, none⟩) hp h8, cell_of hk (p := ⟨p.block, p.off + 9, none⟩) hp h9⟩
mutual
theorem TAt.keep {w w' : World} {S T : Nat → Prop} (h : ∀ k, S k → k < w.heap.size → w'.heap[k]? = w.heap[k]? ∧ T k) : ∀ (t : Te) (v : Value), TAt w S t v → TAt w' T t v
  | .mk k x n i ts ats fh fb us, v, hv => by
    rw [TAt] at hv ⊢
    obtain ⟨⟨T', tc, A, ac, F, fc, U, uc, h1, h2, h3, h4, h5, h6, h7, h8⟩, h9⟩ := hv
    exact ⟨⟨T', tc, A, ac, F, fc, U, uc, h1, h2.keep h, h3.keep h, h4, h5, FRow.keep h fb fh F 0 h6, h7, TRow.keep h us U 0 h8⟩, h9⟩
theorem TRow.keep {w w' : World} {S T : Nat → Prop} (h : ∀ k, S k → k < w.heap.size → w'.heap[k]? = w.heap[k]? ∧ T k) : ∀ (ts : List Te) (A : Option Addr) (i : Nat), TRow w S ts A i → TRow w' T ts A i
  | [], _, _, _ => by rw [TRow]; trivial
  | t :: ts, A, i, hv => by
    rw [TRow] at hv ⊢
    obtain ⟨⟨ad, v0, v1, v2, v3, v4, v5, v6, v7, h1, h2, h3, h4⟩, h8⟩ := hv
    have eb := add_block ad (i * 8)
    have hlt : ad.block < w.heap.size := by have := cell_lt h3.1; omega
    exact ⟨⟨ad, v0, v1, v2, v3, v4, v5, v6, v7, h1, (h _ h2 hlt).2, at8_keep (h _ h2 hlt).1 eb h3, TAt.keep h t _ h4⟩, TRow.keep h ts A (i + 1) h8⟩
theorem FRow.keep {w w' : World} {S T : Nat → Prop} (h : ∀ k, S k → k < w.heap.size → w'.heap[k]? = w.heap[k]? ∧ T k) : ∀ (bs : List Te) (hs : List (Int × List Int)) (A : Option Addr) (i : Nat), FRow w S hs bs A i → FRow w' T hs bs A i
  | [], _, _, _, _ => by rw [FRow]; trivial
  | b :: bs, [], A, i, hv => by rw [FRow] at hv; exact hv.elim
  | b :: bs, a :: hs, A, i, hv => by
    rw [FRow] at hv ⊢
    obtain ⟨⟨ad, P, pc, v0, v1, v2, v3, v4, v5, v6, v7, h1, h2, h3, h4, h5, h6⟩, h8⟩ := hv
    have eb := add_block ad (i * 10)
    have hlt : ad.block < w.heap.size := by have := cell_lt h3.1; omega
    exact ⟨⟨ad, P, pc, v0, v1, v2, v3, v4, v5, v6, v7, h1, (h _ h2 hlt).2, at10_keep (h _ h2 hlt).1 eb h3, h4.keep h, h5, TAt.keep h b _ h6⟩, FRow.keep h bs hs A (i + 1) h8⟩
end
theorem IAt.up {w w' : World} {S : Nat → Prop} {ts : List Int} {A : Option Addr} {c : Nat} (h : IAt w S ts A c) (hb : Below w.heap.size w w') : IAt w' S ts A c := h.keep (fun k hk hl => ⟨hb.block k hl, hk⟩)
theorem AtAt.up {w w' : World} {S : Nat → Prop} {ts : List (Bool × Int)} {A : Option Addr} {c : Nat} (h : AtAt w S ts A c) (hb : Below w.heap.size w w') : AtAt w' S ts A c := h.keep (fun k hk hl => ⟨hb.block k hl, hk⟩)
theorem TAt.up {w w' : World} {S : Nat → Prop} {t : Te} {v : Value} (h : TAt w S t v) (hb : Below w.heap.size w w') : TAt w' S t v := h.keep (fun k hk hl => ⟨hb.block k hl, hk⟩)
theorem TRow.up {w w' : World} {S : Nat → Prop} {ts : List Te} {A : Option Addr} {i : Nat} (h : TRow w S ts A i) (hb : Below w.heap.size w w') : TRow w' S ts A i := TRow.keep (fun k hk hl => ⟨hb.block k hl, hk⟩) ts A i h
theorem FRow.up {w w' : World} {S : Nat → Prop} {fh : List (Int × List Int)} {fb : List Te} {A : Option Addr} {i : Nat} (h : FRow w S fh fb A i) (hb : Below w.heap.size w w') : FRow w' S fh fb A i := FRow.keep (fun k hk hl => ⟨hb.block k hl, hk⟩) fb fh A i h
theorem TAt.mono {w : World} {S T : Nat → Prop} {t : Te} {v : Value} (h : TAt w S t v) (hS : ∀ k, S k → k < w.heap.size → T k) : TAt w T t v := h.keep (fun k hk hl => ⟨rfl, hS k hk hl⟩)
theorem TAt.low {w : World} {S : Nat → Prop} {t : Te} {v : Value} (h : TAt w S t v) : TAt w (fun b => b < w.heap.size) t v := h.mono (fun _ _ hl => hl)
theorem TAt.parts {w : World} {S : Nat → Prop} {k x n : Int} {i : Bool} {ts : List Int} {ats : List (Bool × Int)} {fh : List (Int × List Int)} {fb us : List Te} {v : Value} (h : TAt w S (.mk k x n i ts ats fh fb us) v) :
    ∃ T tc A ac F fc U uc, v = .agg #[.int .i64 k, .int .i64 x, .int .i64 n, .bool i, .slice T ts.length tc, .slice A ats.length ac, .slice F fb.length fc, .slice U us.length uc] ∧ IAt w S ts T tc ∧ AtAt w S ats A ac ∧ Sz fb F fc ∧ fh.length = fb.length ∧ FRow w S fh fb F 0 ∧ Sz us U uc ∧ TRow w S us U 0 ∧ Wf3 k x n := by
  rw [TAt] at h
  obtain ⟨⟨T, tc, A, ac, F, fc, U, uc, h1, h2, h3, h4, h5, h6, h7, h8⟩, h9⟩ := h
  exact ⟨T, tc, A, ac, F, fc, U, uc, h1, h2, h3, h4, h5, h6, h7, h8, h9⟩
theorem TAt.make {w : World} {S : Nat → Prop} {k x n : Int} {i : Bool} {ts : List Int} {ats : List (Bool × Int)} {fh : List (Int × List Int)} {fb us : List Te} {T A F U : Option Addr} {tl tc al ac fl fc ul uc : Nat} (e1 : tl = ts.length) (e2 : al = ats.length) (e3 : fl = fb.length) (e4 : ul = us.length)
    (h2 : IAt w S ts T tc) (h3 : AtAt w S ats A ac) (h4 : Sz fb F fc) (h5 : fh.length = fb.length) (h6 : FRow w S fh fb F 0) (h7 : Sz us U uc) (h8 : TRow w S us U 0) (h9 : Wf3 k x n) :
    TAt w S (.mk k x n i ts ats fh fb us) (.agg #[.int .i64 k, .int .i64 x, .int .i64 n, .bool i, .slice T tl tc, .slice A al ac, .slice F fl fc, .slice U ul uc]) := by
  subst e1 e2 e3 e4
  rw [TAt]
  exact ⟨⟨T, tc, A, ac, F, fc, U, uc, rfl, h2, h3, h4, h5, h6, h7, h8⟩, h9⟩
theorem TAt.agg {w : World} {S : Nat → Prop} {t : Te} {v : Value} (h : TAt w S t v) : ∃ k x n i T tl tc A al ac F fl fc U ul uc, v = .agg #[.int .i64 k, .int .i64 x, .int .i64 n, .bool i, .slice T tl tc, .slice A al ac, .slice F fl fc, .slice U ul uc] := by
  obtain ⟨k, x, n, i, ts, ats, fh, fb, us⟩ := t
  obtain ⟨T, tc, A, ac, F, fc, U, uc, h1, _⟩ := h.parts
  exact ⟨k, x, n, i, T, _, tc, A, _, ac, F, _, fc, U, _, uc, h1⟩
mutual
theorem TAt.even : ∀ {t : Te} {w : World} {S : Nat → Prop} {v : Value}, TAt w S t v → Tm.Even t
  | .mk k x n i ts ats fh fb us, w, S, v, h => by
    obtain ⟨T, tc, A, ac, F, fc, U, uc, h1, h2, h3, h4, h5, h6, h7, h8, h9⟩ := h.parts
    rw [Tm.Even]
    exact ⟨h5, FRow.even h6, TRow.even h8⟩
theorem FRow.even : ∀ {fb : List Te} {fh : List (Int × List Int)} {w : World} {S : Nat → Prop} {A : Option Addr} {i : Nat}, FRow w S fh fb A i → Tm.EvenL fb
  | [], _, _, _, _, _, _ => by rw [Tm.EvenL]; trivial
  | b :: bs, [], w, S, A, i, hv => by rw [FRow] at hv; exact hv.elim
  | b :: bs, a :: hs, w, S, A, i, hv => by
    rw [FRow] at hv
    obtain ⟨⟨ad, P, pc, v0, v1, v2, v3, v4, v5, v6, v7, h1, h2, h3, h4, h5, h6⟩, h8⟩ := hv
    rw [Tm.EvenL]
    exact ⟨TAt.even h6, FRow.even h8⟩
theorem TRow.even : ∀ {us : List Te} {w : World} {S : Nat → Prop} {A : Option Addr} {i : Nat}, TRow w S us A i → Tm.EvenL us
  | [], _, _, _, _, _ => by rw [Tm.EvenL]; trivial
  | b :: bs, w, S, A, i, hv => by
    rw [TRow] at hv
    obtain ⟨⟨ad, v0, v1, v2, v3, v4, v5, v6, v7, h1, h2, h3, h6⟩, h8⟩ := hv
    rw [Tm.EvenL]
    exact ⟨TAt.even h6, TRow.even h8⟩
end
theorem TRow.get {w : World} {S : Nat → Prop} : ∀ {ts : List Te} {A : Option Addr} {i k : Nat} (_ : TRow w S ts A i) (hk : k < ts.length),
    ∃ ad v0 v1 v2 v3 v4 v5 v6 v7, A = some ad ∧ S ad.block ∧ ((w).cell? (ad.add ((i + k) * 8)) = some (v0) ∧ (w).cell? ⟨(ad.add ((i + k) * 8)).block, (ad.add ((i + k) * 8)).off + 1, none⟩ = some (v1) ∧ (w).cell? ⟨(ad.add ((i + k) * 8)).block, (ad.add ((i + k) * 8)).off + 2, none⟩ = some (v2) ∧ (w).cell? ⟨(ad.add ((i + k) * 8)).block, (ad.add ((i + k) * 8)).off + 3, none⟩ = some (v3) ∧ (w).cell? ⟨(ad.add ((i + k) * 8)).block, (ad.add ((i + k) * 8)).off + 4, none⟩ = some (v4) ∧ (w).cell? ⟨(ad.add ((i + k) * 8)).block, (ad.add ((i + k) * 8)).off + 5, none⟩ = some (v5) ∧ (w).cell? ⟨(ad.add ((i + k) * 8)).block, (ad.add ((i + k) * 8)).off + 6, none⟩ = some (v6) ∧ (w).cell? ⟨(ad.add ((i + k) * 8)).block, (ad.add ((i + k) * 8)).off + 7, none⟩ = some (v7)) ∧ TAt w S ts[k] (.agg #[v0, v1, v2, v3, v4, v5, v6, v7])
  | [], _, _, _, _, hk => by simp at hk
  | t :: ts, A, i, 0, h, _ => by rw [TRow] at h; exact h.1
  | t :: ts, A, i, k + 1, h, hk => by
    rw [TRow] at h
    have := TRow.get (i := i + 1) (k := k) h.2 (by simpa using hk)
    rw [show i + 1 + k = i + (k + 1) from by omega] at this
    simpa using this
theorem FRow.get {w : World} {S : Nat → Prop} : ∀ {bs : List Te} {hs : List (Int × List Int)} {A : Option Addr} {i k : Nat} (_ : FRow w S hs bs A i) (hk : k < bs.length) (hk2 : k < hs.length),
    ∃ ad P pc v0 v1 v2 v3 v4 v5 v6 v7, A = some ad ∧ S ad.block ∧ ((w).cell? (ad.add ((i + k) * 10)) = some (.int .i64 hs[k].1) ∧ (w).cell? ⟨(ad.add ((i + k) * 10)).block, (ad.add ((i + k) * 10)).off + 1, none⟩ = some (.slice P hs[k].2.length pc) ∧ (w).cell? ⟨(ad.add ((i + k) * 10)).block, (ad.add ((i + k) * 10)).off + 2, none⟩ = some (v0) ∧ (w).cell? ⟨(ad.add ((i + k) * 10)).block, (ad.add ((i + k) * 10)).off + 3, none⟩ = some (v1) ∧ (w).cell? ⟨(ad.add ((i + k) * 10)).block, (ad.add ((i + k) * 10)).off + 4, none⟩ = some (v2) ∧ (w).cell? ⟨(ad.add ((i + k) * 10)).block, (ad.add ((i + k) * 10)).off + 5, none⟩ = some (v3) ∧ (w).cell? ⟨(ad.add ((i + k) * 10)).block, (ad.add ((i + k) * 10)).off + 6, none⟩ = some (v4) ∧ (w).cell? ⟨(ad.add ((i + k) * 10)).block, (ad.add ((i + k) * 10)).off + 7, none⟩ = some (v5) ∧ (w).cell? ⟨(ad.add ((i + k) * 10)).block, (ad.add ((i + k) * 10)).off + 8, none⟩ = some (v6) ∧ (w).cell? ⟨(ad.add ((i + k) * 10)).block, (ad.add ((i + k) * 10)).off + 9, none⟩ = some (v7)) ∧ IAt w S hs[k].2 P pc ∧ (Lit.int .i64 hs[k].1).wf = true ∧ TAt w S bs[k] (.agg #[v0, v1, v2, v3, v4, v5, v6, v7])
  | [], _, _, _, _, _, hk, _ => by simp at hk
  | b :: bs, [], _, _, _, _, _, hk => by simp at hk
  | b :: bs, a :: hs, A, i, 0, h, _, _ => by rw [FRow] at h; exact h.1
  | b :: bs, a :: hs, A, i, k + 1, h, hk, hk2 => by
    rw [FRow] at h
    have := FRow.get (i := i + 1) (k := k) h.2 (by simpa using hk) (by simpa using hk2)
    rw [show i + 1 + k = i + (k + 1) from by omega] at this
    simpa using this
theorem agg8 {v0 v1 v2 v3 v4 v5 v6 v7 a0 a1 a2 a3 a4 a5 a6 a7 : Value} (e : Value.agg #[v0, v1, v2, v3, v4, v5, v6, v7] = .agg #[a0, a1, a2, a3, a4, a5, a6, a7]) : v0 = a0 ∧ v1 = a1 ∧ v2 = a2 ∧ v3 = a3 ∧ v4 = a4 ∧ v5 = a5 ∧ v6 = a6 ∧ v7 = a7 := by
  simp only [Value.agg.injEq, Array.mk.injEq, List.cons.injEq, and_true] at e
  exact e
/-- An element of a row, with its cells' values. -/
theorem TRow.elem {w : World} {S : Nat → Prop} {ts : List Te} {A : Option Addr} (h : TRow w S ts A 0) {j : Nat} (hj : j < ts.length) :
    ∃ ad k x n i T tl tc A' al ac F fl fc U ul uc, A = some ad ∧ S ad.block ∧ (ad.add (j * 8)).block = ad.block ∧ ((w).cell? (ad.add (j * 8)) = some (.int .i64 k) ∧ (w).cell? ⟨(ad.add (j * 8)).block, (ad.add (j * 8)).off + 1, none⟩ = some (.int .i64 x) ∧ (w).cell? ⟨(ad.add (j * 8)).block, (ad.add (j * 8)).off + 2, none⟩ = some (.int .i64 n) ∧ (w).cell? ⟨(ad.add (j * 8)).block, (ad.add (j * 8)).off + 3, none⟩ = some (.bool i) ∧ (w).cell? ⟨(ad.add (j * 8)).block, (ad.add (j * 8)).off + 4, none⟩ = some (.slice T tl tc) ∧ (w).cell? ⟨(ad.add (j * 8)).block, (ad.add (j * 8)).off + 5, none⟩ = some (.slice A' al ac) ∧ (w).cell? ⟨(ad.add (j * 8)).block, (ad.add (j * 8)).off + 6, none⟩ = some (.slice F fl fc) ∧ (w).cell? ⟨(ad.add (j * 8)).block, (ad.add (j * 8)).off + 7, none⟩ = some (.slice U ul uc)) ∧ TAt w S ts[j] (.agg #[.int .i64 k, .int .i64 x, .int .i64 n, .bool i, .slice T tl tc, .slice A' al ac, .slice F fl fc, .slice U ul uc]) := by
  obtain ⟨ad, v0, v1, v2, v3, v4, v5, v6, v7, h1, h2, h3, h4⟩ := h.get hj
  rw [Nat.zero_add] at h3
  obtain ⟨k, x, n, i, T, tl, tc, A', al, ac, F, fl, fc, U, ul, uc, e⟩ := h4.agg
  obtain ⟨rfl, rfl, rfl, rfl, rfl, rfl, rfl, rfl⟩ := agg8 e
  exact ⟨ad, k, x, n, i, T, tl, tc, A', al, ac, F, fl, fc, U, ul, uc, h1, h2, add_block _ _, h3, h4⟩
theorem FRow.elem {w : World} {S : Nat → Prop} {bs : List Te} {hs : List (Int × List Int)} {A : Option Addr} (h : FRow w S hs bs A 0) {j : Nat} (hj : j < bs.length) (hj2 : j < hs.length) :
    ∃ ad P pc k x n i T tl tc A' al ac F fl fc U ul uc, A = some ad ∧ S ad.block ∧ (ad.add (j * 10)).block = ad.block ∧ ((w).cell? (ad.add (j * 10)) = some (.int .i64 hs[j].1) ∧ (w).cell? ⟨(ad.add (j * 10)).block, (ad.add (j * 10)).off + 1, none⟩ = some (.slice P hs[j].2.length pc) ∧ (w).cell? ⟨(ad.add (j * 10)).block, (ad.add (j * 10)).off + 2, none⟩ = some (.int .i64 k) ∧ (w).cell? ⟨(ad.add (j * 10)).block, (ad.add (j * 10)).off + 3, none⟩ = some (.int .i64 x) ∧ (w).cell? ⟨(ad.add (j * 10)).block, (ad.add (j * 10)).off + 4, none⟩ = some (.int .i64 n) ∧ (w).cell? ⟨(ad.add (j * 10)).block, (ad.add (j * 10)).off + 5, none⟩ = some (.bool i) ∧ (w).cell? ⟨(ad.add (j * 10)).block, (ad.add (j * 10)).off + 6, none⟩ = some (.slice T tl tc) ∧ (w).cell? ⟨(ad.add (j * 10)).block, (ad.add (j * 10)).off + 7, none⟩ = some (.slice A' al ac) ∧ (w).cell? ⟨(ad.add (j * 10)).block, (ad.add (j * 10)).off + 8, none⟩ = some (.slice F fl fc) ∧ (w).cell? ⟨(ad.add (j * 10)).block, (ad.add (j * 10)).off + 9, none⟩ = some (.slice U ul uc)) ∧ IAt w S hs[j].2 P pc ∧ (Lit.int .i64 hs[j].1).wf = true ∧ TAt w S bs[j] (.agg #[.int .i64 k, .int .i64 x, .int .i64 n, .bool i, .slice T tl tc, .slice A' al ac, .slice F fl fc, .slice U ul uc]) := by
  obtain ⟨ad, P, pc, v0, v1, v2, v3, v4, v5, v6, v7, h1, h2, h3, h4, h5, h6⟩ := h.get hj hj2
  rw [Nat.zero_add] at h3
  obtain ⟨k, x, n, i, T, tl, tc, A', al, ac, F, fl, fc, U, ul, uc, e⟩ := h6.agg
  obtain ⟨rfl, rfl, rfl, rfl, rfl, rfl, rfl, rfl⟩ := agg8 e
  exact ⟨ad, P, pc, k, x, n, i, T, tl, tc, A', al, ac, F, fl, fc, U, ul, uc, h1, h2, add_block _ _, h3, h4, h5, h6⟩
/-- Rows, out of their elements. -/
theorem TRow.mk {w : World} {S : Nat → Prop} {ad : Addr} (hS : S ad.block) : ∀ (ts : List Te) (i : Nat) (_ : ∀ k, (hk : k < ts.length) → ∃ v0 v1 v2 v3 v4 v5 v6 v7, ((w).cell? (ad.add ((i + k) * 8)) = some (v0) ∧ (w).cell? ⟨(ad.add ((i + k) * 8)).block, (ad.add ((i + k) * 8)).off + 1, none⟩ = some (v1) ∧ (w).cell? ⟨(ad.add ((i + k) * 8)).block, (ad.add ((i + k) * 8)).off + 2, none⟩ = some (v2) ∧ (w).cell? ⟨(ad.add ((i + k) * 8)).block, (ad.add ((i + k) * 8)).off + 3, none⟩ = some (v3) ∧ (w).cell? ⟨(ad.add ((i + k) * 8)).block, (ad.add ((i + k) * 8)).off + 4, none⟩ = some (v4) ∧ (w).cell? ⟨(ad.add ((i + k) * 8)).block, (ad.add ((i + k) * 8)).off + 5, none⟩ = some (v5) ∧ (w).cell? ⟨(ad.add ((i + k) * 8)).block, (ad.add ((i + k) * 8)).off + 6, none⟩ = some (v6) ∧ (w).cell? ⟨(ad.add ((i + k) * 8)).block, (ad.add ((i + k) * 8)).off + 7, none⟩ = some (v7)) ∧ TAt w S ts[k] (.agg #[v0, v1, v2, v3, v4, v5, v6, v7])), TRow w S ts (some ad) i
  | [], _, _ => by rw [TRow]; trivial
  | t :: ts, i, h => by
    rw [TRow]
    refine ⟨?_, TRow.mk hS ts (i + 1) (fun k hk => ?_)⟩
    · obtain ⟨v0, v1, v2, v3, v4, v5, v6, v7, h1⟩ := h 0 (by simp)
      exact ⟨ad, v0, v1, v2, v3, v4, v5, v6, v7, rfl, hS, h1⟩
    · have := h (k + 1) (by simpa using hk)
      rw [show i + (k + 1) = i + 1 + k from by omega] at this
      simpa using this
theorem FRow.mk {w : World} {S : Nat → Prop} {ad : Addr} (hS : S ad.block) : ∀ (bs : List Te) (hs : List (Int × List Int)) (i : Nat) (_ : hs.length = bs.length) (_ : ∀ k, (hk : k < bs.length) → (hk2 : k < hs.length) → ∃ P pc v0 v1 v2 v3 v4 v5 v6 v7, ((w).cell? (ad.add ((i + k) * 10)) = some (.int .i64 hs[k].1) ∧ (w).cell? ⟨(ad.add ((i + k) * 10)).block, (ad.add ((i + k) * 10)).off + 1, none⟩ = some (.slice P hs[k].2.length pc) ∧ (w).cell? ⟨(ad.add ((i + k) * 10)).block, (ad.add ((i + k) * 10)).off + 2, none⟩ = some (v0) ∧ (w).cell? ⟨(ad.add ((i + k) * 10)).block, (ad.add ((i + k) * 10)).off + 3, none⟩ = some (v1) ∧ (w).cell? ⟨(ad.add ((i + k) * 10)).block, (ad.add ((i + k) * 10)).off + 4, none⟩ = some (v2) ∧ (w).cell? ⟨(ad.add ((i + k) * 10)).block, (ad.add ((i + k) * 10)).off + 5, none⟩ = some (v3) ∧ (w).cell? ⟨(ad.add ((i + k) * 10)).block, (ad.add ((i + k) * 10)).off + 6, none⟩ = some (v4) ∧ (w).cell? ⟨(ad.add ((i + k) * 10)).block, (ad.add ((i + k) * 10)).off + 7, none⟩ = some (v5) ∧ (w).cell? ⟨(ad.add ((i + k) * 10)).block, (ad.add ((i + k) * 10)).off + 8, none⟩ = some (v6) ∧ (w).cell? ⟨(ad.add ((i + k) * 10)).block, (ad.add ((i + k) * 10)).off + 9, none⟩ = some (v7)) ∧ IAt w S hs[k].2 P pc ∧ (Lit.int .i64 hs[k].1).wf = true ∧ TAt w S bs[k] (.agg #[v0, v1, v2, v3, v4, v5, v6, v7])), FRow w S hs bs (some ad) i
  | [], _, _, _, _ => by rw [FRow]; trivial
  | b :: bs, [], _, hl, _ => by simp at hl
  | b :: bs, a :: hs, i, hl, h => by
    rw [FRow]
    refine ⟨?_, FRow.mk hS bs hs (i + 1) (by simpa using hl) (fun k hk hk2 => ?_)⟩
    · obtain ⟨P, pc, v0, v1, v2, v3, v4, v5, v6, v7, h1⟩ := h 0 (by simp) (by simp)
      exact ⟨ad, P, pc, v0, v1, v2, v3, v4, v5, v6, v7, rfl, hS, h1⟩
    · have := h (k + 1) (by simpa using hk) (by simpa using hk2)
      rw [show i + (k + 1) = i + 1 + k from by omega] at this
      simpa using this
theorem Blk.eight {w : World} {g : Nat} {t : TypeId} {a0 a1 a2 a3 a4 a5 a6 a7 : Value} (h : Blk w g t #[a0, a1, a2, a3, a4, a5, a6, a7]) : (w).cell? ⟨g, 0, none⟩ = some (a0) ∧ (w).cell? ⟨g, 1, none⟩ = some (a1) ∧ (w).cell? ⟨g, 2, none⟩ = some (a2) ∧ (w).cell? ⟨g, 3, none⟩ = some (a3) ∧ (w).cell? ⟨g, 4, none⟩ = some (a4) ∧ (w).cell? ⟨g, 5, none⟩ = some (a5) ∧ (w).cell? ⟨g, 6, none⟩ = some (a6) ∧ (w).cell? ⟨g, 7, none⟩ = some (a7) := ⟨h.cell 0, h.cell 1, h.cell 2, h.cell 3, h.cell 4, h.cell 5, h.cell 6, h.cell 7⟩
theorem Blk.ten {w : World} {g : Nat} {t : TypeId} {a0 a1 a2 a3 a4 a5 a6 a7 a8 a9 : Value} (h : Blk w g t #[a0, a1, a2, a3, a4, a5, a6, a7, a8, a9]) : (w).cell? ⟨g, 0, none⟩ = some (a0) ∧ (w).cell? ⟨g, 1, none⟩ = some (a1) ∧ (w).cell? ⟨g, 2, none⟩ = some (a2) ∧ (w).cell? ⟨g, 3, none⟩ = some (a3) ∧ (w).cell? ⟨g, 4, none⟩ = some (a4) ∧ (w).cell? ⟨g, 5, none⟩ = some (a5) ∧ (w).cell? ⟨g, 6, none⟩ = some (a6) ∧ (w).cell? ⟨g, 7, none⟩ = some (a7) ∧ (w).cell? ⟨g, 8, none⟩ = some (a8) ∧ (w).cell? ⟨g, 9, none⟩ = some (a9) := ⟨h.cell 0, h.cell 1, h.cell 2, h.cell 3, h.cell 4, h.cell 5, h.cell 6, h.cell 7, h.cell 8, h.cell 9⟩
/-- Where a term stands: what is at an address. -/
def TPt (w : World) (S : Nat → Prop) (p : Addr) (t : Te) : Prop := S p.block ∧ ∃ v0 v1 v2 v3 v4 v5 v6 v7, ((w).cell? (p) = some (v0) ∧ (w).cell? ⟨(p).block, (p).off + 1, none⟩ = some (v1) ∧ (w).cell? ⟨(p).block, (p).off + 2, none⟩ = some (v2) ∧ (w).cell? ⟨(p).block, (p).off + 3, none⟩ = some (v3) ∧ (w).cell? ⟨(p).block, (p).off + 4, none⟩ = some (v4) ∧ (w).cell? ⟨(p).block, (p).off + 5, none⟩ = some (v5) ∧ (w).cell? ⟨(p).block, (p).off + 6, none⟩ = some (v6) ∧ (w).cell? ⟨(p).block, (p).off + 7, none⟩ = some (v7)) ∧ TAt w S t (.agg #[v0, v1, v2, v3, v4, v5, v6, v7])
theorem TPt.keep {w w' : World} {S T : Nat → Prop} {p : Addr} {t : Te} (h : TPt w S p t) (hk : ∀ k, S k → k < w.heap.size → w'.heap[k]? = w.heap[k]? ∧ T k) : TPt w' T p t := by
  obtain ⟨h0, v0, v1, v2, v3, v4, v5, v6, v7, h1, h2⟩ := h
  have hl := cell_lt h1.1
  exact ⟨(hk _ h0 hl).2, v0, v1, v2, v3, v4, v5, v6, v7, at8_keep (hk _ h0 hl).1 rfl h1, h2.keep hk⟩
theorem TPt.up {w w' : World} {S : Nat → Prop} {p : Addr} {t : Te} (h : TPt w S p t) (hb : Below w.heap.size w w') : TPt w' S p t := h.keep (fun k hk hl => ⟨hb.block k hl, hk⟩)
theorem TPt.cells {w : World} {S : Nat → Prop} {p : Addr} {k x n : Int} {i : Bool} {ts : List Int} {ats : List (Bool × Int)} {fh : List (Int × List Int)} {fb us : List Te} (h : TPt w S p (.mk k x n i ts ats fh fb us)) :
    ∃ T tc A ac F fc U uc, ((w).cell? (p) = some (.int .i64 k) ∧ (w).cell? ⟨(p).block, (p).off + 1, none⟩ = some (.int .i64 x) ∧ (w).cell? ⟨(p).block, (p).off + 2, none⟩ = some (.int .i64 n) ∧ (w).cell? ⟨(p).block, (p).off + 3, none⟩ = some (.bool i) ∧ (w).cell? ⟨(p).block, (p).off + 4, none⟩ = some (.slice T ts.length tc) ∧ (w).cell? ⟨(p).block, (p).off + 5, none⟩ = some (.slice A ats.length ac) ∧ (w).cell? ⟨(p).block, (p).off + 6, none⟩ = some (.slice F fb.length fc) ∧ (w).cell? ⟨(p).block, (p).off + 7, none⟩ = some (.slice U us.length uc)) ∧ IAt w S ts T tc ∧ AtAt w S ats A ac ∧ Sz fb F fc ∧ fh.length = fb.length ∧ FRow w S fh fb F 0 ∧ Sz us U uc ∧ TRow w S us U 0 ∧ Wf3 k x n := by
  obtain ⟨h0, v0, v1, v2, v3, v4, v5, v6, v7, h1, h2⟩ := h
  obtain ⟨T, tc, A, ac, F, fc, U, uc, e, h3⟩ := h2.parts
  obtain ⟨rfl, rfl, rfl, rfl, rfl, rfl, rfl, rfl⟩ := agg8 e
  exact ⟨T, tc, A, ac, F, fc, U, uc, h1, h3⟩
theorem TRow.pt {w : World} {S : Nat → Prop} {ts : List Te} {A : Option Addr} (h : TRow w S ts A 0) {j : Nat} (hj : j < ts.length) : ∃ ad, A = some ad ∧ TPt w S (ad.add (j * 8)) ts[j] := by
  obtain ⟨ad, v0, v1, v2, v3, v4, v5, v6, v7, h1, h2, h3, h4⟩ := h.get hj
  rw [Nat.zero_add] at h3
  exact ⟨ad, h1, by rw [add_block]; exact h2, v0, v1, v2, v3, v4, v5, v6, v7, h3, h4⟩
theorem FRow.pt {w : World} {S : Nat → Prop} {bs : List Te} {hs : List (Int × List Int)} {A : Option Addr} (h : FRow w S hs bs A 0) {j : Nat} (hj : j < bs.length) (hj2 : j < hs.length) :
    ∃ ad P pc, A = some ad ∧ S (ad.add (j * 10)).block ∧ w.cell? (ad.add (j * 10)) = some (.int .i64 hs[j].1) ∧ w.cell? ⟨(ad.add (j * 10)).block, (ad.add (j * 10)).off + 1, none⟩ = some (.slice P hs[j].2.length pc) ∧ IAt w S hs[j].2 P pc ∧ (Lit.int .i64 hs[j].1).wf = true ∧ TPt w S ⟨(ad.add (j * 10)).block, (ad.add (j * 10)).off + 2, none⟩ bs[j] := by
  obtain ⟨ad, P, pc, v0, v1, v2, v3, v4, v5, v6, v7, h1, h2, ⟨c0, c1, c2, c3, c4, c5, c6, c7, c8, c9⟩, h4, h5, h6⟩ := h.get hj hj2
  rw [Nat.zero_add] at c0 c1 c2 c3 c4 c5 c6 c7 c8 c9
  exact ⟨ad, P, pc, h1, by rw [add_block]; exact h2, c0, c1, h4, h5, by rw [add_block]; exact h2, v0, v1, v2, v3, v4, v5, v6, v7, ⟨c2, c3, c4, c5, c6, c7, c8, c9⟩, h6⟩
end Go.Proofs.Ytdmkjndlobichaa
