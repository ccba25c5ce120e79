/-
  PLAIN: what wakes unifies.
-/
import Derived.Test.YtnlifgcnmhakiaaDoorTApply
namespace Go.Proofs.YtnlifgcnmhakiaaDoor
open Go.ChangeShapes Go.WideShapes Go.ChangeAt Go.RowKit

def V1 : Ty := .mk 2 ⟨#[]⟩ 1 []
def V2 : Ty := .mk 2 ⟨#[]⟩ 2 []
def IntT : Ty := .mk 1 ⟨#[]⟩ 0 []
def listS : ByteArray := ⟨#[108, 105, 115, 116]⟩
def listT (t : Ty) : Ty := .mk 4 listS 0 [t]
def funT (t u : Ty) : Ty := .mk 3 ⟨#[]⟩ 0 [t, u]
def s0 : Sg := [none, none]
def s1 : Sg := [some (listT V2), none]
def s2 : Sg := [some (listT V2), some IntT]
theorem listS_ne : listS ≠ ⟨#[]⟩ := by decide
theorem hd_node {σ : Sg} {t : Ty} (h : ¬ t.kd = 2) : hdT σ t = t := hd_eq (.here (fun e => absurd e h))
theorem hd_free {σ : Sg} {t : Ty} (h : bnd σ t.num = none) : hdT σ t = t := hd_eq (.here (fun _ => h))
theorem wr_int (σ : Sg) : wrT σ IntT = IntT := wr_eq ((Wr.node (by decide)).2 ⟨[], rfl, WrL.nil _⟩)
theorem wr_v2 : wrT s0 (listT V2) = listT V2 := wr_eq ((Wr.node (by decide)).2 ⟨[V2], rfl, WrL.cons (Wr.free rfl) (WrL.nil _)⟩)
theorem wakes_unify : unifyF s0 (funT V1 IntT) (funT (listT V2) V2) = (0, s2) := by
  have m1 : mayT s0.length (funT V1 IntT) = true := by unfold mayT; simp [sizeT, nodes, nodesL, funT, V1, IntT, goodT, goodL, okN, s0]
  have m2 : mayT s0.length (funT (listT V2) V2) = true := by unfold mayT; simp [sizeT, nodes, nodesL, funT, V2, listT, goodT, goodL, okN, s0, listS_ne]
  unfold unifyF
  rw [if_pos (by rw [m1, m2]; rfl)]
  have e1 : bindF s0 1 (listT V2) 65534 = (0, s1, 65534) := by
    unfold bindF
    rw [wr_v2]
    rw [if_pos (by decide)]
    rfl
  have e2 : bindF s1 2 IntT 65533 = (0, s2, 65533) := by
    unfold bindF
    rw [wr_int]
    rw [if_pos (by decide)]
    rfl
  have p1 : pairF 65536 s0 V1 (listT V2) 65535 = (0, s1, 65534) := by
    rw [show (65536 : Nat) = 65535 + 1 from rfl, pairF, if_neg (by omega), hd_free (t := V1) (by rfl), hd_node (t := listT V2) (by decide)]
    exact (show stepF (pairF 65535) s0 V1 (listT V2) 65534 = bindF s0 1 (listT V2) 65534 from by
      unfold stepF
      split
      · rename_i h; exact absurd h.2.1 (by decide)
      split
      · rfl
      · rename_i h; exact absurd rfl h).trans e1
  have p2 : pairF 65536 s1 IntT V2 65534 = (0, s2, 65533) := by
    rw [show (65536 : Nat) = 65535 + 1 from rfl, pairF, if_neg (by omega), hd_free (t := V2) (by rfl), hd_node (t := IntT) (by decide)]
    exact (show stepF (pairF 65535) s1 IntT V2 65533 = bindF s1 2 IntT 65533 from by
      unfold stepF
      split
      · rename_i h; exact absurd h.1 (by decide)
      split
      · rename_i h; exact absurd h (by decide)
      split
      · rfl
      · rename_i h; exact absurd rfl h).trans e2
  have p0 : pairF 65537 s0 (funT V1 IntT) (funT (listT V2) V2) 65536 = (0, s2, 65533) := by
    rw [show (65537 : Nat) = 65536 + 1 from rfl, pairF, if_neg (by omega), hd_node (t := funT V1 IntT) (by decide), hd_node (t := funT (listT V2) V2) (by decide)]
    have hs : stepF (pairF 65536) s0 (funT V1 IntT) (funT (listT V2) V2) (65536 - 1) = pairL (pairF 65536) s0 [V1, IntT] [listT V2, V2] 65535 := by
      unfold stepF
      split
      · rename_i h; exact absurd h.1 (by decide)
      split
      · rename_i h; exact absurd h (by decide)
      split
      · rename_i h; exact absurd h (by decide)
      split
      · rename_i h; rcases h with h | h | h; exact absurd rfl h; exact absurd rfl h; exact absurd rfl h
      · rfl
    rw [hs, pairL, p1, if_pos rfl, pairL, p2, if_pos rfl, pairL]
    simp
  rw [p0]
theorem wr_V1 : wrT s2 V1 = listT IntT := wr_eq ((Wr.bound (u := listT V2) rfl).2 ((Wr.node (by decide)).2 ⟨[IntT], rfl, WrL.cons ((Wr.bound (u := IntT) rfl).2 ((Wr.node (by decide)).2 ⟨[], rfl, WrL.nil _⟩)) (WrL.nil _)⟩))
theorem wakes_apply : applyF s2 V1 = (listT IntT, 0) := by
  have m1 : mayT s2.length V1 = true := by unfold mayT; simp [sizeT, nodes, nodesL, V1, goodT, goodL, okN, s2]
  unfold applyF
  rw [if_pos m1, wr_V1, if_pos (by decide)]
theorem wakes_no : ∃ σ, unifyF s2 V1 (listT V1) = (150, σ) := by
  have m1 : mayT s2.length V1 = true := by unfold mayT; simp [sizeT, nodes, nodesL, V1, goodT, goodL, okN, s2]
  have m2 : mayT s2.length (listT V1) = true := by unfold mayT; simp [sizeT, nodes, nodesL, V1, listT, goodT, goodL, okN, s2, listS_ne]
  have h1 : hdT s2 V1 = listT V2 := hd_eq (.step rfl (.here (fun h => absurd h (by decide))))
  have h2 : hdT s2 V2 = IntT := hd_eq (.step rfl (.here (fun h => absurd h (by decide))))
  have p1 : pairF 65536 s2 V2 V1 65535 = (150, s2, 65534) := by
    rw [show (65536 : Nat) = 65535 + 1 from rfl, pairF, if_neg (by omega), h1, h2]
    unfold stepF
    split
    · rename_i h; exact absurd h.1 (by decide)
    split
    · rename_i h; exact absurd h (by decide)
    split
    · rename_i h; exact absurd h (by decide)
    split
    · rfl
    · rename_i h; exact absurd (.inl (by decide)) h
  have p0 : pairF 65537 s2 V1 (listT V1) 65536 = (150, s2, 65534) := by
    rw [show (65537 : Nat) = 65536 + 1 from rfl, pairF, if_neg (by omega), h1, hd_node (t := listT V1) (by decide)]
    have hs : stepF (pairF 65536) s2 (listT V2) (listT V1) (65536 - 1) = pairL (pairF 65536) s2 [V2] [V1] 65535 := by
      unfold stepF
      split
      · rename_i h; exact absurd h.1 (by decide)
      split
      · rename_i h; exact absurd h (by decide)
      split
      · rename_i h; exact absurd h (by decide)
      split
      · rename_i h; rcases h with h | h | h; exact absurd rfl h; exact absurd rfl h; exact absurd rfl h
      · rfl
    rw [hs, pairL, p1, if_neg (by decide)]
  refine ⟨s2, ?_⟩
  unfold unifyF
  rw [if_pos (by rw [m1, m2]; rfl), p0]
theorem wakes_ok : Ok s2 := by
  have h := (unifyF_fine (Ok.none_ 2) (funT V1 IntT) (funT (listT V2) V2)).1
  rw [show List.replicate 2 none = s0 from rfl, wakes_unify] at h
  exact h
end Go.Proofs.YtnlifgcnmhakiaaDoor
