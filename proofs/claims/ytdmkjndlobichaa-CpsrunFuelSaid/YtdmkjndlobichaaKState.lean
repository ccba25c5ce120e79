/-
  THE STATE OF A RUN IN MEMORY: the machine, its frames, what was written.
-/
import Derived.Test.YtdmkjndlobichaaKMore
namespace Go.Proofs.Ytdmkjndlobichaa
set_option linter.all false
open Go.ChangeShapes Go.WideShapes Go.ChangeAt Go.RowKit Go.Maps
open Tm (Te Pv Fr lookV setV atomV)

/-- The blocks that no step writes. -/
def Nm (M : Nat) (φ : List (Nat × Nat)) (wv : Value) : Nat → Prop := fun b => b ≠ M ∧ wv.ownBlock ≠ some b ∧ ∀ (e p m : Nat), φ[e]? = some (p, m) → b ≠ m
structure MK (w : World) (M F s : Nat) (ws : List Int) (wv : Value) (φ : List (Nat × Nat)) (fs : List Fr) (N : Nat) : Prop where
  blk : Blk w M 113 #[.int .i64 F, .int .i64 s, wv, .slice none 0 0]
  row : w.ownsRow (M + 1) 3 1 wv ws.length (ws.map (.int .i64))
  len : Wr ws
  fr : FrAt w (Nm M φ wv) φ fs
  dis : Dis φ
  low : ∀ (e p m : Nat), φ[e]? = some (p, m) → M < m ∧ wv.ownBlock ≠ some m
  ent : ∀ f ∈ fs, f.vars.length ≤ N
  hF : F ≤ 1048576
  hs : s ≤ F
/-- What a step leaves as it was. -/
structure KS (M : Nat) (φ ψ : List (Nat × Nat)) (wv wv' : Value) (w w' : World) : Prop where
  os : w'.os = w.os
  tape : w'.tape = w.tape
  output : w'.output = w.output
  size : w.heap.size ≤ w'.heap.size
  block : ∀ k, Nm M φ wv k → k < w.heap.size → w'.heap[k]? = w.heap[k]? ∧ Nm M ψ wv' k
  ext : Ext φ ψ
section
variable {w w' w1 w2 : World} {M F s : Nat} {ws : List Int} {wv wv1 wv2 : Value} {φ ψ χ : List (Nat × Nat)} {fs : List Fr} {N : Nat}
theorem KS.refl (M : Nat) (φ : List (Nat × Nat)) (wv : Value) (w : World) : KS M φ φ wv wv w w := ⟨rfl, rfl, rfl, Nat.le_refl _, fun k h _ => ⟨rfl, h⟩, Ext.refl _⟩
theorem KS.trans (h : KS M φ ψ wv wv1 w w1) (k : KS M ψ χ wv1 wv2 w1 w2) : KS M φ χ wv wv2 w w2 :=
  ⟨k.os.trans h.os, k.tape.trans h.tape, k.output.trans h.output, Nat.le_trans h.size k.size, fun b hb hl => by
    obtain ⟨h1, h2⟩ := h.block b hb hl
    obtain ⟨h3, h4⟩ := k.block b h2 (Nat.lt_of_lt_of_le hl h.size)
    exact ⟨h3.trans h1, h4⟩, h.ext.trans k.ext⟩
theorem KS.of_below (hb : Below w.heap.size w w1) : KS M φ φ wv wv w w1 := ⟨hb.os, hb.tape, hb.output, hb.size, fun k h hl => ⟨hb.block k hl, h⟩, Ext.refl _⟩
theorem MK.new (h : MK w M F s ws wv φ fs N) : ∀ b, w.heap.size ≤ b → Nm M φ wv b := fun b hb => ⟨by have := h.blk.lt; omega, fun e => by have := h.row.lt b e; omega, fun e p m he => by have := h.fr.mlt he; omega⟩
theorem MK.up (h : MK w M F s ws wv φ fs N) (hb : Below w.heap.size w w1) : MK w1 M F s ws wv φ fs N :=
  ⟨h.blk.below hb h.blk.lt, row_keepX h.row (fun g e => hb.block g (h.row.lt g e).2), h.len, h.fr.up hb, h.dis, h.low, h.ent, h.hF, h.hs⟩
/-- A step more. -/
theorem MK.tick (h : MK w M F s ws wv φ fs N) (hs : s + 1 ≤ F) : MK (w.setCell ⟨M, 1, none⟩ (.int .i64 ((s + 1 : Nat) : Int))) M F (s + 1) ws wv φ fs N ∧ KS M φ φ wv wv w (w.setCell ⟨M, 1, none⟩ (.int .i64 ((s + 1 : Nat) : Int))) := by
  have k : ∀ g, g ≠ M → (w.setCell ⟨M, 1, none⟩ (.int .i64 ((s + 1 : Nat) : Int))).heap[g]? = w.heap[g]? := fun g hg => Below.heap_setCell _ _ _ _ hg
  refine ⟨⟨h.blk.set_ 1 _, row_keepX h.row (fun g e => k g (by have := h.row.lt g e; omega)), h.len, h.fr.keep (fun e p m he => k m (by have := (h.low e p m he).1; omega)) (fun b hb hl => ⟨k b hb.1, hb⟩), h.dis, h.low, h.ent, h.hF, hs⟩, ⟨rfl, rfl, rfl, by simp, fun b hb hl => ⟨k b hb.1, hb⟩, Ext.refl _⟩⟩
end
/-- A map behind a store. -/
def Put (w w' : World) (S : Nat → Prop) (φ : List (Nat × Nat)) (B : Nat) (vars : List (Int × Pv)) (s : Int) (u : Pv) : Prop :=
  w.grownBy w' (some B) ∧ ∀ T : Nat → Prop, (∀ k, S k → k < w.heap.size → w'.heap[k]? = w.heap[k]? ∧ T k) → MapV w' T φ B ((s, u) :: vars)
theorem run_putV {w : World} {S : Nat → Prop} {φ : List (Nat × Nat)} {B : Nat} {vars : List (Int × Pv)} {s : Int} {u : Pv} {g : Nat} (h : MapV w S φ B vars) (hk : vars.length < maxLen) (hs : (Lit.int .i64 s).wf = true) (hu : PAt w S φ u g) :
    ∃ w', (Instr.mapUpdate 117 (.map (some B)) (.int .i64 s) (.pointer (some ⟨g, 0, none⟩))).run Try.prog w = .ok () w' ∧ Put w w' S φ B vars s u := by
  obtain ⟨D, h1, h2⟩ := h
  have hmap : IsMap D := by obtain ⟨_, _, _, _, _, rfl⟩ := h1; exact ⟨_, rfl⟩
  obtain ⟨w', hrun, h3, h4⟩ := h1.update int_lawV Try.underlying117 hk (keyOf_int_mk Try.underlying3 hs) (ptrElem_mk g)
  exact ⟨w', hrun, h4, fun T hk => MapV.put (k := 0) hmap h2 h3 hk hu⟩
theorem wpList_putV {w : World} {ops : Array Oper} {rest : List Oper} {o : Oper} {a : Act} {Q : Exit → Act → World → Prop} (hg : o.guard = none) (m x v : Operand) (hop : o.op = Op.mapUpdate 117 m x v) {S : Nat → Prop} {φ : List (Nat × Nat)} {B : Nat} {vars : List (Int × Pv)} {s : Int} {u : Pv} {g : Nat} (h : MapV w S φ B vars) (hk : vars.length < maxLen) (hs : (Lit.int .i64 s).wf = true) (hu : PAt w S φ u g)
    (hm : a.eval m = .map (some B)) (hx : a.eval x = .int .i64 s) (hv : a.eval v = .pointer (some ⟨g, 0, none⟩)) (hK : ∀ w', Put w w' S φ B vars s u → wpList Try.prog ops Q rest (a.put o.dst undef) w') : wpList Try.prog ops Q (o :: rest) a w := by
  refine wpList_plain hg fun K' hK' => ?_
  obtain ⟨w', hrun, h3⟩ := run_putV h hk hs hu
  unfold Oper.wp
  simp [execOp, hop, hm, hx, hv, hrun, Result.andThen]
  exact hK' _ _ (hK w' h3)
set_option maxRecDepth 100000 in
theorem step_putV {w : World} {ops : Array Oper} {o : Oper} {a : Act} {K : Act → World → Prop} {Q : Exit → Act → World → Prop} {E : Prop} (hg : o.guard = none) (m x v : Operand) (hop : o.op = Op.mapUpdate 117 m x v) {S : Nat → Prop} {φ : List (Nat × Nat)} {B : Nat} {vars : List (Int × Pv)} {s : Int} {u : Pv} {g : Nat} (h : MapV w S φ B vars) (hk : vars.length < maxLen) (hs : (Lit.int .i64 s).wf = true) (hu : PAt w S φ u g)
    (hm : a.eval m = .map (some B)) (hx : a.eval x = .int .i64 s) (hv : a.eval v = .pointer (some ⟨g, 0, none⟩)) (hK : ∀ w', Put w w' S φ B vars s u → K (a.put o.dst undef) w') : if Region.wanted o (yielded ops a.tmps) = true then Oper.wp Try.prog o a w K Q else E := by
  have hw : Region.wanted o (yielded ops a.tmps) = true := by simp [Region.wanted, hg]
  rw [if_pos hw]
  obtain ⟨w', hrun, h3⟩ := run_putV h hk hs hu
  unfold Oper.wp
  simp [execOp, hop, hm, hx, hv, hrun, Result.andThen]
  exact hK w' h3
section
variable {w w' w1 w2 : World} {M F s : Nat} {ws : List Int} {wv : Value} {φ ψ : List (Nat × Nat)} {fs : List Fr} {N : Nat}
/-- A variable is bound in a frame. -/
theorem MK.put (h : MK w M F s ws wv φ fs N) {e p m : Nat} (he : φ[e]? = some (p, m)) {f : Fr} (hf : fs[e]? = some f) {x : Int} {u : Pv} (hp : Put w w' (Nm M φ wv) φ m f.vars x u) : MK w' M F s ws wv φ (setV fs e x u) (N + 1) ∧ KS M φ φ wv wv w w' := by
  obtain ⟨hg, hM⟩ := hp
  have hlow := h.low e p m he
  have kk : ∀ k, Nm M φ wv k → k < w.heap.size → w'.heap[k]? = w.heap[k]? ∧ Nm M φ wv k := fun k hk hl => ⟨hg.block k hl (fun e2 => hk.2.2 e p m he (by injection e2)), hk⟩
  have hlen : (setV fs e x u).length = fs.length := by unfold setV; simp
  refine ⟨⟨?_, ?_, h.len, ⟨by rw [hlen]; exact h.fr.1, fun j q n hj => ?_⟩, h.dis, h.low, ?_, h.hF, h.hs⟩, ⟨hg.os, hg.tape, hg.output, hg.size, kk, Ext.refl _⟩⟩
  · exact (hg.block M h.blk.lt (fun e2 => by injection e2 with e2; omega)).trans h.blk
  · exact row_keepX h.row (fun g e2 => hg.block g (h.row.lt g e2).2 (fun e3 => by injection e3 with e3; exact hlow.2 (e3 ▸ e2)))
  · obtain ⟨f2, h1, h2, ⟨ua, h3, h4⟩, h5⟩ := h.fr.2 j q n hj
    have h3' : Blk w' q 121 #[.pointer ua, .map (some n)] := (kk q h2 h3.lt).1.trans h3
    by_cases hje : j = e
    · subst hje
      rw [he] at hj
      injection hj with hj
      injection hj with hq hn
      subst hq hn
      rw [hf] at h1
      injection h1 with h1
      subst h1
      refine ⟨⟨f.up, (x, u) :: f.vars⟩, ?_, h2, ⟨ua, h3', h4⟩, hM _ kk⟩
      unfold setV
      rw [List.getElem?_modify, hf]
      simp
    · refine ⟨f2, ?_, h2, ⟨ua, h3', h4⟩, h5.keep (Ext.refl _) (hg.block n h5.lt (fun e2 => hje (h.dis j e q p n hj (by injection e2 with e2; rw [e2]; exact he)))) kk⟩
      unfold setV
      rw [List.getElem?_modify, h1]
      simp [show ¬ e = j from fun h => hje h.symm]
  · intro g hgm
    unfold setV at hgm
    obtain ⟨i, hi, rfl⟩ := List.getElem_of_mem hgm
    rw [List.getElem_modify]
    have hi2 : i < fs.length := by simpa using hi
    have h0 := h.ent fs[i] (List.getElem_mem hi2)
    split
    · simp; omega
    · omega
end
/-- What a term that is no call leads to. -/
def HaltP (M F s : Nat) (k : Int) (ws ss : List Int) (φ : List (Nat × Nat)) (wv : Value) (w w' : World) : Prop := ∃ wv' sv' l, Blk w' M 113 #[.int .i64 F, .int .i64 s, wv', sv'] ∧ w'.ownsRow (M + 1) 3 1 wv' ws.length (ws.map (.int .i64)) ∧ w'.ownsRow (M + 1) 3 1 sv' l.length (l.map (.int .i64)) ∧ ((k = 1 → l = ss) ∧ Wr ws ∧ Wr l) ∧ w'.os = w.os ∧ w'.tape = w.tape ∧ w'.output = w.output ∧ w.heap.size ≤ w'.heap.size ∧ ∀ b, Nm M φ wv b → b < w.heap.size → w'.heap[b]? = w.heap[b]?
def DoP (st : Tm.St) (M F s : Nat) (φ : List (Nat × Nat)) (wv : Value) (N : Nat) (w : World) (e : Ending) (w' : World) : Prop := match st with
  | .go t fs ws => ∃ p wv', e = .returned (.pointer (some p)) ∧ MK w' M F s ws wv' φ fs N ∧ TPt w' (Nm M φ wv') p t ∧ KS M φ φ wv wv' w w'
  | .halt k ws ss => e = .panicked [stopK k] ∧ HaltP M F s k ws ss φ wv w w'
theorem MK.halt {w w' : World} {M F s : Nat} {ws : List Int} {wv : Value} {φ : List (Nat × Nat)} {fs : List Fr} {N : Nat} (h : MK w M F s ws wv φ fs N) (hb : Below w.heap.size w w') {k : Int} (hk : k ≠ 1) {ss : List Int} : HaltP M F s k ws ss φ wv w w' :=
  ⟨wv, .slice none 0 0, [], (h.up hb).blk, (h.up hb).row, World.ownsRow_nil _ _ _ _, ⟨fun e => absurd e hk, h.len, Wr.nil⟩, hb.os, hb.tape, hb.output, hb.size, fun b _ hl => hb.block b hl⟩
theorem DoP.go {t : Te} {fs : List Fr} {ws : List Int} {M F s N : Nat} {φ : List (Nat × Nat)} {wv wv' : Value} {w w' : World} {p : Addr} (h1 : MK w' M F s ws wv' φ fs N) (h2 : TPt w' (Nm M φ wv') p t) (h3 : KS M φ φ wv wv' w w') : DoP (.go t fs ws) M F s φ wv N w (.returned (.pointer (some p))) w' := ⟨p, wv', rfl, h1, h2, h3⟩
end Go.Proofs.Ytdmkjndlobichaa
