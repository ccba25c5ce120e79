/-
  THE ITERATOR heap.objects: as a range over a function wants it.
-/
import Derived.Test.YtikdflppccbdaaaHRange
import Derived.Test.YtikdflppccbdaaaHBase
import Derived.Test.YtikdflppccbdaaaHCells
import Derived.Sort.LoopGhostIn
import Derived.Shelf.Abstract
import Derived.Shelf.RegionOpen
import Derived.WalkKit
import Derived.OwnWalkIn
import Derived.TacticsInMore
import Derived.LoopNIn
import Derived.LoopIn
namespace Go.Proofs.Ytikdflppccbdaaa
open Go.ChangeShapes Go.WideShapes Go.ChangeAt Go.RowKit Go.Shelf
attribute [local go_sem] Oper.semAt_some

/-- An object, as it is told. -/
structure Ob where
  at_ : Int
  tag : Int
  size : Int
def encO (o : Ob) : Array Value := #[.agg #[.int .i64 o.at_, .int .i64 o.tag, .int .i64 o.size]]
def oseq (f : Nat → Int) (top k : Nat) : List Ob :=
  if _h : k < top then (if OfOk (f k) ∧ k + ofS (f k) < top then ⟨k, ofT (f k), ofS (f k)⟩ :: oseq f top (k + ofS (f k) + 1) else [⟨k, 0, -1⟩]) else []
termination_by top - k
theorem oseq_end {f : Nat → Int} {top k : Nat} (h : ¬ k < top) : oseq f top k = [] := by rw [oseq, dif_neg h]
theorem oseq_bad {f : Nat → Int} {top k : Nat} (h : k < top) (h2 : ¬ (OfOk (f k) ∧ k + ofS (f k) < top)) : oseq f top k = [⟨k, 0, -1⟩] := by rw [oseq, dif_pos h, if_neg h2]
theorem oseq_step {f : Nat → Int} {top k : Nat} (h : k < top) (h2 : OfOk (f k) ∧ k + ofS (f k) < top) : oseq f top k = ⟨k, ofT (f k), ofS (f k)⟩ :: oseq f top (k + ofS (f k) + 1) := by
  rw [oseq, dif_pos h, if_pos h2]

theorem drop_cons {α : Type} {l : List α} {j : Nat} {x : α} {r : List α} (h : l.drop j = x :: r) : ∃ hj : j < l.length, l[j] = x ∧ l.drop (j + 1) = r := by
  have hj : j < l.length := by
    rcases Nat.lt_or_ge j l.length with h1 | h1
    · exact h1
    · rw [List.drop_eq_nil_of_le h1] at h; cases h
  have h2 := List.drop_eq_getElem_cons hj
  rw [h2] at h
  injection h with h3 h4
  exact ⟨hj, h3, h4⟩
/-- What a round must keep: what lay below n₀, and the iterator's three cells from b on. -/
def KpZ (n₀ b : Nat) (W W' : World) : Prop := Below n₀ W W' ∧ W'.heap[b]? = W.heap[b]? ∧ W'.heap[b + 1]? = W.heap[b + 1]? ∧ W'.heap[b + 1 + 1]? = W.heap[b + 1 + 1]?
theorem KpZ.trans {n₀ b : Nat} {A B C : World} (h : KpZ n₀ b A B) (k : KpZ n₀ b B C) : KpZ n₀ b A C := ⟨h.1.trans k.1, k.2.1.trans h.2.1, k.2.2.1.trans h.2.2.1, k.2.2.2.trans h.2.2.2⟩
theorem KpZ.refl (n₀ b : Nat) (W : World) : KpZ n₀ b W W := ⟨Below.refl _ _, rfl, rfl, rfl⟩

theorem heap_objects (A : Option Addr) (n c : Nat) (base top : Int) (w : World) :
    Calls Try.prog 28 #[.slice A n c, .int .i64 base, .int .i64 top] w fun e w' => e = .returned (.func (.func 48) #[] #[.pointer (some ⟨w.heap.size + 1, 0, none⟩), .pointer (some ⟨w.heap.size + 1 + 1, 0, none⟩), .pointer (some ⟨w.heap.size, 0, none⟩)]) ∧
      w' = ((w.alloc (.cells #[.slice A n c] 22)).alloc (.cells #[.int .i64 base] 3)).alloc (.cells #[.int .i64 top] 3) := by
  go_enter Try.func28, Try.ntmps28
  go_wp2
  go_ret
  exact ⟨rfl, rfl⟩

set_option maxRecDepth 100000 in
theorem objs_seq (m n₀ b : Nat) (A : Option Addr) (n c : Nat) (ws : List Int) (base top : Nat) (w : World) (h1 : 1 ≤ m) (hb0 : n₀ ≤ b) (hi : Ints w n₀ A n c ws) (hn : n ≤ 6000) (htop : top ≤ n)
    (b0 : Blk w b 22 #[.slice A n c]) (b1 : Blk w (b + 1) 3 #[.int .i64 base]) (b2 : Blk w (b + 1 + 1) 3 #[.int .i64 top]) :
    SeqZ Fence.wide m Try.prog 48 #[.pointer (some ⟨b + 1, 0, none⟩), .pointer (some ⟨b + 1 + 1, 0, none⟩), .pointer (some ⟨b, 0, none⟩)] encO (KpZ n₀ b) (oseq (gw ws) top base) (b + 1) w := fun l J Jx W hW hJ hJx hJz hJxz hY h0 => by
  refine callsIn_of_wp Try.func48 rfl trivial ?_ rfl
  simp only [Try.ntmps48, List.size_toArray, List.length_cons, List.length_nil, Nat.reduceAdd, Nat.reduceSub, Array.replicate_succ, Array.replicate_zero, List.push_toArray, List.append_toArray, List.nil_append, List.cons_append]
  gi_wp2
  have HY := hid hY
  have HJ := hid (And.intro hJz hJxz)
  clear hY hJz hJxz hJ hJx
  gi_loopg [] (top - base) (fun g wr => ∃ (k j : Nat), k + g = top - base + base ∧ Hid ((oseq (gw ws) top base).drop j = oseq (gw ws) top k ∧ j ≤ (oseq (gw ws) top base).length) ∧ Hid (Below n₀ w wr) ∧ Hid (Blk wr b 22 #[.slice A n c]) ∧ Hid (Blk wr (b + 1) 3 #[.int .i64 k]) ∧ Hid (Blk wr (b + 1 + 1) 3 #[.int .i64 top]) ∧ Hid (J j wr))
  case atStart =>
    have e := b2.lt
    exact ⟨base, 0, by omega, hid ⟨rfl, Nat.zero_le _⟩, hid (hW.mono (by omega)), hid (b0.below hW (by omega)), hid (b1.below hW (by omega)), hid (b2.below hW (by omega)), hid h0⟩
  case round =>
    obtain ⟨k, j, hk, hd, hB, hb0', hb1', hb2', hj⟩ := hrel
    have Hk := hid hk
    have x0 := hb0'.out.cell0
    have x1 := hb1'.out.cell0
    have x2 := hb2'.out.cell0
    by_cases hlt : k < top
    · have hkn : k < n := by omega
      have hk6 : k < 6000 := by omega
      obtain ⟨ad, rfl⟩ := hi.some_ hkn
      have q1 := (hi.below hB.out (Nat.le_refl _)).cell hkn
      have hw := hid (hi.wf_at hkn)
      clear hk
      by_cases hok : OfOk (gw ws k)
      · have hV := hid (ofV_yes hok)
        have hsz := ofS_le hok
        by_cases hle : k + ofS (gw ws k) < top
        · have hst := oseq_step hlt ⟨hok, hle⟩
          rw [← hd.out.1] at hst
          obtain ⟨hjl, hxj, hdr⟩ := drop_cons hst
          obtain ⟨fn, tmps, assign, body, hy, hR⟩ := HY.out j hjl wr hj.out
          rw [hxj] at hy
          simp only [encO] at hy
          have Hd := hid (And.intro hjl hdr)
          clear hst hxj hok hdr hjl
          generalize ofS (gw ws k) = s at hV hsz hle Hd hy
          generalize ofT (gw ws k) = tg at hV hy
          gi_wp2_with (refine ⟨trivial, ?_⟩; gi_at_call 43; go_must (refine (callsIn_wide.2 (cells_Of _ hw.out _)).mono ?_); rw [hV.out]; rintro e w' ⟨rfl, rfl⟩)
          refine hR.mono ?_
          rintro e W3 (⟨rfl, hJ3, hk3⟩ | ⟨rfl, hx3⟩)
          · have y1 := (Blk.cell0 (w := W3) (g := b + 1) (t := 3) (v := .int .i64 k) (by unfold Blk; rw [hk3.2.2.1]; exact hb1'.out))
            have y2 := (Blk.frozen (w := W3) (g := b + 1) (t := 3) (cs := #[.int .i64 k]) (by unfold Blk; rw [hk3.2.2.1]; exact hb1'.out) 0)
            have K3 := hid hk3
            have J3 := hid hJ3
            clear hk3 hJ3
            gi_wp2
            have hgk := Hk.out
            gi_roundg (gk - (s + 1))
            case rel =>
              refine ⟨k + s + 1, j + 1, by omega, hid ⟨Hd.out.2, Hd.out.1⟩, hid (below_set (hB.out.trans K3.out.1) (by omega) _), hid (Blk.far (by unfold Blk; rw [K3.out.2.1]; exact hb0'.out) (by dsimp only; omega) _), hid ?_, hid (Blk.far (by unfold Blk; rw [K3.out.2.2.2]; exact hb2'.out) (by dsimp only; omega) _), hid (HJ.out.1 _ _ _ J3.out)⟩
              have := Blk.set0 (w := W3) (g := b + 1) (t := 3) (v := .int .i64 k) (by unfold Blk; rw [K3.out.2.2.1]; exact hb1'.out) (.int .i64 (k + s + 1 : Nat))
              rwa [show ((k + s + 1 : Nat) : Int) = (k : Int) + ((s : Int) + 1) from by omega] at this ⊢
            case measure => omega
          · gi_wp2
            refine bodyPost_ret (results_none rfl _ _ _) rfl ?_
            exact ⟨⟨_, rfl⟩, .inr ⟨j + 1, Hd.out.1, hx3⟩⟩
        · have hst := oseq_bad hlt (fun h => hle h.2)
          have hV := hid (ofV_yes hok)
          have hsz := ofS_le hok
          clear hok
          generalize ofS (gw ws k) = s at hV hsz hle
          generalize ofT (gw ws k) = tg at hV
          rw [← hd.out.1] at hst
          obtain ⟨hjl, hxj, hdr⟩ := drop_cons hst
          obtain ⟨fn, tmps, assign, body, hy, hR⟩ := HY.out j hjl wr hj.out
          rw [hxj] at hy
          simp only [encO] at hy
          have Hd := hid (And.intro hjl (List.drop_eq_nil_iff.1 hdr))
          clear hst hxj hdr hjl
          gi_wp2_with (refine ⟨trivial, ?_⟩; gi_at_call 43; go_must (refine (callsIn_wide.2 (cells_Of _ hw.out _)).mono ?_); rw [hV.out]; rintro e w' ⟨rfl, rfl⟩)
          refine hR.mono ?_
          rintro e W3 (⟨rfl, hJ3, hk3⟩ | ⟨rfl, hx3⟩)
          · gi_wp2
            refine bodyPost_ret (results_none rfl _ _ _) rfl ?_
            refine ⟨⟨_, rfl⟩, .inl ?_⟩
            have e : j + 1 = (oseq (gw ws) top base).length := by have := Hd.out; omega
            rw [← e]
            exact hJ3
          · gi_wp2
            refine bodyPost_ret (results_none rfl _ _ _) rfl ?_
            exact ⟨⟨_, rfl⟩, .inr ⟨j + 1, Hd.out.1, hx3⟩⟩
      · have hV := hid (ofV_no hok)
        have hst := oseq_bad hlt (fun h => hok h.1)
        clear hok
        rw [← hd.out.1] at hst
        obtain ⟨hjl, hxj, hdr⟩ := drop_cons hst
        obtain ⟨fn, tmps, assign, body, hy, hR⟩ := HY.out j hjl wr hj.out
        rw [hxj] at hy
        simp only [encO] at hy
        have Hd := hid (And.intro hjl (List.drop_eq_nil_iff.1 hdr))
        clear hst hxj hdr hjl
        gi_wp2_with (refine ⟨trivial, ?_⟩; gi_at_call 43; go_must (refine (callsIn_wide.2 (cells_Of _ hw.out _)).mono ?_); rw [hV.out]; rintro e w' ⟨rfl, rfl⟩)
        refine hR.mono ?_
        rintro e W3 (⟨rfl, hJ3, hk3⟩ | ⟨rfl, hx3⟩)
        · gi_wp2
          refine bodyPost_ret (results_none rfl _ _ _) rfl ?_
          refine ⟨⟨_, rfl⟩, .inl ?_⟩
          have e : j + 1 = (oseq (gw ws) top base).length := by have := Hd.out; omega
          rw [← e]
          exact hJ3
        · gi_wp2
          refine bodyPost_ret (results_none rfl _ _ _) rfl ?_
          exact ⟨⟨_, rfl⟩, .inr ⟨j + 1, Hd.out.1, hx3⟩⟩
    · have hst := oseq_end hlt (f := gw ws)
      rw [← hd.out.1] at hst
      have hjl := List.drop_eq_nil_iff.1 hst
      have HD := hid (And.intro hjl hd.out.2)
      clear hst hjl hk
      gi_wp2
      go_end0
      refine ⟨⟨_, rfl⟩, .inl ?_⟩
      have e : j = (oseq (gw ws) top base).length := by have := HD.out; omega
      rw [← e]
      exact hj.out
end Go.Proofs.Ytikdflppccbdaaa
