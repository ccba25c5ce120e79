/-
  THE WALK OF (*ref28.mover).word.
-/
import Derived.Test.YtikdflppccbdaaaHColP
import Derived.Test.YtikdflppccbdaaaHAllocR
import Derived.Deep.RegionHeld3
import Derived.Deep.RegionWith
namespace Go.Proofs.Ytikdflppccbdaaa
open Go.ChangeShapes Go.WideShapes Go.ChangeAt Go.RowKit

theorem gw_tab {n : Nat} {f : Nat → Int} {i : Nat} (h : i < n) : gw (tab n f) i = f i := tab_get h
/-- All but three blocks are as they were. -/
structure Keeps3 (a b c : Nat) (w w' : World) : Prop where
  os : w'.os = w.os
  tape : w'.tape = w.tape
  output : w'.output = w.output
  size : w.heap.size ≤ w'.heap.size
  block : ∀ j, j < w.heap.size → j ≠ a → j ≠ b → j ≠ c → w'.heap[j]? = w.heap[j]?
theorem Keeps3.refl (a b c : Nat) (w : World) : Keeps3 a b c w w := ⟨rfl, rfl, rfl, Nat.le_refl _, fun _ _ _ _ _ => rfl⟩
theorem Keeps3.blk {a b c j : Nat} {w w' : World} {t : TypeId} {cs : Array Value} (h : Keeps3 a b c w w') (hb : Blk w j t cs) (ha : j ≠ a) (hbb : j ≠ b) (hc : j ≠ c) : Blk w' j t cs := (h.block j hb.lt ha hbb hc).trans hb
theorem Keeps3.below {a b c B : Nat} {w0 w w' : World} (h : Keeps3 a b c w w') (hb : Below B w0 w) (ha : B ≤ a) (hbb : B ≤ b) (hc : B ≤ c) (hs : B ≤ w.heap.size) : Below B w0 w' :=
  hb.trans ⟨h.os, h.tape, h.output, h.size, fun k hk => h.block k (by omega) (by omega) (by omega) (by omega)⟩

theorem Only.cell {g : Nat} {w w' : World} (h : Only g w w') {p : Addr} (hp : p.block ≠ g) : w'.cell? p = w.cell? p := World.cell?_of_block (w := w) (h.block p.block hp)
theorem Only.frozen {g : Nat} {w w' : World} (h : Only g w w') {p : Addr} (hp : p.block ≠ g) : w'.frozen? p = w.frozen? p := World.frozen?_of_block (w := w) (h.block p.block hp)
theorem step_copyI {ops : Array Oper} {o : Oper} {a : Act} {w : World} {K : Act → World → Prop} {Q : Exit → Act → World → Prop} {E : Prop} (hgd : o.guard = none) (d s : Operand)
    (ho : o.op = .call { callee := .builtin .copy, args := #[d, s], argTypes := #[22, 22] })
    {g n cap : Nat} {xs : List Int} (hr : Row w g n cap xs) {A : Option Addr} {m c Bs : Nat} {ys : List Int} (hi : Ints w Bs A m c ys) {off dLen dCap : Nat} {dp : Option Addr}
    (hd : a.eval d = .slice dp dLen dCap) (hs : a.eval s = .slice A m c) (hdp : 0 < m → dp = some ⟨g, off, none⟩) (hm : m ≤ dLen) (hoff : off + m ≤ n)
    (h : ∀ w', Only g w w' → Row w' g n cap (spl xs off ys) → K (a.put o.dst (.int .i64 m)) w') : if Region.wanted o (yielded ops a.tmps) = true then Oper.wp Try.prog o a w K Q else E := by
  have hw : Region.wanted o (yielded ops a.tmps) = true := by simp [Region.wanted, hgd]
  rw [if_pos hw]
  obtain ⟨w', hrun, h1, h2⟩ := run_copyI hr hi hdp hm hoff o.type
  unfold Oper.wp
  simp [execOp, ho, resolve, invoke, builtin, hd, hs, Result.andThen]
  rw [hrun]
  exact h w' h1 h2
theorem Ints.drew {w : World} {B n c : Nat} {A : Option Addr} {xs : List Int} (h : Ints w B A n c xs) : Ints w.drew B A n c xs := h.keep (Nat.le_refl _) (fun _ _ => rfl)
theorem Ints.sub {w : World} {B : Nat} {ad : Addr} {n c : Nat} {xs : List Int} (h : Ints w B (some ad) n c xs) {p q : Nat} (hq : p + q ≤ n) (h0 : 0 < q) : Ints w B (some (ad.add p)) q (c - p) ((xs.drop p).take q) := by
  have hl := h.len
  have hc := h.cap
  have hm := h.max
  refine ⟨by simp; omega, by omega, by omega, fun x hx => h.wf x (List.mem_of_mem_drop (List.mem_of_mem_take hx)), fun h => (by cases h), .inr ⟨_, rfl, ?_, ?_⟩⟩
  · rcases h.at_ with h1 | ⟨ad', hA, hb, _⟩
    · omega
    · injection hA with hA; subst hA
      rw [show (ad.add p).block = ad.block from by unfold Addr.add; split <;> rfl]; exact hb
  · intro i hi
    rw [Deep.add_add, h.cell (by omega)]
    have : gw ((xs.drop p).take q) i = gw xs (p + i) := by
      unfold gw
      simp [List.getD, hi, List.getElem?_drop]
    rw [this]
theorem spl_tab {n : Nat} {to : Nat → Int} {ws : List Int} {top p s : Nat} (hp : p + s + 1 ≤ ws.length) (ht : top + s + 1 ≤ n) : spl (tab n to) top ((ws.drop p).take (s + 1)) = tab n (cpy to (gw ws) top p (s + 1)) := by
  have hl : ((ws.drop p).take (s + 1)).length = s + 1 := by simp; omega
  apply List.ext_getElem
  · rw [spl_length (by rw [hl, tab_length]; omega), tab_length, tab_length]
  · intro i h1 h2
    have hi : i < n := by rw [tab_length] at h2; exact h2
    have e2 : (tab n (cpy to (gw ws) top p (s + 1)))[i] = cpy to (gw ws) top p (s + 1) i := by simp [tab]
    rw [e2]
    apply Option.some.inj
    rw [← List.getElem?_eq_getElem h1]
    unfold spl splice cpy
    rw [hl, List.getElem?_append]
    simp only [List.length_take, tab_length, Nat.min_eq_left (show top ≤ n by omega)]
    by_cases a1 : i < top
    · rw [if_pos a1, if_neg (by omega), List.getElem?_take, if_pos a1]
      simp [tab, hi]
    · rw [if_neg a1, List.getElem?_append, hl]
      by_cases a2 : i - top < s + 1
      · rw [if_pos a2, if_pos (by omega), List.getElem?_take, if_pos a2, List.getElem?_drop, gw_get? (by omega)]
      · rw [if_neg a2, if_neg (by omega), List.getElem?_drop]
        simp only [tab, List.getElem?_map]
        rw [List.getElem?_range (by omega)]
        simp only [Option.map_some, Option.some.injEq]
        congr 1; omega
/-- The reference's mover in memory. -/
structure RSt (W : World) (M g k : Nat) (A : Option Addr) (n c : Nat) (v1 v2 v3 v4 v5 : Value) (st : St) : Prop where
  blk : Blk W M 79 #[.slice A n c, v1, v2, v3, .slice (some ⟨g, 0, none⟩) n n, v4, v5, .int .i64 st.top, .slice (some ⟨k, 0, none⟩) n n]
  to : Row W g n n (tab n st.to)
  mv : Row W k n n (tab n st.mv)

theorem Blk.nine {w : World} {g : Nat} {t : TypeId} {a0 a1 a2 a3 a4 a5 a6 a7 a8 : Value} (h : Blk w g t #[a0, a1, a2, a3, a4, a5, a6, a7, a8]) :
    w.cell? ⟨g, 0, none⟩ = some a0 ∧ w.cell? ⟨g, 4, none⟩ = some a4 ∧ w.cell? ⟨g, 7, none⟩ = some a7 ∧ w.cell? ⟨g, 8, none⟩ = some a8 ∧ w.frozen? ⟨g, 7, none⟩ = false := ⟨h.cell 0, h.cell 4, h.cell 7, h.cell 8, h.frozen 7⟩
set_option maxHeartbeats 2000000 in
set_option maxRecDepth 100000 in
theorem refword_new (B M g k : Nat) (A : Option Addr) (n c : Nat) (ws : List Int) (v1 v2 v3 v4 v5 : Value) (st : St) (x : Int) (p s : Nat) (W : World) (h : RSt W M g k A n c v1 v2 v3 v4 v5 st) (hi : Ints W B A n c ws)
    (_hM : B ≤ M) (_hg : B ≤ g) (hk : B ≤ k) (h1 : M ≠ g) (h2 : M ≠ k) (h3 : g ≠ k) (hx : PlOk x) (hwf : (Lit.int .i64 x).wf = true) (hp : plN x = p) (hpn : p + s < n) (h0 : st.mv p = 0) (hs : ofS (gw ws p) = s) (hok : OfOk (gw ws p)) (hroom : st.top + s + 1 ≤ n) (hn : n ≤ 6000) :
    Calls Try.prog 44 #[.pointer (some ⟨M, 0, none⟩), .int .i64 x] W fun e W' => e = .returned (.int .i64 (1024 + 4 * st.top)) ∧ RSt W' M g k A n c v1 v2 v3 v4 v5 ⟨cpy st.to (gw ws) st.top p (s + 1), st.top + s + 1, upd st.mv p (1024 + 4 * st.top)⟩ ∧ Keeps3 M g k W W' := by
  obtain ⟨to, top, mv⟩ := st
  dsimp only at h h0 hroom ⊢
  obtain ⟨hb, ht, hv⟩ := h
  dsimp only at hb ht hv
  have hx2 : x % 2 = 0 ∧ 0 ≤ x := by unfold PlOk at hx; omega
  have hx3 : x.tmod 2 = x % 2 := Int.tmod_eq_emod_of_nonneg hx2.2
  have hx4 : (x.tmod 2 == 1) = false := by rw [hx3, hx2.1]; rfl
  have hx5 : (x % 2 == 1) = false := by rw [hx2.1]; rfl
  have hP := hid (plV_yes hx)
  rw [hp] at hP
  have hO := hid (ofV_yes hok)
  rw [hs] at hO
  have hwx := hid hwf
  have hpn' : p < n := by omega
  obtain ⟨ad, rfl⟩ := hi.some_ hpn'
  have q1 := hi.cell hpn'
  have hw := hid (hi.wf_at hpn')
  have q2 := hv.cell hpn'
  rw [gw_tab hpn', h0] at q2
  have q3 := hv.frozen p
  obtain ⟨x0, x4, x7, x8, f7⟩ := (hb).nine
  have HT := hid ht
  have HV := hid hv
  have HB := hid hb
  have HI := hid hi
  have hs64 : s ≤ 64 := by rw [← hs]; exact ofS_le hok
  have HH := hid (And.intro h0 (And.intro hs hp))
  have n1 : ¬ k = M := fun h => h2 h.symm
  have n2 : ¬ M = k := h2
  have n3 : ¬ g = M := fun h => h1 h.symm
  have n4 : ¬ M = g := h1
  have n5 : ¬ g = k := h3
  have n6 : ¬ k = g := fun h => h3 h.symm
  clear hx hp hwf hok hs h0 ht hv hb hi hx2 hx3
  go_enter Try.func44, Try.ntmps44
  go_wp2_with (first | (go_at_call 51; go_must (refine (ref27_Place x hwx.out _).mono ?_); rw [hP.out]; rintro e w1 ⟨rfl, rfl⟩) | (go_at_call 45; go_must (refine (ref27_Of _ hw.out _).mono ?_); rw [hO.out]; rintro e w1 ⟨rfl, rfl⟩) | (go_at_call 41; go_must (refine (ref27_Pointer _ _).mono ?_); rw [ptV_yes (by omega)]; rintro e w1 ⟨rfl, rfl⟩))
  go_region_held3 (fun w' => w'.cell? ⟨M, 8, none⟩ = some (.slice (some ⟨k, 0, none⟩) n n) ∧ w'.cell? ⟨M, 7, none⟩ = some (.int .i64 top)) (go_keep)
    (first | (go_at_call 41; refine (ref27_Pointer _ _).mono ?_; rw [ptV_yes (by omega)]; rintro e w1 ⟨rfl, rfl⟩))
  go_wp2
  have hb1 := (HB.out.far (p := ⟨k, p, none⟩) h2 (.int .i64 (1024 + 4 * top))).drew
  have ht1 := (HT.out.far (p := ⟨k, p, none⟩) h3 (.int .i64 (1024 + 4 * top))).drew
  have hv1 := (HV.out.set_ hpn' (k := 1024 + 4 * top) (by rw [← wrap_small (z := 1024 + 4 * (top : Int)) (by omega)]; exact wrap64_wf _)).drew
  have hi1 : Ints (W.setCell ⟨k, p, none⟩ (.int .i64 (1024 + 4 * top))).drew B (some ad) n c ws := HI.out.below (Below.drew (below_set (Below.refl B W) hk _)) (Nat.le_refl _)
  have hkp : Keeps3 M g k W (W.setCell ⟨k, p, none⟩ (.int .i64 (1024 + 4 * top))).drew := ⟨rfl, rfl, rfl, by simp [World.setCell], fun j _ _ _ h => Below.heap_setCell W ⟨k, p, none⟩ _ j h⟩
  generalize (W.setCell ⟨k, p, none⟩ (.int .i64 (1024 + 4 * top))).drew = W1 at *
  rw [tab_set] at hv1
  clear x0 x4 x7 x8 f7 q1 q2 q3
  obtain ⟨x0, x4, x7, x8, f7⟩ := (hb1).nine
  have q1 := hv1.cell hpn'
  rw [gw_tab hpn', show upd mv p (1024 + 4 * top) p = 1024 + 4 * top from if_pos rfl] at q1
  have HB1 := hid hb1
  have HT1 := hid ht1
  have HV1 := hid hv1
  have HI1 := hid (hi1.sub (p := p) (q := s + 1) (by omega) (by omega))
  have HK1 := hid hkp
  have hlen := hid (And.intro hi1.len hi1.cap)
  have b1 : (0 : Int) ≤ (top : Int) := by omega
  have b2 : (top : Int) ≤ (n : Int) := by omega
  have b3 : (0 : Int) ≤ (p : Int) := by omega
  have b4 : (p : Int) ≤ (p : Int) + (s : Int) + 1 := by omega
  have b5 : (p : Int) + (s : Int) + 1 ≤ (c : Int) := by have := hi1.cap; omega
  have b8 : (0 : Int) ≤ (p : Int) + (s : Int) + 1 := by omega
  have b9 : IntKind.i64.wrap ((p : Int) + (s : Int)) = (p : Int) + (s : Int) := IntWalk.i64_in _ (by omega)
  have b10 : IntKind.i64.wrap ((p : Int) + (s : Int) + 1) = (p : Int) + (s : Int) + 1 := IntWalk.i64_in _ (by omega)
  have b6 : ¬ n = top := by omega
  have b7 : ¬ c = p := by have := hi1.cap; omega
  clear hb1 ht1 hv1 hi1 hkp
  have HI2 : Hid (Ints W1.drew B (some (ad.add p)) (p + s + 1 - p) (c - p) ((ws.drop p).take (s + 1))) := hid (by rw [show p + s + 1 - p = s + 1 from by omega]; exact HI1.out.drew)
  go_region_held3 (fun w' => w'.cell? ⟨M, 0, none⟩ = some (.slice (some ad) n c) ∧ w'.cell? ⟨M, 4, none⟩ = some (.slice (some ⟨g, 0, none⟩) n n) ∧ w'.cell? ⟨M, 7, none⟩ = some (.int .i64 top)) (first | go_keep | exact ⟨(ho.cell (p := ⟨M, 0, none⟩) h1).trans x0, (ho.cell (p := ⟨M, 4, none⟩) h1).trans x4, (ho.cell (p := ⟨M, 7, none⟩) h1).trans x7⟩)
    ((refine step_copyI (by rfl) _ _ (by rfl) (g := g) (n := n) (cap := n) (xs := tab n to) HT1.out.drew (m := p + s + 1 - p) (Bs := B) (ys := (ws.drop p).take (s + 1)) HI2.out (by rfl) (by rfl) (off := top) (fun _ => by rfl) (by omega) (by omega) ?_; intro w2 ho hr2))
  have hb2 := ho.blk HB1.out.drew h1
  have hv2 := HV1.out.drew.only ho n6
  rw [spl_tab (by have := hlen.out; omega) (by omega)] at hr2
  have hk2 : Keeps3 M g k W w2 := ⟨ho.os.trans HK1.out.os, ho.tape.trans HK1.out.tape, ho.output.trans HK1.out.output, Nat.le_trans HK1.out.size (Nat.le_of_eq ho.size.symm), fun j h4 h5 h6 h7 => (ho.block j h6).trans (HK1.out.block j h4 h5 h6 h7)⟩
  clear x0 x4 x7 x8 f7 q1
  obtain ⟨x0, x4, x7, x8, f7⟩ := (hb2).nine
  have q1 := hv2.cell hpn'
  rw [gw_tab hpn', show upd mv p (1024 + 4 * top) p = 1024 + 4 * top from if_pos rfl] at q1
  have HB2 := hid hb2
  have HV2 := hid hv2
  have HR2 := hid hr2
  have HK2 := hid hk2
  clear hb2 hv2 hr2 hk2 ho b9 b10
  go_wp2
  go_ret
  refine ⟨rfl, ⟨?_, HR2.out.far n3 _, HV2.out.far n1 _⟩, HK2.out.os, HK2.out.tape, HK2.out.output, by simpa [World.setCell] using HK2.out.size, fun j h4 h5 h6 h7 => (Below.heap_setCell w2 ⟨M, 7, none⟩ _ j h5).trans (HK2.out.block j h4 h5 h6 h7)⟩
  dsimp only
  rw [show ((top + s + 1 : Nat) : Int) = (top : Int) + ((s : Int) + 1) from by omega]
  exact HB2.out.set_ 7 _

/-- One word that may be. -/
theorem ref_word (B M g k : Nat) (A : Option Addr) (n c : Nat) (ws : List Int) (v1 v2 v3 v4 v5 : Value) (st : St) (x : Int) (W : World) (sts mvl : List Nat) (b lim : Nat) (h : RSt W M g k A n c v1 v2 v3 v4 v5 st) (hi : Ints W B A n c ws)
    (hM : B ≤ M) (hg : B ≤ g) (hk : B ≤ k) (h1 : M ≠ g) (h2 : M ≠ k) (h3 : g ≠ k) (hn : n ≤ 6000) (hx : wordB n sts x = true) (hwf : (Lit.int .i64 x).wf = true) (hm : MI (gw ws) sts b st mvl) (hG : HG (gw ws) n sts b lim) :
    Calls Try.prog 44 #[.pointer (some ⟨M, 0, none⟩), .int .i64 x] W fun e W' => e = .returned (.int .i64 (mvv (mvw (gw ws) st x) x)) ∧ RSt W' M g k A n c v1 v2 v3 v4 v5 (mvw (gw ws) st x) ∧ Keeps3 M g k W W' := by
  rcases wordB_pl hx with ⟨p1, p2⟩ | ⟨p1, p2, p3, p4⟩
  · have e1 : mvw (gw ws) st x = st := mvw_same (fun h => p1 h.1)
    have e2 : mvv st x = x := if_neg p1
    rw [e1, e2]
    have hx2 : x % 2 = 1 ∧ 0 ≤ x := by unfold IntOk at p2; omega
    have hx3 : x.tmod 2 = x % 2 := Int.tmod_eq_emod_of_nonneg hx2.2
    have hx4 : (x.tmod 2 == 1) = true := by rw [hx3, hx2.1]; rfl
    have hx5 : (x % 2 == 1) = true := by rw [hx2.1]; rfl
    have HR := hid h
    clear h hx p1 p2 e1 e2 hx2 hx3 hwf
    go_enter Try.func44, Try.ntmps44
    go_wp2
    go_ret
    exact ⟨rfl, HR.out, Keeps3.refl _ _ _ _⟩
  · by_cases h0 : st.mv (plN x) = 0
    · have e1 := mvw_new (f := gw ws) ⟨p1, h0⟩
      have hr := hm.room hG p4 h0
      have hl := hG.lim
      have e2 : mvv (mvw (gw ws) st x) x = 1024 + 4 * st.top := by unfold mvv; rw [if_pos p1, e1]; show upd _ _ _ _ = _; unfold upd; rw [if_pos rfl]
      rw [e2, e1]
      exact refword_new B M g k A n c ws v1 v2 v3 v4 v5 st x _ _ W h hi hM hg hk h1 h2 h3 p1 hwf rfl (hG.fit _ p4) h0 rfl (hG.ok _ p4) (by omega) hn
    · have e1 := mvw_same (f := gw ws) (st := st) (x := x) (fun h => h0 h.2)
      have e2 : mvv (mvw (gw ws) st x) x = st.mv (plN x) := by unfold mvv; rw [if_pos p1, e1]
      rw [e2, e1]
      have hx2 : x % 2 = 0 ∧ 0 ≤ x := by unfold PlOk at p1; omega
      have hx3 : x.tmod 2 = x % 2 := Int.tmod_eq_emod_of_nonneg hx2.2
      have hx4 : (x.tmod 2 == 1) = false := by rw [hx3, hx2.1]; rfl
      have hx5 : (x % 2 == 1) = false := by rw [hx2.1]; rfl
      have hP := hid (plV_yes p1)
      have hwx := hid hwf
      have HR := hid h
      obtain ⟨hb, ht, hv⟩ := h
      have q2 := hv.cell p3
      rw [gw_tab p3] at q2
      obtain ⟨x0, x4, x7, x8, f7⟩ := (hb).nine
      generalize plN x = p at hP h0 p3 q2
      generalize st.mv p = u at h0 q2
      have q3 : (u == 0) = false := by simpa using h0
      clear hb ht hv p1 p2 p4 hx hwf hx2 hx3 e1 e2 h0
      go_enter Try.func44, Try.ntmps44
      go_wp2_with (go_at_call 51; go_must (refine (ref27_Place x hwx.out _).mono ?_); rw [hP.out]; rintro e w1 ⟨rfl, rfl⟩)
      go_ret
      exact ⟨rfl, HR.out, Keeps3.refl _ _ _ _⟩
end Go.Proofs.Ytikdflppccbdaaa
