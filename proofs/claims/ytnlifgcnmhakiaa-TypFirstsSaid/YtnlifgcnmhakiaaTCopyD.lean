/-
  THE WALK OF athanorref12.CopyDecls: the same declared types, in new memory.
-/
import Derived.Test.YtnlifgcnmhakiaaTGRow
import Derived.Deep.RegionLaw
namespace Go.Proofs.Ytnlifgcnmhakiaa
open Go.ChangeShapes Go.WideShapes Go.ChangeAt Go.RowKit

def CopyDP (ds : List Dc) (w : World) (e : Ending) (w' : World) : Prop := (∃ v, e = .returned v ∧ DcsAt w' (fun b => w.heap.size ≤ b) ds v) ∧ Below w.heap.size w w'
theorem copy_dc {wr w1 : World} {cs : Array Value} {t t2 : TypeId} (hg : ((wr.alloc (.cells cs t)).alloc (.cells #[] t2)).grownBy w1 (some (wr.heap.size + 1))) : Blk w1 wr.heap.size t cs :=
  (hg.block wr.heap.size (by simp; omega) (fun e => by injection e with e; omega)).trans ((Blk.new wr t cs).alloc _)
theorem copy_below {wr w1 : World} {o o2 : Obj} (hg : ((wr.alloc o).alloc o2).grownBy w1 (some (wr.heap.size + 1))) : Below wr.heap.size wr w1 :=
  (below_2 (Below.refl _ _) o o2).grown hg (by simp; omega) (fun k e => by injection e with e; omega)
theorem cells_lit2 (w : World) {g : Nat} (hg : g = w.heap.size) (t : TypeId) (v0 v1 : Value) : ∀ j u, [v0, v1][j]? = some u → (w.alloc (.cells #[v0, v1] t)).cell? ((⟨g, 0, none⟩ : Addr).add j) = some u := by
  subst hg
  intro j u hj
  have hp : (⟨w.heap.size, 0, none⟩ : Addr).add j = ⟨w.heap.size, j, none⟩ := by unfold Addr.add; split <;> simp_all
  rw [hp, (Blk.new w t #[v0, v1]).cell j]
  simpa using hj
theorem copy_el {W w3 wr : World} {ks : List Cn} {B' P2 : Option Addr} {b' pc2 : Nat} {ys : List Value} {ps : List ByteArray} {pl : Int} {name : ByteArray} (hG : GB CnV 85 2 w3.heap.size ks ks.length (.slice B' ks.length b') ys wr) (hW : W.heap.size < w3.heap.size) (hb : Below w3.heap.size w3 wr)
    (hP : SRow w3 (fun b => W.heap.size + 1 ≤ b) ps P2) (hp : ps.length ≤ pc2 ∧ pc2 ≤ maxLen ∧ (P2 = none → ps = [] ∧ pc2 = 0)) (u : Value) (hpl : (Lit.int .i64 pl).wf = true) {o : Obj} :
    DcV ((wr.setCell ⟨W.heap.size, 2, none⟩ u).alloc o) (fun b => W.heap.size ≤ b) ⟨name, ps, ks, pl⟩ [.string name, .slice P2 ps.length pc2, .slice B' ks.length b', .int .i64 pl] := by
  obtain ⟨_, h2, h3, h4, h5⟩ := hG.cons rfl
  have key : ∀ S : Nat → Prop, (∀ b, S b → W.heap.size < b) → Stays wr ((wr.setCell ⟨W.heap.size, 2, none⟩ u).alloc o) S (fun b => W.heap.size ≤ b) := fun S hS k hk hl =>
    ⟨(Below.heap_alloc _ _ _ (by simpa using hl)).trans (Below.heap_setCell _ _ _ _ (by have := hS k hk; simp; omega)), by have := hS k hk; omega⟩
  exact ⟨P2, pc2, B', b', rfl, ⟨hp.1, hp.2.1, hp.2.2, (hP.up hb).keep (key _ (fun b h => by omega))⟩, ⟨h2, h3, h4, h5.keep (key _ (fun b h => by omega))⟩, hpl⟩
set_option maxHeartbeats 8000000 in
set_option maxRecDepth 100000 in
theorem ref12_CopyDecls (ds : List Dc) (v : Value) (S : Nat → Prop) (w : World) (hlim : Lim ds) (hv : DcsAt w S ds v) : Calls Try.prog 27 #[v] w (CopyDP ds w) := by
  obtain ⟨A, c, rfl, hc, hcm, _, hrow⟩ := hv
  have H := hid (And.intro hrow hlim)
  have hlen := hlim.1
  clear hrow hc hcm hlim
  go_enter Try.func27, Try.ntmps27
  go_wp2
  go_loopg [3, 4] ds.length (fun g lv xi wr => ∃ (i : Nat) (A' : Option Addr) (c' : Nat) (xs : List Value), i + g = ds.length ∧ xi = .int .i64 i ∧ lv = .slice A' i c' ∧ Hid (GB DcV 83 4 w.heap.size ds i (.slice A' i c') xs wr) ∧ Hid (Below w.heap.size w wr))
  case atStart => exact ⟨0, none, 0, [], by omega, rfl, rfl, hid (GB.start _ _ _), hid (Below.refl _ _)⟩
  case round =>
    obtain ⟨i, A', c', xs, hi, rfl, rfl, hG, hb⟩ := hrel
    have Hi := hid hi
    by_cases hlt : i < ds.length
    case neg =>
      obtain rfl : i = ds.length := by omega
      clear hi
      go_wp2
      go_ret
      exact ⟨⟨_, rfl, hG.out.decls rfl⟩, hb.out⟩
    have hlt' : (i : Int) < ds.length := by omega
    obtain ⟨ad, P, pc, C, cc, rfl, hSb, y0, y1, y2, y3, hP, hC, hpl⟩ := (H.out.1.up hb.out) i hlt
    have HL := hid hlt
    have HD := hid (And.intro (H.out.2.2 _ (List.getElem_mem hlt)) (And.intro hP (And.intro hC hpl)))
    have hlim := H.out.2.2 _ (List.getElem_mem hlt)
    generalize hd9 : ds[i] = d at y0 y1 y2 y3 HD hlim
    have Hd := hid hd9
    have hpn := hlim.1
    have hcn := hlim.2.1
    clear hSb hP hC hd9 hi hlim hpl
    go_wp2_with (at_builtin; go_must (refine wpList_appM Try.underlying80 info_str rfl (by omega) (by omega) (by rfl) _ _ (by rfl) (wr.heap.size + 1) (by rfl) (n := 0) (xs := []) (row_lit0 (by simp) (by simp)) (by rfl) (len0 HD.out.2.1.2.2.1) (by simp) (news_of_strs (HD.out.2.1.2.2.2.up (by go_grown : Below wr.heap.size wr _))) (by simp [Value.oneCell']) (by omega) (by simp) ?_); intro v' w1 hr hg hn; go_must (obtain ⟨P2, pc2, hv2, _⟩ := row_sliceG hr; subst hv2; have XD := hid (And.intro (copy_dc hg) (And.intro (strs_row hr) (copy_below hg))); have f1 := XD.out.1.frozen 1; have e1 : w1.cell? ⟨wr.heap.size, 1, none⟩ = some (.slice P d.params.length pc) := XD.out.1.cell 1; clear hr hg hn))
    have X3 : Hid ((Blk (w1.setCell ⟨wr.heap.size, 1, none⟩ (.slice P2 d.params.length pc2)) wr.heap.size 83 #[.string d.name, .slice P2 d.params.length pc2, .slice C d.cons.length cc, .int .i64 d.place]) ∧ SRow (w1.setCell ⟨wr.heap.size, 1, none⟩ (.slice P2 d.params.length pc2)) (fun b => wr.heap.size + 1 ≤ b) d.params P2 ∧ Below wr.heap.size wr (w1.setCell ⟨wr.heap.size, 1, none⟩ (.slice P2 d.params.length pc2))) :=
      hid ⟨XD.out.1.set_ 1 _, XD.out.2.1.2.2.2.2.keep (fun k hk _ => ⟨Below.heap_setCell _ _ _ _ (by dsimp only; omega), hk⟩), below_set XD.out.2.2 (Nat.le_refl _) _⟩
    have HP2 := hid (And.intro XD.out.2.1.2.1 (And.intro XD.out.2.1.2.2.1 XD.out.2.1.2.2.2.1))
    obtain ⟨gp, hgp⟩ : ∃ gp, gp = gk - 1 := ⟨_, rfl⟩
    have Hgp := hid hgp
    clear XD f1 e1 y0 y1 y2 y3 hgp
    revert X3
    generalize w1.setCell ⟨wr.heap.size, 1, none⟩ (.slice P2 d.params.length pc2) = w3
    intro X3
    obtain ⟨W, hW⟩ : ∃ W, W = wr := ⟨_, rfl⟩
    subst hW
    go_loopg [6, 7] d.cons.length (fun g2 xv xk w2 => ∃ (k : Nat) (B' : Option Addr) (b' : Nat) (ys : List Value), k + g2 = d.cons.length ∧ xk = .int .i64 k ∧ xv = .slice B' k b' ∧ Hid (GB CnV 85 2 w3.heap.size d.cons k (.slice B' k b') ys w2) ∧ Hid (Below w3.heap.size w3 w2))
    case atStart => exact ⟨0, none, 0, [], by omega, rfl, rfl, hid (GB.start _ _ _), hid (Below.refl _ _)⟩
    case round =>
      obtain ⟨k, B', b', ys, hk, rfl, rfl, hG2, hb2⟩ := hrel
      have Hk := hid hk
      have Y := hid (X3.out.1.below hb2.out X3.out.1.lt)
      have y0 : wr.cell? ⟨_, 0, none⟩ = some (.string d.name) := Y.out.cell 0
      have y1 : wr.cell? ⟨_, 1, none⟩ = some (.slice P2 d.params.length pc2) := Y.out.cell 1
      have y2 : wr.cell? ⟨_, 2, none⟩ = some (.slice C d.cons.length cc) := Y.out.cell 2
      have y3 : wr.cell? ⟨_, 3, none⟩ = some (.int .i64 d.place) := Y.out.cell 3
      by_cases hkl : k < d.cons.length
      case neg =>
        obtain rfl : k = d.cons.length := by omega
        have f2 := Y.out.frozen 2
        have Z := hid (Y.out.set_ 2 (.slice B' d.cons.length b'))
        have z0 : (wr.setCell ⟨W.heap.size, 2, none⟩ (.slice B' d.cons.length b')).cell? ⟨W.heap.size, 0, none⟩ = some (.string d.name) := Z.out.cell 0
        have z1 : (wr.setCell ⟨W.heap.size, 2, none⟩ (.slice B' d.cons.length b')).cell? ⟨W.heap.size, 1, none⟩ = some (.slice P2 d.params.length pc2) := Z.out.cell 1
        have z2 : (wr.setCell ⟨W.heap.size, 2, none⟩ (.slice B' d.cons.length b')).cell? ⟨W.heap.size, 2, none⟩ = some (.slice B' d.cons.length b') := Z.out.cell 2
        have z3 : (wr.setCell ⟨W.heap.size, 2, none⟩ (.slice B' d.cons.length b')).cell? ⟨W.heap.size, 3, none⟩ = some (.int .i64 d.place) := Z.out.cell 3
        have hw3 := X3.out.2.2.size
        have hbl := X3.out.1.lt
        have hb5 := hid (below_set (below_hop hb2.out X3.out.2.2) (Nat.le_refl _) (.slice B' d.cons.length b') (i := 2))
        have hE := hid (fun o => copy_el (o := o) (pl := d.place) (name := d.name) hG2.out (by omega) hb2.out X3.out.2.1 HP2.out (.slice B' d.cons.length b') HD.out.2.2.2)
        have hgk := Hi.out
        have hgp := Hgp.out
        have hlt2 := HL.out
        clear hk Z Y hw3 hbl
        go_wp2_with (at_builtin; go_must (refine wpList_appG Try.underlying51 info_decl rfl (by omega) (by omega) (by rfl) _ _ (by rfl) w.heap.size (by rfl) (n := i) (World.ownsRow.alloc (hG.out.up DcV.keeps hb5.out).row _) (by rfl) (by rfl) (cells_lit _ (by simp) _ _ _ _ _) (by simp [Value.oneCell']) (by omega) (by have h1 := hb5.out.size; have h2 := hb.out.size; simp at h1 ⊢; omega) ?_); intro v2 w9 hr hg hn; go_must (obtain ⟨A6, c6, rfl, _⟩ := row_sliceG hr; have N := hid (hG.out.next DcV.keeps hb.out.size hlt2 (hb5.out.alloc (by have h1 := hb5.out.size; simp at h1 ⊢; omega) _) rfl (of_get (P := fun x => DcV _ _ x _) Hd.out (hE.out _)) hr hg hn); clear hr hg hn))
        go_roundg gp
        case rel => exact ⟨i + 1, A6, c6, _, by omega, by go_num, rfl, hid N.out.1, hid (hb.out.trans N.out.2)⟩
        case measure => omega
      have hkl' : (k : Int) < d.cons.length := by omega
      obtain ⟨ad2, A3, c3, hC2, hSb2, x0, x1, g1, g2, g3, g4⟩ := (HD.out.2.2.1.2.2.2.up (below_hop hb2.out X3.out.2.2)) k hkl
      subst hC2
      have hlc := HD.out.1.2.2 _ (List.getElem_mem hkl)
      have HKL := hid hkl
      generalize hx9 : d.cons[k] = x at x0 x1 g1 g2 g3 g4 hlc
      have HX := hid hx9
      have HQ := hid (And.intro g1 (And.intro g2 (And.intro g4 hlc.2)))
      have HW := hid (And.intro (cell_lt x0) (cell_lt y2))
      have hk1 : k + 1 ≤ 1000000 := by omega
      have hB2 := hb2.out.size
      have x0d : wr.drew.cell? (ad2.add (k * 2)) = some (.string x.name) := x0
      have x1d : wr.drew.cell? ⟨(ad2.add (k * 2)).block, (ad2.add (k * 2)).off + 1, none⟩ = some (.slice A3 x.fields.length c3) := x1
      have y2d : wr.drew.cell? ⟨W.heap.size, 2, none⟩ = some (.slice (some ad2) d.cons.length cc) := y2
      clear hk hSb2 hx9 g1 g2 g3 g4 hlc
      go_wp2
      go_region_law (first
        | (refine step_appG Try.underlying81 info_con rfl (by omega) (by omega) (by rfl) _ _ (by rfl) w3.heap.size (by rfl) (n := k) (World.ownsRow.alloc (hG2.out.up CnV.keeps b1.out).row _) (by rfl) (by rfl) (cells_lit2 _ (by simp) _ _ _) (by simp [Value.oneCell']) hk1 (by have h1 := b1.out.size; simp; omega) ?_; intro v2 w9 hr hg hn; obtain ⟨A6, c6, rfl, _⟩ := row_sliceG hr; have N := hid (hG2.out.next CnV.keeps hB2 HKL.out (b1.out.alloc (by have h1 := b1.out.size; simp at h1 ⊢; omega) _) rfl (of_get (P := fun x => CnV _ _ x _) HX.out ⟨A5, c5, rfl, J.out.1, J.out.2.1, J.out.2.2.1, TRow.keep (fun k hk hl => ⟨Below.heap_alloc _ _ _ hl, hk⟩) _ _ _ J.out.2.2.2⟩) hr hg hn); clear hr hg hn)
        | (go_simp; go_at_call 48; refine (ref12_copyTypes 20000 x.fields HQ.out.2.2.2 (by omega) A3 c3 S _ (HQ.out.2.2.1.up ((Below.refl _ _).drew)) HQ.out.1 HQ.out.2.1).mono ?_; rintro e w1 ⟨⟨A5, c5, rfl, j1, j2, j3, j4⟩, b1'⟩; have b1 : Hid (Below wr.heap.size wr w1) := hid (((Below.refl _ _).drew).trans b1'); have J := hid (And.intro j1 (And.intro j2 (And.intro j3 j4))); clear j1 j2 j3 j4 b1'; have t0 := (b1.out.cell HW.out.1).trans x0; have t2 := (b1.out.cell HW.out.2).trans y2))
      all_goals
        have hgk := Hk.out
        have hgk2 := HKL.out
        go_wp2
        go_roundg (gk - 1)
        case rel => exact ⟨k + 1, A6, c6, _, by omega, by go_num, rfl, hid N.out.1, hid (hb2.out.trans N.out.2)⟩
        case measure => omega
end Go.Proofs.Ytnlifgcnmhakiaa
