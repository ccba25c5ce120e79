/-
  THE WALK OF athanorref28.Shape.
-/
import Derived.Test.YtikdflppccbdaaaHTold
import Derived.Test.YtikdflppccbdaaaHColM
namespace Go.Proofs.Ytikdflppccbdaaa
open Go.ChangeShapes Go.WideShapes Go.ChangeAt Go.RowKit Go.ChangeMaps

def SW3 (w1 : World) (n : Nat) : World := (w1.alloc (.cells (cellsOf (zeros n)) 3)).alloc (.cells #[.slice (some ⟨w1.heap.size, 0, none⟩) n n, .slice none 0 0] 82)
theorem SW3_facts (w1 : World) (n : Nat) (hn : n ≤ 6000) : TRt (SW3 w1 n) (SW3 w1 n).heap.size (w1.heap.size + 1) w1.heap.size n (.slice none 0 0) [] ∧ (SW3 w1 n).heap.size = w1.heap.size + 1 + 1 ∧ Below w1.heap.size w1 (SW3 w1 n) := by
  refine ⟨⟨?_, ?_, OwnI.nil _ _⟩, by simp [SW3], by unfold SW3; go_grown⟩
  · unfold SW3; exact Blk.new' (by simp) _ _
  · have : numR [] = fun _ => 0 := by funext q; simp [numR]
    rw [this, tab_zero]
    unfold SW3
    exact row_of_zeros (k := n) ((Blk.new _ _ _).alloc _) (by omega)
theorem Row.of_block {w w' : World} {g n cap : Nat} {xs : List Int} (h : Row w g n cap xs) (k : w'.heap[g]? = w.heap[g]?) : Row w' g n cap xs := by
  obtain ⟨a, b, c, d, cur, hh, e⟩ := h
  exact ⟨a, b, c, d, cur, k.trans hh, e⟩
theorem told_more {W W2 W3 : World} {B0 M g n : Nat} {vo vo' vx vx' : Value} {l l' : List Nat} {xs : List Int} {y : Int} (hB : B0 ≤ W.heap.size) (h1 : M < B0) (h2 : g < B0)
    (t0 : OwnI W B0 vo (ordI l)) (x0 : OwnI W B0 vx xs) (s0 : Sep vo vx) (t2 : TRt W2 B0 M g n vo' l') (k : KB M g vo.ownBlock W W2) (a2 : vo'.ownBlock = vo.ownBlock ∨ ∃ k, W.heap.size ≤ k ∧ vo'.ownBlock = some k)
    (g3 : (W2.alloc (.cells #[.int .i64 y] 3)).grownBy W3 vx.ownBlock) (a3 : vx'.ownBlock = vx.ownBlock ∨ vx'.ownBlock = some (W2.alloc (.cells #[.int .i64 y] 3)).heap.size) :
    TRt W3 B0 M g n vo' l' ∧ Sep vo' vx' ∧ B0 ≤ W3.heap.size ∧ ∀ {B : Nat} {w0 : World}, B ≤ B0 → B ≤ M → B ≤ g → Below B w0 W → Below B w0 W3 := by
  have hs2 := k.size
  have hs3 := g3.size
  rw [World.size_alloc] at hs3 a3
  have hx := x0.block_lt
  have ho := t0.block_lt
  have ho2 := t2.own.block_lt
  have s1 : Sep vo' vx := by
    intro q hg e
    rcases a2 with a2 | ⟨k', hk, a2⟩
    · exact s0 q (a2 ▸ hg) e
    · rw [a2] at hg; injection hg with hg; have := (hx q e).2; omega
  have nx : ∀ j, j < B0 → vx.ownBlock ≠ some j := fun j hj e => by have := (hx j e).1; omega
  refine ⟨⟨(t2.blk.alloc _).grown1 g3 (nx _ h1), (t2.num.alloc _).grown g3 (nx _ h2), ?_⟩, ?_, by omega, ?_⟩
  · refine (t2.own.alloc _).of_block fun q hg => g3.block q (by rw [World.size_alloc]; have := (ho2 q hg).2; omega) (fun e => s1 q hg e.symm)
  · intro q hg e
    rcases a3 with a3 | a3
    · exact s1 q hg (a3 ▸ e)
    · rw [a3] at e; injection e with e; have := (ho2 q hg).2; omega
  · intro B w0 b1 b2 b3 hb
    have hb2 : Below B w0 W2 := k.below hb b2 b3 (fun j hj => by have := (ho j hj).1; omega) (by omega)
    exact (hb2.alloc (by omega) _).grown g3 (by rw [World.size_alloc]; omega) (fun j hj => by have := (hx j hj).1; omega)
theorem roots_ok {N : Nat} {sts : List Nat} {f : Nat → Int} {k : Nat} (h : RootsOk N sts f k) {i : Nat} (hi : i < k) : ¬ PlOk (f i) ∧ IntOk (f i) ∨ PlOk (f i) ∧ plN (f i) < N := by
  rcases wordB_pl (h i hi) with ⟨a, b⟩ | ⟨a, _, b, _⟩
  · exact .inl ⟨a, b⟩
  · exact .inr ⟨a, b⟩
set_option maxHeartbeats 4000000 in
set_option maxRecDepth 100000 in
theorem ref28_Shape (B : Nat) (v rv : Value) (h : Hp) (roots : List Int) (w : World) (hBw : B ≤ w.heap.size) (i1 : IsHp w B v h) (i2 : IsInts w B rv roots) (hn6 : h.ws.length ≤ 6000) :
    Calls Try.prog 27 #[v, rv] w fun e w' => (∃ v', e = .returned v' ∧ IsInts w' w'.heap.size v' (shapeP h roots)) ∧ Below w.heap.size w w' := by
  obtain ⟨A, n, c, rfl, g1⟩ := i1
  obtain ⟨A2, m, d, rfl, g2⟩ := i2
  obtain ⟨ws, room, base, top⟩ := h
  dsimp only at g1 hn6 ⊢
  have en := g1.len
  have em := g2.len
  have HN : Hid ((Hp.mk ws room base top).ws.length ≤ 6000) := hid hn6
  have G1 := hid (g1.below (Below.refl B w) hBw)
  have G2 := hid (g2.below (Below.refl B w) hBw)
  clear g1 g2
  by_cases hg : GoodP ⟨ws, room, base, top⟩ roots
  · have HG := hid (decide_eq_true hg)
    obtain ⟨L, sts, q1, q2, q3, q4, q5, _⟩ := bfs_facts hg
    have HS := hid (shapeP_yes hg q2)
    obtain ⟨hG, hR⟩ := hg_of_good hg q1
    dsimp only at hG hR q1 q2 q5 HS
    have HRW := hid hR.words
    have HW := hid (And.intro hG.words hG.bound)
    have HBdy := hid hG.body
    have HGG := hid hG
    have HL : Hid (L.length ≤ 6000) := hid (by have := szs_ge (gw ws) L; have h9 := hg.1; unfold ShapedP at h9; dsimp only at h9 q5; omega)
    have HBD : Hid (szs (gw ws) L ≤ 3000) := hid (by have h9 := hg.1; unfold ShapedP at h9; dsimp only at h9 q5; omega)
    have HQ := hid q2
    have HSub := hid q4
    have hmk := make_ints n (by rw [en]; omega)
    have hn6' : n ≤ 6000 := by rw [en]; exact hn6
    have hm : m ≤ 64 := by have := hg.2.1; omega
    have HE := hid (And.intro en em)
    have HRO := hid (fun (i : Nat) (hi : i < m) => roots_ok hR (by rw [← em]; exact hi))
    clear hg q1 q2 q3 q4 q5 hG en em hn6
    have hn6 := hn6'
    clear hn6'
    go_enter Try.func27, Try.ntmps27
    go_wp2_with (first
      | (go_at_call 17; go_must (refine (ref28_Good _ _ _ ⟨ws, room, base, top⟩ roots _ (Nat.le_refl _) ?_ ?_ HN.out).mono ?_; (exact (G1.out.below (by go_grown : Below w.heap.size w _) (by first | (simp; done) | (simp; omega) | omega)).isHp (h := ⟨ws, room, base, top⟩)); (exact ⟨_, _, _, rfl, G2.out.below (by go_grown : Below w.heap.size w _) (by first | (simp; done) | (simp; omega) | omega)⟩)); rw [HG.out]; rintro e w1 ⟨rfl, b⟩; go_must (have HB := hid (Below.refl w.heap.size w); have b9 := below_hop b (by go_grown : Below w.heap.size w _); (try (have h9 := hid (G1.out.below b9 b9.size); clear G1; have G1 := h9; clear h9)); (try (have h9 := hid (G2.out.below b9 b9.size); clear G2; have G2 := h9; clear h9)); (try (have h9 := hid (G3.out.below b9 b9.size); clear G3; have G3 := h9; clear h9)); (try (have h9 := hid (G4.out.below b9 b9.size); clear G4; have G4 := h9; clear h9)); (try (have h9 := hid (G5.out.below b9 b9.size); clear G5; have G5 := h9; clear h9)); (try (have h9 := hid (G6.out.below b9 b9.size); clear G6; have G6 := h9; clear h9)); (try (have h9 := hid (G7.out.below b9 b9.size); clear G7; have G7 := h9; clear h9)); (try (have h9 := hid (G8.out.below b9 b9.size); clear G8; have G8 := h9; clear h9)); (try (have h9 := hid (G9.out.below b9 b9.size); clear G9; have G9 := h9; clear h9)); (try (have h9 := hid (G10.out.below b9 b9.size); clear G10; have G10 := h9; clear h9)); (try (have h9 := hid (G11.out.below b9 b9.size); clear G11; have G11 := h9; clear h9)); (try (have h9 := hid (G12.out.below b9 b9.size); clear G12; have G12 := h9; clear h9)); (try (have h9 := hid (G13.out.below b9 b9.size); clear G13; have G13 := h9; clear h9)); (try (have h9 := hid (G14.out.below b9 b9.size); clear G14; have G14 := h9; clear h9)); (try (have h9 := hid (X1.out.below b9 X1.out.lt); clear X1; have X1 := h9; clear h9; clear x10 x11 x12 x13 x14 x15 x16 x17; obtain ⟨x10, x11, x12, x13, x14, x15, x16, x17⟩ := X1.out.cells4)); (try (have h9 := hid (X2.out.below b9 X2.out.lt); clear X2; have X2 := h9; clear h9; clear x20 x21 x22 x23 x24 x25 x26 x27; obtain ⟨x20, x21, x22, x23, x24, x25, x26, x27⟩ := X2.out.cells4)); (try (have h9 := hid (X3.out.below b9 X3.out.lt); clear X3; have X3 := h9; clear h9; clear x30 x31 x32 x33 x34 x35 x36 x37; obtain ⟨x30, x31, x32, x33, x34, x35, x36, x37⟩ := X3.out.cells4)); (try (have h9 := hid (X4.out.below b9 X4.out.lt); clear X4; have X4 := h9; clear h9; clear x40 x41 x42 x43 x44 x45 x46 x47; obtain ⟨x40, x41, x42, x43, x44, x45, x46, x47⟩ := X4.out.cells4)); (try (have h9 := hid (X5.out.below b9 X5.out.lt); clear X5; have X5 := h9; clear h9; clear x50 x51 x52 x53 x54 x55 x56 x57; obtain ⟨x50, x51, x52, x53, x54, x55, x56, x57⟩ := X5.out.cells4)); (try (have h9 := hid (X6.out.below b9 X6.out.lt); clear X6; have X6 := h9; clear h9; clear x60 x61 x62 x63 x64 x65 x66 x67; obtain ⟨x60, x61, x62, x63, x64, x65, x66, x67⟩ := X6.out.cells4)); (try (have h9 := hid (X7.out.below b9 X7.out.lt); clear X7; have X7 := h9; clear h9; clear x70 x71 x72 x73 x74 x75 x76 x77; obtain ⟨x70, x71, x72, x73, x74, x75, x76, x77⟩ := X7.out.cells4)); (have h9 := hid (HB.out.trans (b9.mono HB.out.size)); clear HB; have HB := h9; clear h9); clear b9; have X1 := hid (Blk.below (Blk.new w 24 _) b (by first | (simp; done) | (simp; omega) | omega)); obtain ⟨x10, x11, x12, x13, x14, x15, x16, x17⟩ := X1.out.cells4; clear b)))
    refine (?_ : Code.wp _ _ _ _ (SW3 w1 n))
    obtain ⟨ht, hsz, hb1⟩ := SW3_facts w1 n hn6
    generalize SW3 w1 n = W0 at ht hsz hb1 ⊢
    have HSZ := hid hsz
    have HT0 := hid ht
    have HB1 := hid hb1
    clear hmk ht hsz hb1 x10 x11 x12 x13 x14 x15 x16 x17
    go_loopg [6, 7] m (fun gk xo xi wr => ∃ (k : Nat) (vo : Value), k + gk = m ∧ xi = .int .i64 k ∧ Hid (TRt wr W0.heap.size (w1.heap.size + 1) w1.heap.size n vo (encs [] (roots.take (k)))) ∧ Hid (OwnI wr W0.heap.size xo ((roots.take k).map (wnum L))) ∧ Hid (Sep vo xo) ∧ Hid (W0.heap.size ≤ wr.heap.size) ∧ Hid (Below w1.heap.size w1 wr))
    case atStart => exact ⟨0, _, by omega, rfl, hid HT0.out, hid (OwnI.nil _ _), hid (fun g hg => by cases hg), hid (Nat.le_refl _), HB1⟩
    case round =>
      obtain ⟨k, vo, hk, rfl, HT, HX, HSep, HZ, HB3⟩ := hrel
      have Hk := hid hk
      by_cases hlt : k < m
      · obtain ⟨ad, rfl⟩ := G2.out.some_ hlt
        have q1 := (G2.out.below HB3.out (Nat.le_refl _)).cell hlt
        have hw := hid (G2.out.wf_at hlt)
        have hkr : k < roots.length := by rw [← HE.out.2]; exact hlt
        obtain ⟨r1, hr1⟩ := lst_ext HQ.out (k + 1)
        have hls := lst_succ (l := []) hkr
        have hwn : wnum (enc (encs [] (roots.take (k))) (gw roots k)) (gw roots k) = wnum L (gw roots k) := by rw [hr1, hls]; exact (wnum_append fun h => enc_in h).symm
        have HWN := hid hwn
        have HLS := hid hls
        have HLE : Hid ((encs [] (roots.take k)).length ≤ 6000) := hid (by obtain ⟨r0, h0⟩ := lst_ext HQ.out k; have := HL.out; rw [h0, List.length_append] at this; omega)
        have hvw := hid (wnum_wf hw.out HL.out (fun h => by rw [hr1, hls]; exact List.mem_append_left _ (enc_in h)))
        have HTK := hid (take_succ_gw hkr)
        clear hk hls hwn hr1 hkr
        have HOK := hid (HRO.out k hlt)
        rw [← HE.out.1] at HOK
        generalize gw roots k = x at q1 hw HWN HLS hvw HTK HOK
        have PX : Hid True := trivial
        go_wp2_with (first
          | (go_at_call 47; have _ := PX; go_must (refine (told_ W0.heap.size (w1.heap.size + 1) w1.heap.size n _ (encs [] (roots.take (k))) x _ HT.out HZ.out (by have := HSZ.out; omega) (by have := HSZ.out; omega) (by omega) hw.out (by have := HLE.out; omega) hn6 HOK.out).mono ?_); rw [HWN.out]; rintro e w2 ⟨rfl, vo2, t2, k2, a2⟩; go_must (have T2 := hid t2; have K2 := hid k2; have A2' := hid a2; have HX2 := hid (k2.own HX.out (fun e => by have := (HX.out.lt e).1; have := HSZ.out; omega) (fun e => by have := (HX.out.lt e).1; have := HSZ.out; omega) (fun g hg e => HSep.out g hg e)); have hz2 := k2.size; clear t2 k2 a2))
          | (at_builtin; go_must (refine wpList_appJ (by rfl) _ _ (by rfl) W0.heap.size (by rfl) (HX2.out.alloc _) (by rfl) (ints_one (B := w2.heap.size + 1) rfl (by omega) hvw.out) (by rw [List.length_map, List.length_take]; omega) (by have := HZ.out; simp; omega) ?_); intro vx3 w3 x3 g3 a3))
        have hgk := Hk.out
        go_roundg (gk - 1)
        case rel =>
          obtain ⟨m1, m2, m3, m4⟩ := told_more HZ.out (by have := HSZ.out; omega) (by have := HSZ.out; omega) HT.out.own HX.out HSep.out T2.out K2.out A2'.out g3 a3
          refine ⟨k + 1, vo2, by omega, by go_num, hid (by rw [HLS.out]; exact m1), hid (by rw [HTK.out, List.map_append]; exact x3), hid m2, hid m3, hid (m4 (by have := HSZ.out; omega) (by omega) (Nat.le_refl _) HB3.out)⟩
        case measure => omega
      · obtain rfl : k = m := by omega
        have hkr : roots.take k = roots := by rw [HE.out.2]; exact List.take_length
        rw [hkr] at HT HX
        clear hk hlt hkr
        go_wp2
        go_loopg [6, 8] L.length (fun gk xo xi wr => ∃ (i : Nat) (vo : Value) (l : List Nat), i + gk = L.length ∧ xi = .int .i64 i ∧ Hid (Bfs (gw ws) l i L) ∧ Hid (i ≤ l.length) ∧ Hid (∀ p ∈ l, p ∈ sts) ∧ Hid (TRt wr W0.heap.size (w1.heap.size + 1) w1.heap.size n vo l) ∧ Hid (OwnI wr W0.heap.size xo (roots.map (wnum L) ++ (L.take i).flatMap (obj (gw ws) L))) ∧ Hid (Sep vo xo) ∧ Hid (W0.heap.size ≤ wr.heap.size) ∧ Hid (Below w1.heap.size w1 wr))
        case atStart => exact ⟨0, vo, _, by omega, rfl, HQ, hid (Nat.zero_le _), hid (encs_sub roots (by simp) HRW.out), HT, hid (by simpa using HX.out), HSep, HZ, HB3⟩
        case round =>
          clear HT HX HSep HZ HB3 vo HT0
          obtain ⟨i, vo, l, hi, rfl, HBf, Hil, Hls, HT, HX, HSep, HZ, HB3⟩ := hrel
          have Hi := hid hi
          obtain ⟨rL, hrL⟩ := HBf.out.ext
          have hlL : l.length ≤ L.length := by rw [hrL, List.length_append]; omega
          obtain ⟨Ao, co, hvo⟩ := HT.out.own.vals
          subst hvo
          obtain ⟨y9, y0, _⟩ := HT.out.blk.two
          by_cases hlt : i < l.length
          · have hLi : i < L.length := by omega
            obtain ⟨p, hp⟩ : ∃ p, l.getD i 0 = p := ⟨_, rfl⟩
            have hLp : L.getD i 0 = p := by rw [← hp, hrL]; simp [List.getD, List.getElem?_append, hlt]
            have hps : p ∈ sts := Hls.out p (by rw [← hp]; simp [List.getD, hlt])
            have hpf := HGG.out.fit p hps
            rw [← HE.out.1] at hpf
            have hpo := HGG.out.ok p hps
            have hio := HT.out.own.ints
            obtain ⟨ao, rfl⟩ := hio.some_ hlt
            have y1 := hio.cell hlt
            rw [gw_ordI hlt, hp] at y1
            obtain ⟨ad, rfl⟩ := G1.out.some_ (show p < n by omega)
            have G4 := hid (G1.out.below HB3.out (Nat.le_refl _))
            have y2 := G4.out.cell (show p < n by omega)
            have hw4 := hid (G4.out.wf_at (show p < n by omega))
            obtain ⟨x10, x11, x12, x13, x14, x15, x16, x17⟩ := (X1.out.below HB3.out X1.out.lt).cells4
            have HOV := hid (ofV_yes hpo)
            have hs64 := ofS_le hpo
            have hB4 := hid (bfs_step HBf.out hlt)
            rw [hp] at hB4
            obtain ⟨s, hse⟩ : ∃ s, s = ofS (gw ws p) := ⟨_, rfl⟩
            have HOL := hid (show (oth (gw ws) p).length = s by rw [oth_length, hse])
            rw [← hse] at HOV hs64 hpf
            have HSE := hid hse
            have HP := hid (And.intro hps hLp)
            have HL2 := hid hLi
            clear hi hse hps hLp hp hpo hio hrL
            obtain ⟨gp, rfl⟩ : ∃ gp, gk = gp + 1 := ⟨gk - 1, by have := Hi.out; omega⟩
            have PX : Hid True := trivial
            have hcap : n ≤ c := G1.out.cap
            go_wp2_with (first
              | (go_at_call 45; go_must (refine (ref27_Of _ hw4.out _).mono ?_); rw [HOV.out]; rintro e w2 ⟨rfl, rfl⟩)
              | (have _ := PX; (at_builtin; go_must (refine wpList_appJ (by rfl) _ _ (by rfl) W0.heap.size (by rfl) (HX.out.alloc _) (by rfl) (ints_one (B := wr.heap.size + 1) rfl (by omega) hw4.out) (by have := objs_take (gw ws) L i; have := HBD.out; have := HE.out.2; rw [List.length_append, List.length_map]; omega) (by have := HZ.out; simp; omega) ?_); intro vx3 w3 x3 g3 a3); go_must (obtain ⟨m1, m2, m3, m4⟩ := told_more HZ.out (by have := HSZ.out; omega) (by have := HSZ.out; omega) HT.out.own HX.out HSep.out HT.out (KB.refl _ _ _ _) (.inl rfl) g3 a3; have HB5 := hid (m4 (by have := HSZ.out; omega) (by omega) (Nat.le_refl _) HB3.out); have HT5 := hid m1; have HSep5 := hid m2; have HZ5 := hid m3; have HX5 := hid x3; clear m1 m2 m3 m4 x3 g3 a3 x10 x11 x12 x13 x14 x15 x16 x17 y0 y1 y2 y9 HT HX HSep HZ HB3 G4 PX; obtain ⟨x10, x11, x12, x13, x14, x15, x16, x17⟩ := (X1.out.below HB5.out X1.out.lt).cells4; clear x14 x15 x16 x17)))
            go_loopg [6, 13] s (fun gj xo xj w5 => ∃ (j : Nat) (vo : Value), j + gj = s ∧ xj = .int .i64 ((j + 1 : Nat) : Int) ∧ Hid (TRt w5 W0.heap.size (w1.heap.size + 1) w1.heap.size n vo (encs l ((oth (gw ws) p).take j))) ∧ Hid (OwnI w5 W0.heap.size xo (roots.map (wnum L) ++ (L.take i).flatMap (obj (gw ws) L) ++ ([gw ws p] ++ ((oth (gw ws) p).take j).map (wnum L)))) ∧ Hid (Sep vo xo) ∧ Hid (W0.heap.size ≤ w5.heap.size) ∧ Hid (Below w1.heap.size w1 w5))
            case atStart => exact ⟨0, _, by omega, rfl, HT5, hid (by simpa using HX5.out), HSep5, HZ5, HB5⟩
            case round =>
              clear HT5 HX5 HSep5 HZ5 HB5 x10 x11 x12 x13
              obtain ⟨j, vo, hj, rfl, HT, HX, HSep, HZ, HB3⟩ := hrel
              have Hj := hid hj
              by_cases hjs : j < s
              · have hjo : j < ofS (gw ws p) := by rw [← HSE.out]; exact hjs
                have y3 := (G1.out.below HB3.out (Nat.le_refl _)).cell (show p + 1 + j < n by omega)
                obtain ⟨q, hq⟩ : ∃ q, p + 1 + j = q := ⟨_, rfl⟩
                have hq1 : (p : Int) + ((j : Int) + 1) = (q : Int) := by omega
                have hq2 : IntKind.i64.wrap (q : Int) = (q : Int) := IntWalk.i64_in _ (by omega)
                have hq3 : (q : Int) < (n : Int) := by omega
                have hq4 : (0 : Int) ≤ (q : Int) := by omega
                have hjs1 : (j : Int) + 1 ≤ (s : Int) := by omega
                obtain ⟨x10, x11, x12, x13, x14, x15, x16, x17⟩ := (X1.out.below HB3.out X1.out.lt).cells4
                clear x14 x15 x16 x17
                have hok9 := HBdy.out p HP.out.1 (p + 1 + j) (by omega) (by rw [← HSE.out]; omega)
                have hok8 : ¬ PlOk (gw ws (p + 1 + j)) ∧ IntOk (gw ws (p + 1 + j)) ∨ PlOk (gw ws (p + 1 + j)) ∧ plN (gw ws (p + 1 + j)) < n := by
                  rcases wordB_pl hok9 with ⟨a1, a2⟩ | ⟨a1, _, a2, _⟩
                  · exact .inl ⟨a1, a2⟩
                  · exact .inr ⟨a1, by rw [HE.out.1]; exact a2⟩
                have hw := hid (G1.out.wf_at (show p + 1 + j < n by omega))
                have hgo := gw_oth (f := gw ws) hjo
                rw [← hgo] at y3 hw hok8
                have HOK := hid hok8
                rw [hq] at y3
                clear hok8 hok9 hq
                have hkr : j < (oth (gw ws) p).length := by rw [HOL.out]; exact hjs
                have hls := lst_succ (l := l) hkr
                obtain ⟨r1, hr1⟩ : ∃ r, L = encs l ((oth (gw ws) p).take (j + 1)) ++ r := by
                  obtain ⟨ra, ha⟩ := hB4.out.ext
                  obtain ⟨rb, hb⟩ := encs_ext ((oth (gw ws) p).drop (j + 1)) (encs l ((oth (gw ws) p).take (j + 1)))
                  rw [← encs_append, List.take_append_drop] at hb
                  exact ⟨rb ++ ra, by rw [ha, hb, List.append_assoc]⟩
                have hwn : wnum (enc (encs l ((oth (gw ws) p).take j)) (gw (oth (gw ws) p) j)) (gw (oth (gw ws) p) j) = wnum L (gw (oth (gw ws) p) j) := by rw [hr1, hls]; exact (wnum_append fun h => enc_in h).symm
                have HWN := hid hwn
                have HLS := hid hls
                have HLE : Hid ((encs l ((oth (gw ws) p).take j)).length ≤ 6000) := hid (by
                  obtain ⟨r0, h0⟩ := enc_ext (encs l ((oth (gw ws) p).take j)) (gw (oth (gw ws) p) j)
                  have h8 := HL.out
                  rw [hr1, List.length_append, hls, h0, List.length_append] at h8
                  omega)
                have hvw := hid (wnum_wf hw.out HL.out (fun h => by rw [hr1, hls]; exact List.mem_append_left _ (enc_in h)))
                have HTK := hid (take_succ_gw hkr)
                have HJ := hid hjs
                clear hj hls hwn hr1 hkr hjo hgo
                generalize gw (oth (gw ws) p) j = x at y3 hw HWN HLS hvw HTK HOK
                have PX : Hid True := trivial
                go_wp2_with (first
                  | (go_at_call 47; have _ := PX; go_must (refine (told_ W0.heap.size (w1.heap.size + 1) w1.heap.size n _ (encs l ((oth (gw ws) p).take j)) x _ HT.out HZ.out (by have := HSZ.out; omega) (by have := HSZ.out; omega) (by omega) hw.out (by have := HLE.out; omega) hn6 HOK.out).mono ?_); rw [HWN.out]; rintro e w2 ⟨rfl, vo2, t2, k2, a2⟩; go_must (have T2 := hid t2; have K2 := hid k2; have A2' := hid a2; have HX2 := hid (k2.own HX.out (fun e => by have := (HX.out.lt e).1; have := HSZ.out; omega) (fun e => by have := (HX.out.lt e).1; have := HSZ.out; omega) (fun g hg e => HSep.out g hg e)); have hz2 := k2.size; clear t2 k2 a2))
                  | (at_builtin; go_must (refine wpList_appJ (by rfl) _ _ (by rfl) W0.heap.size (by rfl) (HX2.out.alloc _) (by rfl) (ints_one (B := w2.heap.size + 1) rfl (by omega) hvw.out) (by have := objs_take (gw ws) L i; have := HBD.out; have := HE.out.2; have := HJ.out; simp only [List.length_append, List.length_map, List.length_take, List.length_singleton]; omega) (by have := HZ.out; simp; omega) ?_); intro vx3 w3 x3 g3 a3))
                have hgk := Hj.out
                have hjs9 := HJ.out
                go_roundg (gk - 1)
                case rel =>
                  obtain ⟨m1, m2, m3, m4⟩ := told_more HZ.out (by have := HSZ.out; omega) (by have := HSZ.out; omega) HT.out.own HX.out HSep.out T2.out K2.out A2'.out g3 a3
                  refine ⟨j + 1, vo2, by omega, by go_num, hid (by rw [HLS.out]; exact m1), hid (by rw [HTK.out, List.map_append, ← List.append_assoc, ← List.append_assoc]; rw [← List.append_assoc] at x3; exact x3), hid m2, hid m3, hid (m4 (by have := HSZ.out; omega) (by omega) (Nat.le_refl _) HB3.out)⟩
                case measure => omega
              · obtain rfl : j = s := by omega
                have htk : (oth (gw ws) p).take j = oth (gw ws) p := by rw [← HOL.out]; exact List.take_length
                rw [htk] at HT HX
                have hgk := Hi.out
                have hi9 := HL2.out
                have hl9 := HL.out
                clear hj hjs htk
                go_wp2
                go_roundg gp
                case rel =>
                  refine ⟨i + 1, vo, encs l (oth (gw ws) p), by omega, by go_num, hB4, hid (by obtain ⟨r9, h9⟩ := encs_ext (oth (gw ws) p) l; rw [h9, List.length_append]; omega), hid (encs_sub _ Hls.out (HW.out.1 p HP.out.1)), HT, hid ?_, HSep, HZ, HB3⟩
                  rw [take_succ' HL2.out, HP.out.2, List.flatMap_append, ← List.append_assoc]
                  have := HX.out
                  simpa [obj] using this
                case measure => omega
          · obtain rfl : i = l.length := by have := Hil.out; omega
            have hLl := bfs_end HBf.out hlt
            have htk : L.take l.length = L := by rw [hLl]; exact List.take_length
            rw [htk] at HX
            clear hi hlt hLl htk
            go_wp2
            go_ret
            exact ⟨⟨_, rfl, by rw [HS.out]; exact HX.out.isInts⟩, (HB.out.trans (HB3.out.mono HB.out.size))⟩
  · have HG := hid (decide_eq_false hg)
    have HS := hid (shapeP_no hg)
    clear hg en em hn6
    go_enter Try.func27, Try.ntmps27
    go_wp2_with (first
      | (go_at_call 17; go_must (refine (ref28_Good _ _ _ ⟨ws, room, base, top⟩ roots _ (Nat.le_refl _) ?_ ?_ HN.out).mono ?_; (exact (G1.out.below (by go_grown : Below w.heap.size w _) (by first | (simp; done) | (simp; omega) | omega)).isHp (h := ⟨ws, room, base, top⟩)); (exact ⟨_, _, _, rfl, G2.out.below (by go_grown : Below w.heap.size w _) (by first | (simp; done) | (simp; omega) | omega)⟩)); rw [HG.out]; rintro e w1 ⟨rfl, b⟩; go_must (have HB := hid (Below.refl w.heap.size w); have b9 := below_hop b (by go_grown : Below w.heap.size w _); (try (have h9 := hid (G1.out.below b9 b9.size); clear G1; have G1 := h9; clear h9)); (try (have h9 := hid (G2.out.below b9 b9.size); clear G2; have G2 := h9; clear h9)); (try (have h9 := hid (G3.out.below b9 b9.size); clear G3; have G3 := h9; clear h9)); (try (have h9 := hid (G4.out.below b9 b9.size); clear G4; have G4 := h9; clear h9)); (try (have h9 := hid (G5.out.below b9 b9.size); clear G5; have G5 := h9; clear h9)); (try (have h9 := hid (G6.out.below b9 b9.size); clear G6; have G6 := h9; clear h9)); (try (have h9 := hid (G7.out.below b9 b9.size); clear G7; have G7 := h9; clear h9)); (try (have h9 := hid (G8.out.below b9 b9.size); clear G8; have G8 := h9; clear h9)); (try (have h9 := hid (G9.out.below b9 b9.size); clear G9; have G9 := h9; clear h9)); (try (have h9 := hid (G10.out.below b9 b9.size); clear G10; have G10 := h9; clear h9)); (try (have h9 := hid (G11.out.below b9 b9.size); clear G11; have G11 := h9; clear h9)); (try (have h9 := hid (G12.out.below b9 b9.size); clear G12; have G12 := h9; clear h9)); (try (have h9 := hid (G13.out.below b9 b9.size); clear G13; have G13 := h9; clear h9)); (try (have h9 := hid (G14.out.below b9 b9.size); clear G14; have G14 := h9; clear h9)); (try (have h9 := hid (X1.out.below b9 X1.out.lt); clear X1; have X1 := h9; clear h9; clear x10 x11 x12 x13 x14 x15 x16 x17; obtain ⟨x10, x11, x12, x13, x14, x15, x16, x17⟩ := X1.out.cells4)); (try (have h9 := hid (X2.out.below b9 X2.out.lt); clear X2; have X2 := h9; clear h9; clear x20 x21 x22 x23 x24 x25 x26 x27; obtain ⟨x20, x21, x22, x23, x24, x25, x26, x27⟩ := X2.out.cells4)); (try (have h9 := hid (X3.out.below b9 X3.out.lt); clear X3; have X3 := h9; clear h9; clear x30 x31 x32 x33 x34 x35 x36 x37; obtain ⟨x30, x31, x32, x33, x34, x35, x36, x37⟩ := X3.out.cells4)); (try (have h9 := hid (X4.out.below b9 X4.out.lt); clear X4; have X4 := h9; clear h9; clear x40 x41 x42 x43 x44 x45 x46 x47; obtain ⟨x40, x41, x42, x43, x44, x45, x46, x47⟩ := X4.out.cells4)); (try (have h9 := hid (X5.out.below b9 X5.out.lt); clear X5; have X5 := h9; clear h9; clear x50 x51 x52 x53 x54 x55 x56 x57; obtain ⟨x50, x51, x52, x53, x54, x55, x56, x57⟩ := X5.out.cells4)); (try (have h9 := hid (X6.out.below b9 X6.out.lt); clear X6; have X6 := h9; clear h9; clear x60 x61 x62 x63 x64 x65 x66 x67; obtain ⟨x60, x61, x62, x63, x64, x65, x66, x67⟩ := X6.out.cells4)); (try (have h9 := hid (X7.out.below b9 X7.out.lt); clear X7; have X7 := h9; clear h9; clear x70 x71 x72 x73 x74 x75 x76 x77; obtain ⟨x70, x71, x72, x73, x74, x75, x76, x77⟩ := X7.out.cells4)); (have h9 := hid (HB.out.trans (b9.mono HB.out.size)); clear HB; have HB := h9; clear h9); clear b9; clear b)))
    go_ret
    exact ⟨⟨_, rfl, by rw [HS.out]; exact IsInts.nil _ _⟩, HB.out⟩
end Go.Proofs.Ytikdflppccbdaaa
