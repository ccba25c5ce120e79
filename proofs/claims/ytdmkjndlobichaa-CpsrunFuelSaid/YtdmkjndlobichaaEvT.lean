/-
  EVAL, PLAIN: an expression that is well formed, and closed, is evaluated to an end.
-/
import Derived.Test.YtdmkjndlobichaaEvR
namespace Go.Proofs.Ytdmkjndlobichaa
set_option linter.all false
namespace Ev

mutual
def nodes : Co → Nat
  | .mk _ _ _ _ _ _ us => 1 + nodesL us
def nodesL : List Co → Nat
  | [] => 0
  | c :: cs => nodes c + nodesL cs
end
theorem nodes_pos (c : Co) : 0 < nodes c := by obtain ⟨k, x, y, n, i, ts, us⟩ := c; rw [nodes]; omega
theorem nodes_mem {us : List Co} {c : Co} (h : c ∈ us) : nodes c ≤ nodesL us := by
  induction us with
  | nil => cases h
  | cons a us ih =>
    rw [nodesL]
    rcases List.mem_cons.1 h with rfl | h
    · omega
    · have := ih h; omega
/-- Well formed, and closed but for these. -/
inductive Fit : List Int → Co → Prop
  | var {ds : List Int} {x y n : Int} {i : Bool} {ts : List Int} : x ∈ ds → Fit ds (.mk 1 x y n i ts [])
  | int {ds : List Int} {x y n : Int} {i : Bool} {ts : List Int} : Fit ds (.mk 2 x y n i ts [])
  | lam {ds : List Int} {x y n : Int} {i : Bool} {ts : List Int} {b : Co} : Fit (x :: ds) b → Fit ds (.mk 3 x y n i ts [b])
  | app {ds : List Int} {x y n : Int} {i : Bool} {ts : List Int} {a b : Co} : Fit ds a → Fit ds b → Fit ds (.mk 4 x y n i ts [a, b])
  | let_ {ds : List Int} {x y n : Int} {i : Bool} {ts : List Int} {a b : Co} : Fit ds a → Fit (x :: ds) b → Fit ds (.mk 5 x y n i ts [a, b])
  | rec_ {ds : List Int} {x y n : Int} {i : Bool} {ts : List Int} {a b : Co} : 0 < x → Fit (y :: x :: ds) a → Fit (x :: ds) b → Fit ds (.mk 6 x y n i ts [a, b])
  | con {ds : List Int} {x y n : Int} {i : Bool} {ts : List Int} {us : List Co} : us.length ≤ 900000 → (∀ c ∈ us, Fit ds c) → Fit ds (.mk 7 x y n i ts us)
  | field {ds : List Int} {x y n : Int} {i : Bool} {ts : List Int} {a : Co} : 0 ≤ n → Fit ds a → Fit ds (.mk 8 x y n i ts [a])
  | sw {ds : List Int} {x y n : Int} {i : Bool} {ts : List Int} {a : Co} {us : List Co} : Fit ds a → (∀ c ∈ us, Fit ds c) → Fit ds (.mk 9 x y n i ts (a :: us))
  | prim {ds : List Int} {x y n : Int} {i : Bool} {ts : List Int} {a b : Co} : 1 ≤ n → n ≤ 7 → Fit ds a → Fit ds b → Fit ds (.mk 10 x y n i ts [a, b])
  | print {ds : List Int} {x y n : Int} {i : Bool} {ts : List Int} {a : Co} : Fit ds a → Fit ds (.mk 11 x y n i ts [a])
def En.dom : En → List Int
  | .nil => []
  | .bind x _ e => x :: e.dom
mutual
inductive OkV (K : Nat) : Va → Prop
  | num {n : Int} : OkV K (.num n)
  | con {t : Int} {us : List Va} : (∀ v ∈ us, OkV K v) → OkV K (.con t us)
  | clo {x self : Int} {b : Co} {e : En} : Fit (x :: (if 0 < self then self :: e.dom else e.dom)) b → nodes b ≤ K → OkE K e → OkV K (.clo x self b e)
inductive OkE (K : Nat) : En → Prop
  | nil : OkE K .nil
  | bind {x : Int} {v : Va} {e : En} : OkV K v → OkE K e → OkE K (.bind x v e)
end
theorem find_dom : ∀ (e : En) {x : Int}, x ∈ e.dom → ∃ v, e.find x = some v
  | .nil, x, h => by simp [En.dom] at h
  | .bind y v e, x, h => by
    by_cases hx : y = x
    · exact ⟨v, by rw [En.find, if_pos hx]⟩
    · rw [En.dom] at h
      rcases List.mem_cons.1 h with h | h
      · exact absurd h.symm hx
      · obtain ⟨u, hu⟩ := find_dom e h
        exact ⟨u, by rw [En.find, if_neg hx]; exact hu⟩
theorem find_ok {K : Nat} : ∀ (e : En) {x : Int} {v : Va}, OkE K e → e.find x = some v → OkV K v
  | .nil, x, v, _, h => by simp [En.find] at h
  | .bind y u e, x, v, ho, h => by
    cases ho with
    | bind h1 h2 =>
      by_cases hx : y = x
      · rw [En.find, if_pos hx] at h
        injection h with h
        subst h
        exact h1
      · rw [En.find, if_neg hx] at h
        exact find_ok e h2 h
/-- It comes to an end; what it tells is a value that may be. -/
def Ends {α : Type} (r : Nat → R α) (P : α → Prop) : Prop := ∃ g o s w, r g = some (o, s, w) ∧ ∀ a, o = .ok a → P a
section
variable {α β : Type}
theorem Ends.bnd {r : Nat → R α} {k : Nat → α → Nat → List Int → R β} {P : α → Prop} {Q : β → Prop} {F s0 : Nat} {w0 : List Int} (hm : Mono r) (hkm : ∀ a s w, Mono (fun g => k g a s w)) (h : Ends r P) (hg : ∀ g, Grows F s0 w0 (r g)) (hk : ∀ a s w, P a → Gr F s0 w0 s w → Ends (fun g => k g a s w) Q) : Ends (fun g => bnd (r g) (k g)) Q := by
  obtain ⟨g, o, s, w, h1, h2⟩ := h
  cases o with
  | stop e => exact ⟨g, .stop e, s, w, bnd_stop h1, fun a h => by cases h⟩
  | ok a =>
    obtain ⟨g2, o2, s2, w2, h3, h4⟩ := hk a s w (h2 a rfl) (hg g _ _ _ h1)
    refine ⟨max g g2, o2, s2, w2, ?_, h4⟩
    have e1 := hm.le (Nat.le_max_left g g2) _ h1
    have e2 := (hkm a s w).le (Nat.le_max_right g g2) _ h3
    simp only
    rw [bnd_ok e1]
    exact e2
theorem Ends.now {P : α → Prop} {o : Out α} {s : Nat} {w : List Int} (h : ∀ a, o = .ok a → P a) : Ends (fun _ => some (o, s, w)) P := ⟨0, o, s, w, rfl, h⟩
end
theorem Ends.list {F K : Nat} {e : En} {s0 : Nat} : ∀ (cs : List Co), cs.length ≤ 900000 → (∀ c ∈ cs, ∀ s w, s0 ≤ s → s ≤ F → Ends (fun g => ev F g c e s w) (OkV K)) → ∀ s w, s0 ≤ s → s ≤ F → Ends (fun g => evL (fun c s w => ev F g c e s w) cs s w) (fun vs => vs.length = cs.length ∧ ∀ v ∈ vs, OkV K v)
  | [], _, _, s, w, _, _ => Ends.now (fun a h => by injection h with h; subst h; exact ⟨rfl, fun v hv => by cases hv⟩)
  | c :: cs, h8, h, s, w, h0, h1 => by
    have h9 : cs.length < 900000 := by simp at h8; omega
    simp only [evL, if_pos h9]
    exact Ends.bnd (Mono.r1 F c e s w) (fun a s1 w1 g => Le.bnd (Mono.rL F cs e s1 w1 g) (fun _ _ _ => Le.refl _)) (h c (by simp) s w h0 h1) (fun g => ev_grows F g c e s w)
          (fun a s1 w1 ha hg => Ends.bnd (Mono.rL F cs e s1 w1) (fun _ _ _ => Mono.rC _) (Ends.list cs (by omega) (fun x hx => h x (by simp [hx])) s1 w1 (Nat.le_trans h0 hg.le) (hg.fuel h1)) (fun g => gr_evL F g cs e s1 w1)
            (fun vs s2 w2 hvs _ => Ends.now (fun b hb => by injection hb with hb; subst hb; exact ⟨by simp [hvs.1], fun v hv => (List.mem_cons.1 hv).elim (fun h => by rw [h]; exact ha) (hvs.2 v)⟩)))
theorem drop_one {F s K N a b : Nat} (h : (F - s) * (K + 1) + a ≤ N) (hs : s < F) (hb : b ≤ K) (ha : 0 < a) : (F - (s + 1)) * (K + 1) + b ≤ N - 1 := by
  have e : (F - s) * (K + 1) = (F - (s + 1)) * (K + 1) + (K + 1) := by
    rw [show F - s = (F - (s + 1)) + 1 by omega, Nat.succ_mul]
  omega
theorem step_le {F s s1 K : Nat} (h : s ≤ s1) : (F - s1) * (K + 1) ≤ (F - s) * (K + 1) := Nat.mul_le_mul_right _ (by omega)
theorem Ends.up {F : Nat} {c : Co} {e : En} {s : Nat} {w : List Int} {P : Va → Prop} (h : Ends (fun g => evS F (ev F g) c e s w) P) : Ends (fun g => ev F g c e s w) P := by
  obtain ⟨g, o, s', w', h1, h2⟩ := h
  exact ⟨g + 1, o, s', w', h1, h2⟩
theorem evS_eq {F : Nat} {f : Co → En → Nat → List Int → R Va} {k x y n : Int} {i : Bool} {ts : List Int} {us : List Co} {e : En} {s : Nat} {w : List Int} :
    (k = 4 → ∀ a b, us = [a, b] → evS F f (.mk k x y n i ts us) e s w = bnd (f a e s w) fun vf s1 w1 => bnd (f b e s1 w1) fun va s2 w2 => app F f vf va s2 w2) ∧
    (k = 5 → ∀ a b, us = [a, b] → evS F f (.mk k x y n i ts us) e s w = bnd (f a e s w) fun v s1 w1 => f b (.bind x v e) s1 w1) ∧
    (k = 6 → 0 < x → ∀ a b, us = [a, b] → evS F f (.mk k x y n i ts us) e s w = f b (.bind x (.clo y x a e) e) s w) ∧
    (k = 7 → evS F f (.mk k x y n i ts us) e s w = bnd (evL (fun c s w => f c e s w) us s w) fun vs s1 w1 => some (.ok (.con n vs), s1, w1)) ∧
    (k = 8 → 0 ≤ n → evS F f (.mk k x y n i ts us) e s w = bnd (evL (fun c s w => f c e s w) us s w) fun vs s1 w1 => field n s1 w1 vs) ∧
    (k = 9 → ∀ a rest, us = a :: rest → evS F f (.mk k x y n i ts us) e s w = bnd (f a e s w) fun v s1 w1 => sw f i ts rest e v s1 w1) ∧
    (k = 10 → 1 ≤ n ∧ n ≤ 7 → evS F f (.mk k x y n i ts us) e s w = bnd (evL (fun c s w => f c e s w) us s w) fun vs s1 w1 => prim n s1 w1 vs) ∧
    (k = 11 → evS F f (.mk k x y n i ts us) e s w = bnd (evL (fun c s w => f c e s w) us s w) fun vs s1 w1 => tell s1 w1 vs) := by
  refine ⟨?_, ?_, ?_, ?_, ?_, ?_, ?_, ?_⟩
  · rintro rfl a b rfl; rfl
  · rintro rfl a b rfl; rfl
  · rintro rfl hx a b rfl; unfold evS; simp [hx]
  · rintro rfl; rfl
  · rintro rfl hn; unfold evS; simp [hn]
  · rintro rfl a rest rfl; rfl
  · rintro rfl hn; unfold evS; simp [hn]
  · rintro rfl; rfl
theorem arm_mem {i : Bool} {ts : List Int} {us : List Co} {v : Va} {c : Co} (h : arm i ts us v = some c) : c ∈ us := by
  unfold arm at h
  split at h
  · cases h
  · exact List.mem_of_getElem? h
/-- Fine with so much room: all evaluations that are no more. -/
theorem ev_ends (F K : Nat) : ∀ (N : Nat) (c : Co) (e : En) (s : Nat) (w : List Int), (F - s) * (K + 1) + nodes c ≤ N → s ≤ F → nodes c ≤ K → Fit e.dom c → OkE K e → Ends (fun g => ev F g c e s w) (OkV K) := by
  intro N
  induction N with
  | zero => intro c e s w h; have := nodes_pos c; omega
  | succ N ih =>
    intro c e s w hN hs hK hf he
    refine Ends.up ?_
    have hsub : ∀ a : Co, nodes a < nodes c → Fit e.dom a → ∀ s1 w1, s ≤ s1 → s1 ≤ F → Ends (fun g => ev F g a e s1 w1) (OkV K) := fun a ha hfa s1 w1 h1 h2 =>
      ih a e s1 w1 (by have := step_le (F := F) (K := K) h1; omega) h2 (by omega) hfa he
    have happ : ∀ vf va s2 w2, s ≤ s2 → s2 ≤ F → OkV K vf → OkV K va → Ends (fun g => app F (ev F g) vf va s2 w2) (OkV K) := by
      intro vf va s2 w2 h1 h2 hvf hva
      by_cases h3 : s2 = F
      · refine ⟨0, .stop 3, s2, w2, by dsimp only; unfold app; rw [if_pos h3], fun a h => by cases h⟩
      · cases vf with
        | num n => exact ⟨0, .stop (-1), s2 + 1, w2, by dsimp only; unfold app; rw [if_neg h3], fun a h => by cases h⟩
        | con t us => exact ⟨0, .stop (-1), s2 + 1, w2, by dsimp only; unfold app; rw [if_neg h3], fun a h => by cases h⟩
        | clo x self b e2 =>
          cases hvf with
          | clo q1 q2 q3 =>
            have hE : OkE K (.bind x va (around x self b e2)) := by
              refine .bind hva ?_
              unfold around
              split
              · exact .bind (.clo q1 q2 q3) q3
              · exact q3
            have hD : Fit (En.bind x va (around x self b e2)).dom b := by
              rw [En.dom]
              unfold around
              split
              · rename_i h9; rw [if_pos h9] at q1; exact q1
              · rename_i h9; rw [if_neg h9] at q1; exact q1
            have := ih b (.bind x va (around x self b e2)) (s2 + 1) w2 (by
              have h4 := drop_one (b := nodes b) (Nat.le_trans (Nat.add_le_add_right (step_le (F := F) (K := K) h1) _) hN) (by omega) q2 (nodes_pos c)
              omega) (by omega) q2 hD hE
            obtain ⟨g, o, s3, w3, h5, h6⟩ := this
            exact ⟨g, o, s3, w3, by dsimp only; unfold app; rw [if_neg h3]; exact h5, h6⟩
    cases hf with
    | var hx =>
      obtain ⟨v, hv⟩ := find_dom e hx
      refine ⟨0, .ok v, s, w, ?_, fun a h => by injection h with h; subst h; exact find_ok e he hv⟩
      dsimp only; unfold evS; simp [hv]
    | int => exact ⟨0, _, s, w, rfl, fun a h => by injection h with h; subst h; exact .num⟩
    | lam hb =>
      refine ⟨0, _, s, w, rfl, fun a h => ?_⟩
      injection h with h; subst h
      refine .clo (by simpa using hb) ?_ he
      rw [nodes, nodesL, nodesL] at hK; omega
    | app ha hb =>
      rename_i x y n i ts a b
      rw [nodes, nodesL, nodesL, nodesL] at hsub
      rw [funext (fun g => (evS_eq (F := F) (f := ev F g)).1 rfl a b rfl)]
      exact Ends.bnd (Mono.r1 F a e s w) (fun vf s1 w1 g => Le.bnd (Mono.r1 F b e s1 w1 g) (fun va s2 w2 => Mono.rA F vf va s2 w2 g)) (hsub a (by have := nodes_pos b; omega) ha s w (Nat.le_refl _) hs) (fun g => ev_grows F g a e s w)
        (fun vf s1 w1 hvf g1 => Ends.bnd (Mono.r1 F b e s1 w1) (fun va s2 w2 => Mono.rA F vf va s2 w2) (hsub b (by have := nodes_pos a; omega) hb s1 w1 g1.le (g1.fuel hs)) (fun g => ev_grows F g b e s1 w1)
          (fun va s2 w2 hva g2 => happ vf va s2 w2 (Nat.le_trans g1.le g2.le) (g2.fuel (g1.fuel hs)) hvf hva))
    | let_ ha hb =>
      rename_i x y n i ts a b
      rw [nodes, nodesL, nodesL, nodesL] at hsub hN hK
      rw [funext (fun g => (evS_eq (F := F) (f := ev F g)).2.1 rfl a b rfl)]
      exact Ends.bnd (Mono.r1 F a e s w) (fun v s1 w1 => Mono.r1 F b (.bind x v e) s1 w1) (hsub a (by have := nodes_pos b; omega) ha s w (Nat.le_refl _) hs) (fun g => ev_grows F g a e s w)
        (fun v s1 w1 hv g1 => ih b (.bind x v e) s1 w1 (by have := step_le (F := F) (K := K) g1.le; have := nodes_pos a; omega) (g1.fuel hs) (by omega) hb (.bind hv he))
    | rec_ hx ha hb =>
      rename_i x y n i ts a b
      rw [nodes, nodesL, nodesL, nodesL] at hN hK
      rw [funext (fun g => (evS_eq (F := F) (f := ev F g)).2.2.1 rfl hx a b rfl)]
      have hv : OkV K (.clo y x a e) := .clo (by rw [if_pos hx]; exact ha) (by omega) he
      exact ih b (.bind x (.clo y x a e) e) s w (by have := nodes_pos a; omega) hs (by omega) hb (.bind hv he)
    | con hul hus =>
      rename_i x y n i ts us
      rw [nodes] at hsub
      rw [funext (fun g => (evS_eq (F := F) (f := ev F g)).2.2.2.1 rfl)]
      exact Ends.bnd (Mono.rL F us e s w) (fun _ _ _ => Mono.rC _) (Ends.list us hul (fun c hc s1 w1 h1 h2 => hsub c (by have := nodes_mem hc; omega) (hus c hc) s1 w1 h1 h2) s w (Nat.le_refl _) hs) (fun g => gr_evL F g us e s w)
        (fun vs s1 w1 hvs g1 => Ends.now (fun a h => by injection h with h; subst h; exact .con hvs.2))
    | field hn ha =>
      rename_i x y n i ts a
      rw [nodes, nodesL, nodesL] at hsub
      rw [funext (fun g => (evS_eq (F := F) (f := ev F g)).2.2.2.2.1 rfl hn)]
      refine Ends.bnd (Mono.rL F [a] e s w) (fun _ _ _ => Mono.rC _) (Ends.list [a] (by simp) (fun c hc s1 w1 h1 h2 => by obtain rfl := List.mem_singleton.1 hc; exact hsub c (by omega) ha s1 w1 h1 h2) s w (Nat.le_refl _) hs) (fun g => gr_evL F g [a] e s w) (fun vs s1 w1 hvs g1 => ?_)
      rcases vs with _ | ⟨v, _ | ⟨v2, vs⟩⟩
      · have := hvs.1; simp at this
      · have hv := hvs.2 v (by simp)
        cases v with
        | num m => exact ⟨0, _, s1, w1, rfl, fun a h => by cases h⟩
        | clo _ _ _ _ => exact ⟨0, _, s1, w1, rfl, fun a h => by cases h⟩
        | con t us =>
          cases hu : us[n.toNat]? with
          | none => exact ⟨0, .stop (-1), s1, w1, by dsimp only; unfold field; simp only [hu], fun a h => by cases h⟩
          | some u =>
            cases hv with
            | con hv => exact ⟨0, .ok u, s1, w1, by dsimp only; unfold field; simp only [hu], fun a h => by injection h with h; subst h; exact hv u (List.mem_of_getElem? hu)⟩
      · have := hvs.1; simp at this
    | sw ha hus =>
      rename_i x y n i ts a us
      rw [nodes, nodesL] at hsub
      rw [funext (fun g => (evS_eq (F := F) (f := ev F g)).2.2.2.2.2.1 rfl a us rfl)]
      refine Ends.bnd (Mono.r1 F a e s w) (fun v s1 w1 g => Le.sw (fun c e s w => ev_succ F g c e s w) i ts us e v s1 w1) (hsub a (by omega) ha s w (Nat.le_refl _) hs) (fun g => ev_grows F g a e s w) (fun v s1 w1 hv g1 => ?_)
      cases hc : arm i ts us v with
      | none => exact ⟨0, .stop (-1), s1, w1, by dsimp only; unfold sw; rw [hc], fun a h => by cases h⟩
      | some c =>
        have hm := arm_mem hc
        obtain ⟨g, o, s2, w2, h1, h2⟩ := hsub c (by have := nodes_mem hm; have := nodes_pos a; omega) (hus c hm) s1 w1 g1.le (g1.fuel hs)
        exact ⟨g, o, s2, w2, by dsimp only; unfold sw; rw [hc]; exact h1, h2⟩
    | prim h1 h7 ha hb =>
      rename_i x y n i ts a b
      rw [nodes, nodesL, nodesL, nodesL] at hsub
      rw [funext (fun g => (evS_eq (F := F) (f := ev F g)).2.2.2.2.2.2.1 rfl ⟨h1, h7⟩)]
      refine Ends.bnd (Mono.rL F [a, b] e s w) (fun _ _ _ => Mono.rC _) (Ends.list [a, b] (by simp) (fun c hc s1 w1 h1 h2 => by
        have := nodes_pos a; have := nodes_pos b
        rcases List.mem_cons.1 hc with rfl | hc
        · exact hsub c (by omega) ha s1 w1 h1 h2
        · obtain rfl := List.mem_singleton.1 hc; exact hsub c (by omega) hb s1 w1 h1 h2) s w (Nat.le_refl _) hs) (fun g => gr_evL F g [a, b] e s w) (fun vs s1 w1 hvs g1 => ?_)
      have hP : ∀ o s' w', prim n s1 w1 vs = some (o, s', w') → Ends (fun _ => prim n s1 w1 vs) (OkV K) := fun o s' w' h => ⟨0, o, s', w', h, fun a ha => by
        subst ha
        unfold prim at h
        split at h
        · split at h
          · injection h with h; injection h with h _; injection h with h; subst h
            split
            · exact .num
            · exact .con (fun v hv => by cases hv)
          · injection h with h; injection h with h _; cases h
        · injection h with h; injection h with h _; cases h
        · cases h⟩
      rcases vs with _ | ⟨v, _ | ⟨v2, _ | ⟨v3, vs⟩⟩⟩
      · have := hvs.1; simp at this
      · have := hvs.1; simp at this
      · cases v with
        | num p =>
          cases v2 with
          | num q =>
            by_cases hd : dok n q = true
            · exact hP _ _ _ (by unfold prim; simp only [hd, if_true]; rfl)
            · exact hP _ _ _ (by unfold prim; simp only [hd]; rfl)
          | con _ _ => exact hP _ _ _ rfl
          | clo _ _ _ _ => exact hP _ _ _ rfl
        | con _ _ => exact hP _ _ _ rfl
        | clo _ _ _ _ => exact hP _ _ _ rfl
      · have := hvs.1; simp at this
    | print ha =>
      rename_i x y n i ts a
      rw [nodes, nodesL, nodesL] at hsub
      rw [funext (fun g => (evS_eq (F := F) (f := ev F g)).2.2.2.2.2.2.2 rfl)]
      refine Ends.bnd (Mono.rL F [a] e s w) (fun _ _ _ => Mono.rC _) (Ends.list [a] (by simp) (fun c hc s1 w1 h1 h2 => by obtain rfl := List.mem_singleton.1 hc; exact hsub c (by omega) ha s1 w1 h1 h2) s w (Nat.le_refl _) hs) (fun g => gr_evL F g [a] e s w) (fun vs s1 w1 hvs g1 => ?_)
      rcases vs with _ | ⟨v, _ | ⟨v2, vs⟩⟩
      · have := hvs.1; simp at this
      · cases v with
        | num p =>
          by_cases hl : w1.length = 4096
          · exact ⟨0, .stop 4, s1, w1, by dsimp only; unfold tell; simp only [hl, if_true], fun a h => by cases h⟩
          · exact ⟨0, .ok (.con 0 []), s1, w1 ++ [p], by dsimp only; unfold tell; simp only [hl, if_false], fun a h => by injection h with h; subst h; exact .con (fun v hv => by cases hv)⟩
        | con _ _ => exact ⟨0, _, s1, w1, rfl, fun a h => by cases h⟩
        | clo _ _ _ _ => exact ⟨0, _, s1, w1, rfl, fun a h => by cases h⟩
      · have := hvs.1; simp at this
end Ev
end Go.Proofs.Ytdmkjndlobichaa
