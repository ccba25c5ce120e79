/-
  PLAIN: what a term is run to. No program here.
-/
import Derived.Test.YtdmkjndlobichaaKGoodP
import Derived.Test.YtdmkjndlobichaaEvP
namespace Go.Proofs.Ytdmkjndlobichaa
set_option linter.all false
namespace Tm
open Ev (Out idxI plain_false)

/-- A value: none, an integer, a constructor, a function with the frame around it. -/
inductive Pv where
  | zero : Pv
  | num (n : Int) : Pv
  | con (n : Int) (us : List Pv) : Pv
  | fn (ps : List Int) (b : Te) (e : Nat) : Pv
/-- A frame: the one around it; what is bound, the last one first. -/
structure Fr where
  up : Option Nat
  vars : List (Int × Pv)
def lookV : List (Int × Pv) → Int → Option Pv
  | [], _ => none
  | (y, v) :: l, x => if y = x then some v else lookV l x
def look (fs : List Fr) : Nat → Option Nat → Int → Pv
  | 0, _, _ => .zero
  | _ + 1, none, _ => .zero
  | g + 1, some e, x => match fs[e]? with
    | none => .zero
    | some f => match lookV f.vars x with
      | some v => v
      | none => look fs g f.up x
def setV (fs : List Fr) (e : Nat) (x : Int) (v : Pv) : List Fr := fs.modify e (fun f => ⟨f.up, (x, v) :: f.vars⟩)
def atomV (fs : List Fr) (e : Nat) (a : Bool × Int) : Pv := if a.1 then look fs (e + 1) (some e) a.2 else .num a.2
def numOf : Pv → Option Int
  | .num n => some n
  | _ => none
/-- The number that a switch looks at. -/
def tagP (i : Bool) : Pv → Option Int
  | .num n => if i then some n else none
  | .con t _ => if i then none else some t
  | _ => none
mutual
/-- What a value shows, behind others. -/
def showP : Pv → List Int → Out (List Int)
  | .zero, l => if l.length = 4096 then .stop 4 else .ok (l ++ [0])
  | .num n, l => if l.length = 4096 then .stop 4 else .ok (l ++ [n])
  | .con t us, l => if l.length = 4096 then .stop 4 else showPL us (l ++ [t])
  | .fn _ _ _, _ => .stop (-1)
def showPL : List Pv → List Int → Out (List Int)
  | [], l => .ok l
  | v :: vs, l => match showP v l with
    | .ok l1 => showPL vs l1
    | .stop e => .stop e
end
/-- What comes behind a term that is no call; how it stops, with what was written and shown. -/
inductive St where
  | go (t : Te) (fs : List Fr) (ws : List Int) : St
  | halt (k : Int) (ws ss : List Int) : St
def fixF (e : Nat) : List (Int × List Int) → List Te → List Fr → List Fr
  | _, [], fs => fs
  | [], _ :: _, fs => fs
  | h :: hs, b :: bs, fs => fixF e hs bs (setV fs e h.1 (.fn h.2 b e))
def primS (n : Int) (va vb : Pv) : Out Pv :=
  match numOf va, numOf vb with
  | some p, some q => if dok n q then .ok (if n = 6 ∨ n = 7 then .con (dov n p q) [] else .num (dov n p q)) else .stop 2
  | _, _ => .stop (-1)
def fieldS (n : Int) (v : Pv) : Out Pv :=
  match v with
  | .con _ vs => match vs[n.toNat]? with
    | some u => .ok u
    | none => .stop (-1)
  | _ => .stop (-1)
def armS (i : Bool) (ts : List Int) (us : List Te) (v : Pv) : Option Te :=
  match tagP i v with
  | none => none
  | some n => us[idxI ts n]?
/-- A value is bound, and what comes behind goes on. -/
def bindS (e : Nat) (x : Int) (u : Te) (fs : List Fr) (ws : List Int) : Out Pv → St
  | .ok v => .go u (setV fs e x v) ws
  | .stop k => .halt k ws []
def tellS (u : Te) (fs : List Fr) (ws : List Int) (v : Pv) : St :=
  match numOf v with
  | none => .halt (-1) ws []
  | some n => if ws.length = 4096 then .halt 4 ws [] else .go u fs (ws ++ [n])
def haltS (ws : List Int) : Out (List Int) → St
  | .ok l => .halt 1 ws l
  | .stop k => .halt k ws []
def doesK (e : Nat) (k x n : Int) (i : Bool) (ts : List Int) (ats : List (Bool × Int)) (fh : List (Int × List Int)) (fb us : List Te) (fs : List Fr) (ws : List Int) : Option St :=
    if k = 1 then (match ats, us with
      | [a, b], [u] => some (bindS e x u fs ws (primS n (atomV fs e a) (atomV fs e b)))
      | _, _ => none)
    else if k = 2 then (match us with
      | [u] => if ats.length ≤ 8 then some (bindS e x u fs ws (.ok (.con n (ats.map (atomV fs e))))) else none
      | _ => none)
    else if k = 3 then (match ats, us with
      | [a], [u] => if 0 ≤ n then some (bindS e x u fs ws (fieldS n (atomV fs e a))) else none
      | _, _ => none)
    else if k = 4 then (match us with
      | [u] => if fh.length = fb.length ∧ fb.length ≤ 65536 then some (.go u (fixF e fh fb fs) ws) else none
      | _ => none)
    else if k = 6 then (match ats with
      | [a] => match armS i ts us (atomV fs e a) with
        | some u => some (.go u fs ws)
        | none => some (.halt (-1) ws [])
      | _ => none)
    else if k = 7 then (match ats, us with
      | [a], [u] => some (tellS u fs ws (atomV fs e a))
      | _, _ => none)
    else if k = 8 then (match ats with
      | [a] => some (haltS ws (showP (atomV fs e a) []))
      | _ => none)
    else none
def doesF (e : Nat) : Te → List Fr → List Int → Option St
  | .mk k x n i ts ats fh fb us, fs, ws => doesK e k x n i ts ats fh fb us fs ws
def bindP : List Int → List Pv → List (Int × Pv) → List (Int × Pv)
  | p :: ps, v :: vs, l => bindP ps vs ((p, v) :: l)
  | _, _, l => l
/-- What a call goes on with. -/
def callK (e : Nat) (ats : List (Bool × Int)) (fs : List Fr) : Option (Option (Te × List Fr)) :=
    match ats with
    | a :: rest => if rest.length ≤ 16 then (match atomV fs e a with
      | .fn ps b e2 => if ps.length = rest.length then some (some (b, fs ++ [⟨some e2, bindP ps (rest.map (atomV fs e)) []⟩])) else some none
      | _ => some none) else none
    | [] => none
def callF (e : Nat) : Te → List Fr → Option (Option (Te × List Fr))
  | .mk k x n i ts ats fh fb us, fs => callK e ats fs
def kind : Te → Int
  | .mk k x n i ts ats fh fb us => k
/-- How a term is run: how it ends, what was written and shown, how many steps. -/
def run (F : Nat) : Nat → Te → Nat → List Fr → Nat → List Int → Option (Int × List Int × List Int × Nat)
  | 0, _, _, _, _, _ => none
  | g + 1, t, e, fs, s, ws =>
    if kind t = 5 then
      if s = F then some (3, ws, [], s) else match callF e t fs with
        | none => none
        | some none => some (-1, ws, [], s + 1)
        | some (some (b, fs1)) => run F g b fs.length fs1 (s + 1) ws
    else match doesF e t fs ws with
      | none => none
      | some (.halt k ws1 ss) => some (k, ws1, ss, s)
      | some (.go u fs1 ws1) => run F g u e fs1 s ws1
/-- The list of the inputs. -/
def inputP : List Int → Pv
  | [] => .con 0 []
  | n :: l => .con 1 [.num (w31 n), inputP l]
def frs0 (l : List Int) : List Fr := [⟨none, [(0, inputP l)]⟩]

/-! ### more gas tells the same -/
theorem run_gas {F : Nat} : ∀ {g : Nat} {t : Te} {e : Nat} {fs : List Fr} {s : Nat} {ws : List Int} {r : Int × List Int × List Int × Nat}, run F g t e fs s ws = some r → run F (g + 1) t e fs s ws = some r
  | 0, _, _, _, _, _, _, h => by rw [run] at h; cases h
  | g + 1, t, e, fs, s, ws, r, h => by
    rw [run] at h ⊢
    by_cases h5 : kind t = 5
    · rw [if_pos h5] at h ⊢
      by_cases hs : s = F
      · rw [if_pos hs] at h ⊢; exact h
      · rw [if_neg hs] at h ⊢
        match hc : callF e t fs, h with
        | none, h => cases h
        | some none, h => exact h
        | some (some (b, fs1)), h => exact run_gas h
    · rw [if_neg h5] at h ⊢
      match hd : doesF e t fs ws, h with
      | none, h => cases h
      | some (.halt k ws1 ss), h => exact h
      | some (.go u fs1 ws1), h => exact run_gas h
theorem run_more {F g g2 : Nat} {t : Te} {e : Nat} {fs : List Fr} {s : Nat} {ws : List Int} {r : Int × List Int × List Int × Nat} (h : run F g t e fs s ws = some r) (hg : g ≤ g2) : run F g2 t e fs s ws = some r := by
  obtain ⟨d, rfl⟩ : ∃ d, g2 = g + d := ⟨g2 - g, by omega⟩
  clear hg
  induction d with
  | zero => exact h
  | succ d ih => exact run_gas ih
theorem run_one {F g g2 : Nat} {t : Te} {e : Nat} {fs : List Fr} {s : Nat} {ws : List Int} {r r2 : Int × List Int × List Int × Nat} (h : run F g t e fs s ws = some r) (h2 : run F g2 t e fs s ws = some r2) : r = r2 := by
  have a := run_more h (Nat.le_max_left g g2)
  have b := run_more h2 (Nat.le_max_right g g2)
  rw [a] at b
  injection b
/-! ### what was written stays -/
theorem does_writes {e : Nat} {t : Te} {fs : List Fr} {ws : List Int} {st : St} (h : doesF e t fs ws = some st) :
    (∃ k ss, st = .halt k ws ss) ∨ (∃ u fs1, st = .go u fs1 ws) ∨ (∃ u fs1 n, st = .go u fs1 (ws ++ [n])) := by
  obtain ⟨k, x, n, i, ts, ats, fh, fb, us⟩ := t
  have hb : ∀ (u : Te) (o : Out Pv), (∃ k ss, bindS e x u fs ws o = .halt k ws ss) ∨ (∃ u1 fs1, bindS e x u fs ws o = .go u1 fs1 ws) := fun u o => by
    cases o with
    | ok v => exact .inr ⟨_, _, rfl⟩
    | stop k => exact .inl ⟨_, _, rfl⟩
  rw [doesF] at h
  unfold doesK at h
  split at h
  · split at h
    · injection h with h; subst h; rcases hb _ _ with h | h; exact .inl h; exact .inr (.inl h)
    · cases h
  split at h
  · split at h
    · split at h
      · injection h with h; subst h; rcases hb _ _ with h | h; exact .inl h; exact .inr (.inl h)
      · cases h
    · cases h
  split at h
  · split at h
    · split at h
      · injection h with h; subst h; rcases hb _ _ with h | h; exact .inl h; exact .inr (.inl h)
      · cases h
    · cases h
  split at h
  · split at h
    · split at h
      · injection h with h; subst h; exact .inr (.inl ⟨_, _, rfl⟩)
      · cases h
    · cases h
  split at h
  · split at h
    · split at h
      · injection h with h; subst h; exact .inr (.inl ⟨_, _, rfl⟩)
      · injection h with h; subst h; exact .inl ⟨_, _, rfl⟩
    · cases h
  split at h
  · split at h
    · injection h with h; subst h
      unfold tellS
      split
      · exact .inl ⟨_, _, rfl⟩
      · split
        · exact .inl ⟨_, _, rfl⟩
        · exact .inr (.inr ⟨_, _, _, rfl⟩)
    · cases h
  split at h
  · split at h
    · injection h with h; subst h
      unfold haltS
      split
      · exact .inl ⟨_, _, rfl⟩
      · exact .inl ⟨_, _, rfl⟩
    · cases h
  · cases h
theorem run_writes {F : Nat} : ∀ {g : Nat} {t : Te} {e : Nat} {fs : List Fr} {s : Nat} {ws : List Int} {r : Int × List Int × List Int × Nat}, run F g t e fs s ws = some r → ws <+: r.2.1
  | 0, _, _, _, _, _, _, h => by rw [run] at h; cases h
  | g + 1, t, e, fs, s, ws, r, h => by
    rw [run] at h
    by_cases h5 : kind t = 5
    · rw [if_pos h5] at h
      by_cases hs : s = F
      · rw [if_pos hs] at h; injection h with h; subst h; exact List.prefix_refl _
      · rw [if_neg hs] at h
        match hc : callF e t fs, h with
        | none, h => cases h
        | some none, h => injection h with h; subst h; exact List.prefix_refl _
        | some (some (b, fs1)), h => exact run_writes h
    · rw [if_neg h5] at h
      match hd : doesF e t fs ws, h with
      | none, h => cases h
      | some (.halt k ws1 ss), h =>
        injection h with h
        subst h
        rcases does_writes hd with ⟨k2, ss2, e2⟩ | ⟨u, fs2, e2⟩ | ⟨u, fs2, n, e2⟩
        · injection e2 with _ e3; subst e3; exact List.prefix_refl _
        · cases e2
        · cases e2
      | some (.go u fs1 ws1), h =>
        have h9 := run_writes h
        rcases does_writes hd with ⟨k2, ss2, e2⟩ | ⟨u, fs2, e2⟩ | ⟨u, fs2, n, e2⟩
        · cases e2
        · injection e2 with _ _ e3; subst e3; exact h9
        · injection e2 with _ _ e3; subst e3; exact (List.prefix_append _ _).trans h9
/-! ### more fuel -/
theorem run_fuel {a b : Nat} (hab : a ≤ b) : ∀ {g : Nat} {t : Te} {e : Nat} {fs : List Fr} {s : Nat} {ws : List Int} {r r2 : Int × List Int × List Int × Nat} {g2 : Nat}, s ≤ a → run a g t e fs s ws = some r → run b g2 t e fs s ws = some r2 → (r.1 ≠ 3 → r2 = r) ∧ (r.1 = 3 → r.2.1 <+: r2.2.1)
  | 0, _, _, _, _, _, _, _, _, _, h, _ => by rw [run] at h; cases h
  | g + 1, _, _, _, _, _, _, _, 0, _, _, h2 => by rw [run] at h2; cases h2
  | g + 1, t, e, fs, s, ws, r, r2, g2 + 1, hsa, h, h2 => by
    have h2' := h2
    rw [run] at h h2
    by_cases h5 : kind t = 5
    · rw [if_pos h5] at h h2
      by_cases hs : s = a
      · rw [if_pos hs] at h
        injection h with h
        subst h
        exact ⟨fun h9 => absurd rfl h9, fun _ => run_writes h2'⟩
      · rw [if_neg hs] at h
        rw [if_neg (by omega)] at h2
        match hc : callF e t fs, h, h2 with
        | none, h, _ => cases h
        | some none, h, h2 =>
          injection h with h
          injection h2 with h2
          subst h h2
          exact ⟨fun _ => rfl, fun h9 => List.prefix_refl _⟩
        | some (some (b1, fs1)), h, h2 => exact run_fuel hab (by omega) h h2
    · rw [if_neg h5] at h h2
      match hd : doesF e t fs ws, h, h2 with
      | none, h, _ => cases h
      | some (.halt k ws1 ss), h, h2 =>
        injection h with h
        injection h2 with h2
        subst h h2
        exact ⟨fun _ => rfl, fun h9 => List.prefix_refl _⟩
      | some (.go u fs1 ws1), h, h2 => exact run_fuel hab hsa h h2
/-! ### every good term is run to an end -/
mutual
def OkV (K : Nat) : Pv → Prop
  | .zero => True
  | .num _ => True
  | .con _ us => OkVL K us
  | .fn ps b e => Fm b ∧ nodes b ≤ K
def OkVL (K : Nat) : List Pv → Prop
  | [] => True
  | v :: vs => OkV K v ∧ OkVL K vs
end
theorem OkVL.mem {K : Nat} : ∀ {vs : List Pv}, OkVL K vs → ∀ v ∈ vs, OkV K v
  | [], _, v, h => by cases h
  | a :: ts, h, t, hm => by
    rw [OkVL] at h
    rcases List.mem_cons.1 hm with rfl | hm
    · exact h.1
    · exact OkVL.mem h.2 t hm
theorem OkVL.of {K : Nat} : ∀ {vs : List Pv}, (∀ v ∈ vs, OkV K v) → OkVL K vs
  | [], _ => by rw [OkVL]; trivial
  | a :: ts, h => by rw [OkVL]; exact ⟨h a (by simp), OkVL.of (fun v hv => h v (by simp [hv]))⟩
def OkL (K : Nat) (l : List (Int × Pv)) : Prop := ∀ x ∈ l, OkV K x.2
def OkF (K : Nat) (fs : List Fr) : Prop := ∀ f ∈ fs, OkL K f.vars
theorem OkL.look {K : Nat} : ∀ {l : List (Int × Pv)} {x : Int} {v : Pv}, OkL K l → lookV l x = some v → OkV K v
  | [], _, _, _, h => by rw [lookV] at h; cases h
  | (y, u) :: l, x, v, ho, h => by
    rw [lookV] at h
    split at h
    · injection h with h; subst h; exact ho (y, u) (by simp)
    · exact OkL.look (fun z hz => ho z (by simp [hz])) h
theorem OkF.look {K : Nat} {fs : List Fr} (h : OkF K fs) : ∀ (g : Nat) (e : Option Nat) (x : Int), OkV K (look fs g e x)
  | 0, _, _ => by rw [Tm.look, OkV]; trivial
  | g + 1, none, _ => by rw [Tm.look, OkV]; trivial
  | g + 1, some e, x => by
    rw [Tm.look]
    cases he : fs[e]? with
    | none => rw [OkV]; trivial
    | some f =>
      simp only
      cases hv : lookV f.vars x with
      | none => exact OkF.look h g f.up x
      | some v => exact (h f (List.mem_of_getElem? he)).look hv
theorem OkF.atom {K : Nat} {fs : List Fr} (h : OkF K fs) (e : Nat) (a : Bool × Int) : OkV K (atomV fs e a) := by
  unfold atomV
  split
  · exact h.look _ _ _
  · rw [OkV]; trivial
theorem OkF.set {K : Nat} {fs : List Fr} (h : OkF K fs) (e : Nat) (x : Int) {v : Pv} (hv : OkV K v) : OkF K (setV fs e x v) := by
  intro f hf
  unfold setV at hf
  obtain ⟨i, hi, rfl⟩ := List.getElem_of_mem hf
  rw [List.getElem_modify]
  have hi2 : i < fs.length := by simpa using hi
  have h0 := h fs[i] (List.getElem_mem hi2)
  split
  · intro y hy
    rcases List.mem_cons.1 hy with rfl | hy
    · exact hv
    · exact h0 y hy
  · exact h0
theorem OkF.fix {K : Nat} : ∀ {fb : List Te} {fh : List (Int × List Int)} {fs : List Fr} {e : Nat}, OkF K fs → (∀ b ∈ fb, Fm b ∧ nodes b ≤ K) → OkF K (fixF e fh fb fs)
  | [], _, fs, e, h, _ => by rw [fixF]; exact h
  | b :: bs, [], fs, e, h, _ => by rw [fixF]; exact h
  | b :: bs, a :: hs, fs, e, h, hb => by
    rw [fixF]
    exact OkF.fix (h.set e a.1 (by rw [OkV]; exact hb b (by simp))) (fun c hc => hb c (by simp [hc]))
theorem OkL.bind {K : Nat} : ∀ {ps : List Int} {vs : List Pv} {l : List (Int × Pv)}, OkL K l → (∀ v ∈ vs, OkV K v) → OkL K (bindP ps vs l)
  | [], _, l, h, _ => by rw [bindP.eq_def]; exact h
  | p :: ps, [], l, h, _ => by rw [bindP.eq_def]; exact h
  | p :: ps, v :: vs, l, h, hv => by
    rw [bindP]
    refine OkL.bind (fun y hy => ?_) (fun u hu => hv u (by simp [hu]))
    rcases List.mem_cons.1 hy with rfl | hy
    · exact hv v (by simp)
    · exact h y hy
theorem nodes_mem : ∀ {us : List Te} {t : Te}, t ∈ us → nodes t ≤ nodesL us
  | [], t, h => by cases h
  | a :: us, t, h => by
    rw [nodesL]
    rcases List.mem_cons.1 h with rfl | h
    · omega
    · have := nodes_mem h; omega
theorem length_nodes : ∀ (us : List Te), us.length ≤ nodesL us
  | [] => Nat.zero_le _
  | a :: us => by
    rw [nodesL]
    have := nodes_pos a
    have := length_nodes us
    simp
    omega
/-- A term that has what its kind has does something. -/
theorem does_some {K : Nat} (hK6 : K ≤ 65536) {k x n : Int} {i : Bool} {ts : List Int} {ats : List (Bool × Int)} {fh : List (Int × List Int)} {fb us : List Te} {fs : List Fr} {e : Nat} {ws : List Int} (hm : Fm (.mk k x n i ts ats fh fb us)) (hK : nodes (.mk k x n i ts ats fh fb us) ≤ K) (ho : OkF K fs) (h5 : k ≠ 5) :
    ∃ st, doesF e (.mk k x n i ts ats fh fb us) fs ws = some st ∧ ∀ u fs1 ws1, st = .go u fs1 ws1 → u ∈ us ∧ OkF K fs1 := by
  rw [Fm] at hm
  obtain ⟨hf, hl, hmb, hmu⟩ := hm
  rw [nodes] at hK
  rw [doesF]
  unfold doesK
  unfold formT formN at hf
  have hA := ho.atom e
  have hB : ∀ (u : Te) (o : Out Pv), u ∈ us → (∀ v, o = .ok v → OkV K v) → ∀ u1 fs1 ws1, bindS e x u fs ws o = .go u1 fs1 ws1 → u1 ∈ us ∧ OkF K fs1 := by
    intro u o hu hv u1 fs1 ws1 h
    cases o with
    | ok v =>
      rw [bindS] at h
      injection h with h1 h2 h3
      subst h1 h2
      exact ⟨hu, ho.set e x (hv v rfl)⟩
    | stop k => rw [bindS] at h; cases h
  by_cases h1 : k = 1
  · rw [if_pos h1] at hf ⊢
    have h9 := of_decide_eq_true (plain_false hf).1
    match ats, us, h9.1, h9.2.1 with
    | [a, b], [u], _, _ =>
      refine ⟨_, rfl, hB u _ (by simp) (fun v hv => ?_)⟩
      unfold primS at hv
      split at hv
      · split at hv
        · injection hv with hv
          subst hv
          split
          · rw [OkV, OkVL]; trivial
          · rw [OkV]; trivial
        · cases hv
      · cases hv
  rw [if_neg h1] at hf ⊢
  by_cases h2 : k = 2
  · rw [if_pos h2] at hf ⊢
    have h9 := of_decide_eq_true (plain_false hf).1
    match us, h9.2.1 with
    | [u], _ =>
      simp only
      rw [if_pos h9.1]
      refine ⟨_, rfl, hB u _ (by simp) (fun v hv => ?_)⟩
      injection hv with hv
      subst hv
      rw [OkV]
      exact OkVL.of (fun v hv => by obtain ⟨a, _, rfl⟩ := List.mem_map.1 hv; exact hA a)
  rw [if_neg h2] at hf ⊢
  by_cases h3 : k = 3
  · rw [if_pos h3] at hf ⊢
    have h9 := of_decide_eq_true (plain_false hf).1
    match ats, us, h9.1, h9.2.1 with
    | [a], [u], _, _ =>
      simp only
      rw [if_pos h9.2.2.2.1]
      refine ⟨_, rfl, hB u _ (by simp) (fun v hv => ?_)⟩
      have hA1 := hA a
      unfold fieldS at hv
      split at hv
      · rename_i c vs hc
        rw [hc, OkV] at hA1
        split at hv
        · rename_i u9 hu9
          injection hv with hv
          subst hv
          exact hA1.mem _ (List.mem_of_getElem? hu9)
        · cases hv
      · cases hv
  rw [if_neg h3] at hf ⊢
  by_cases h4 : k = 4
  · rw [if_pos h4] at hf ⊢
    have h9 := of_decide_eq_true (plain_false hf).1
    match us, h9.2.1 with
    | [u], _ =>
      simp only
      rw [if_pos ⟨hl, by have := length_nodes fb; omega⟩]
      refine ⟨_, rfl, fun u1 fs1 ws1 h => ?_⟩
      injection h with q1 q2 q3
      subst q1 q2
      exact ⟨by simp, ho.fix (fun b hb => ⟨hmb.mem b hb, by have := nodes_mem hb; omega⟩)⟩
  rw [if_neg h4] at hf ⊢
  rw [if_neg h5] at hf
  by_cases h6 : k = 6
  · rw [if_pos h6] at hf ⊢
    have h9 := of_decide_eq_true (plain_false hf).1
    match ats, h9.1 with
    | [a], _ =>
      simp only
      cases hc : armS i ts us (atomV fs e a) with
      | none => exact ⟨_, rfl, fun u1 fs1 ws1 h => by cases h⟩
      | some u =>
        refine ⟨_, rfl, fun u1 fs1 ws1 h => ?_⟩
        injection h with q1 q2 q3
        subst q1 q2
        refine ⟨?_, ho⟩
        unfold armS at hc
        split at hc
        · cases hc
        · exact List.mem_of_getElem? hc
  rw [if_neg h6] at hf ⊢
  by_cases h7 : k = 7
  · rw [if_pos h7] at hf ⊢
    have h9 := of_decide_eq_true (plain_false hf).1
    match ats, us, h9.1, h9.2.1 with
    | [a], [u], _, _ =>
      refine ⟨_, rfl, fun u1 fs1 ws1 h => ?_⟩
      unfold tellS at h
      split at h
      · cases h
      · split at h
        · cases h
        · injection h with q1 q2 q3
          subst q1 q2
          exact ⟨by simp, ho⟩
  rw [if_neg h7] at hf ⊢
  by_cases h8 : k = 8
  · rw [if_pos h8] at hf ⊢
    have h9 := of_decide_eq_true (plain_false hf).1
    match ats, h9.1 with
    | [a], _ =>
      refine ⟨_, rfl, fun u1 fs1 ws1 h => ?_⟩
      unfold haltS at h
      split at h <;> cases h
  rw [if_neg h8] at hf
  cases hf
theorem call_some {K : Nat} {k x n : Int} {i : Bool} {ts : List Int} {ats : List (Bool × Int)} {fh : List (Int × List Int)} {fb us : List Te} {fs : List Fr} {e : Nat} (hm : Fm (.mk k x n i ts ats fh fb us)) (ho : OkF K fs) (h5 : k = 5) :
    ∃ r, callF e (.mk k x n i ts ats fh fb us) fs = some r ∧ ∀ b fs1, r = some (b, fs1) → Fm b ∧ nodes b ≤ K ∧ OkF K fs1 := by
  rw [Fm] at hm
  obtain ⟨hf, hl, hmb, hmu⟩ := hm
  rw [callF]
  unfold callK
  unfold formT formN at hf
  subst h5
  rw [if_neg (by decide), if_neg (by decide), if_neg (by decide), if_neg (by decide), if_pos rfl] at hf
  have h9 := of_decide_eq_true (plain_false hf).1
  have hA := ho.atom e
  match ats, h9.1 with
  | a :: rest, _ =>
    simp only
    rw [if_pos (by have := h9.2.1; simp at this; omega)]
    cases hv : atomV fs e a with
    | zero => exact ⟨_, rfl, fun b fs1 h => by cases h⟩
    | num n => exact ⟨_, rfl, fun b fs1 h => by cases h⟩
    | con n us => exact ⟨_, rfl, fun b fs1 h => by cases h⟩
    | fn ps b e2 =>
      simp only
      split
      · refine ⟨_, rfl, fun b1 fs1 h => ?_⟩
        injection h with h
        injection h with q1 q2
        subst q1 q2
        have hA1 := hA a
        rw [hv, OkV] at hA1
        refine ⟨hA1.1, hA1.2, fun f hf => ?_⟩
        rcases List.mem_append.1 hf with hf | hf
        · exact ho f hf
        · simp at hf
          subst hf
          exact OkL.bind (fun y hy => by cases hy) (fun v hv => by obtain ⟨c, _, rfl⟩ := List.mem_map.1 hv; exact hA c)
      · exact ⟨_, rfl, fun b fs1 h => by cases h⟩
theorem run_ends {F K : Nat} (hK6 : K ≤ 65536) : ∀ (m : Nat) (t : Te) (e : Nat) (fs : List Fr) (s : Nat) (ws : List Int), Fm t → nodes t ≤ K → OkF K fs → s ≤ F → (F - s) * (K + 1) + nodes t ≤ m → ∃ r, run F m t e fs s ws = some r
  | 0, t, e, fs, s, ws, hm, _, _, _, h => by have := nodes_pos t; omega
  | m + 1, t, e, fs, s, ws, hm, hK, ho, hs, h => by
    rw [run]
    obtain ⟨k, x, n, i, ts, ats, fh, fb, us⟩ := t
    by_cases h5 : kind (.mk k x n i ts ats fh fb us) = 5
    · rw [if_pos h5]
      by_cases hsF : s = F
      · rw [if_pos hsF]; exact ⟨_, rfl⟩
      · rw [if_neg hsF]
        obtain ⟨r, hr, hr2⟩ := call_some (e := e) hm ho h5
        rw [hr]
        match r, hr2 with
        | none, _ => exact ⟨_, rfl⟩
        | some (b, fs1), hr2 =>
          obtain ⟨q1, q2, q3⟩ := hr2 b fs1 rfl
          refine run_ends hK6 m b _ fs1 (s + 1) ws q1 q2 q3 (by omega) ?_
          have e1 : F - s = (F - (s + 1)) + 1 := by omega
          rw [e1, Nat.add_mul] at h
          have := nodes_pos (.mk k x n i ts ats fh fb us)
          omega
    · rw [if_neg h5]
      obtain ⟨st, hst, hst2⟩ := does_some hK6 (e := e) (ws := ws) hm hK ho h5
      rw [hst]
      match st, hst2 with
      | .halt k1 ws1 ss, _ => exact ⟨_, rfl⟩
      | .go u fs1 ws1, hst2 =>
        obtain ⟨q1, q2⟩ := hst2 u fs1 ws1 rfl
        rw [Fm] at hm
        rw [nodes] at hK h
        have h9 := nodes_mem q1
        exact run_ends hK6 m u e fs1 s ws1 (hm.2.2.2.mem u q1) (by omega) q2 hs (by omega)
theorem okV_input (K : Nat) : ∀ (l : List Int), OkV K (inputP l)
  | [] => by rw [inputP, OkV, OkVL]; trivial
  | n :: l => by rw [inputP, OkV, OkVL, OkVL, OkVL, OkV]; exact ⟨trivial, okV_input K l, trivial⟩
theorem run_whole (F : Nat) (t : Te) (l : List Int) (he : Even t) (hg : goodT t = true) : ∃ r, run F (F * 65537 + 65536) t 0 (frs0 l) 0 [] = some r := by
  obtain ⟨h1, h2⟩ := good_fm he hg
  exact run_ends (F := F) (K := 65536) (Nat.le_refl _) _ t 0 (frs0 l) 0 [] h1 h2 (fun f hf => by
    unfold frs0 at hf
    simp at hf
    subst hf
    intro y hy
    simp at hy
    subst hy
    exact okV_input _ l) (by omega) (by omega)
/-- What running a term tells: its end, writes, shows, error; steps. -/
def RunP (t : Te) (l : List Int) (f : Int) (r : Int × List Int × List Int × Int) (s : Nat) : Prop :=
  if goodT t = false then r = (0, [], [], 220) ∧ s = 0
  else if 256 < l.length ∨ f < 0 ∨ 1048576 < f then r = (0, [], [], 1) ∧ s = 0
  else ∃ g k ws ss, run f.toNat g t 0 (frs0 l) 0 [] = some (k, ws, ss, s) ∧ r = (if k < 0 then (0, [], [], 220) else (k, ws, if k = 1 then ss else [], 0))
end Tm
end Go.Proofs.Ytdmkjndlobichaa
