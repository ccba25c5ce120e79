/-
  EVAL, PLAIN: what a core expression is evaluated to. No program here.
-/
import Derived.Test.YtdmkjndlobichaaEPlain
namespace Go.Proofs.Ytdmkjndlobichaa
set_option linter.all false
namespace Ev

/-- A core expression. -/
inductive Co where
  | mk (k x y n : Int) (ints : Bool) (tags : List Int) (args : List Co)
mutual
/-- A value: an integer, a constructor, a function (with its own name, if it has one). -/
inductive Va where
  | num (n : Int)
  | con (t : Int) (us : List Va)
  | clo (x self : Int) (body : Co) (env : En)
/-- What is bound. -/
inductive En where
  | nil
  | bind (x : Int) (v : Va) (e : En)
end
def En.find : En → Int → Option Va
  | .nil, _ => none
  | .bind y v e, x => if y = x then some v else e.find x
/-- A value, or how it stopped: -1 stuck, 2 division, 3 fuel, 4 long. -/
inductive Out (α : Type) where
  | ok (a : α)
  | stop (e : Int)
abbrev R (α : Type) := Option (Out α × Nat × List Int)
def bnd {α β : Type} : R α → (α → Nat → List Int → R β) → R β
  | none, _ => none
  | some (.stop e, s, w), _ => some (.stop e, s, w)
  | some (.ok a, s, w), k => k a s w
def evL (f : Co → Nat → List Int → R Va) : List Co → Nat → List Int → R (List Va)
  | [], s, w => some (.ok [], s, w)
  | c :: cs, s, w => if cs.length < 900000 then bnd (f c s w) fun v s1 w1 => bnd (evL f cs s1 w1) fun vs s2 w2 => some (.ok (v :: vs), s2, w2) else none
/-- What is bound around a function's body, but for its parameter. -/
def around (x self : Int) (b : Co) (e : En) : En := if 0 < self then .bind self (.clo x self b e) e else e
/-- The number that a switch looks at. -/
def tagOf (ints : Bool) : Va → Option Int
  | .num n => if ints then some n else none
  | .con t _ => if ints then none else some t
  | .clo _ _ _ _ => none
def idxI : List Int → Int → Nat
  | [], _ => 0
  | t :: ts, n => if t = n then 0 else idxI ts n + 1
def arm (ints : Bool) (tags : List Int) (rest : List Co) (v : Va) : Option Co :=
  match tagOf ints v with
  | none => none
  | some n => rest[idxI tags n]?
def field (n : Int) (s : Nat) (w : List Int) : List Va → R Va
  | [.con _ us] => match us[n.toNat]? with
    | some v => some (.ok v, s, w)
    | none => some (.stop (-1), s, w)
  | [_] => some (.stop (-1), s, w)
  | _ => none
def prim (n : Int) (s : Nat) (w : List Int) : List Va → R Va
  | [.num a, .num b] => if dok n b then some (.ok (if n < 6 then .num (dov n a b) else .con (dov n a b) []), s, w) else some (.stop 2, s, w)
  | [_, _] => some (.stop (-1), s, w)
  | _ => none
def tell (s : Nat) (w : List Int) : List Va → R Va
  | [.num a] => if w.length = 4096 then some (.stop 4, s, w) else some (.ok (.con 0 []), s, w ++ [a])
  | [_] => some (.stop (-1), s, w)
  | _ => none
/-- A function is applied: a step; run: how its body is evaluated. -/
def app (F : Nat) (run : Co → En → Nat → List Int → R Va) (vf va : Va) (s : Nat) (w : List Int) : R Va :=
  if s = F then some (.stop 3, s, w) else match vf with
    | .clo x self b e => run b (.bind x va (around x self b e)) (s + 1) w
    | _ => some (.stop (-1), s + 1, w)
/-- A switch, behind the value that it looks at. -/
def sw (f : Co → En → Nat → List Int → R Va) (i : Bool) (ts : List Int) (rest : List Co) (e : En) (v : Va) (s : Nat) (w : List Int) : R Va :=
  match arm i ts rest v with
  | some c => f c e s w
  | none => some (.stop (-1), s, w)
/-- One level of an evaluation; f: that of what is smaller. -/
def evS (F : Nat) (f : Co → En → Nat → List Int → R Va) : Co → En → Nat → List Int → R Va
  | .mk k x y n i ts us, e, s, w =>
    if k = 1 then (match us, e.find x with
      | [], some v => some (.ok v, s, w)
      | _, _ => none)
    else if k = 2 then (match us with
      | [] => some (.ok (.num n), s, w)
      | _ => none)
    else if k = 3 then (match us with
      | [b] => some (.ok (.clo x 0 b e), s, w)
      | _ => none)
    else if k = 4 then (match us with
      | [a, b] => bnd (f a e s w) fun vf s1 w1 => bnd (f b e s1 w1) fun va s2 w2 => app F f vf va s2 w2
      | _ => none)
    else if k = 5 then (match us with
      | [a, b] => bnd (f a e s w) fun v s1 w1 => f b (.bind x v e) s1 w1
      | _ => none)
    else if k = 6 then (match us with
      | [a, b] => if 0 < x then f b (.bind x (.clo y x a e) e) s w else none
      | _ => none)
    else if k = 7 then bnd (evL (fun c s w => f c e s w) us s w) fun vs s1 w1 => some (.ok (.con n vs), s1, w1)
    else if k = 8 then bnd (evL (fun c s w => f c e s w) us s w) fun vs s1 w1 => if 0 ≤ n then field n s1 w1 vs else none
    else if k = 9 then (match us with
      | a :: rest => bnd (f a e s w) fun v s1 w1 => sw f i ts rest e v s1 w1
      | _ => none)
    else if k = 10 then bnd (evL (fun c s w => f c e s w) us s w) fun vs s1 w1 => if 1 ≤ n ∧ n ≤ 7 then prim n s1 w1 vs else none
    else if k = 11 then bnd (evL (fun c s w => f c e s w) us s w) fun vs s1 w1 => tell s1 w1 vs
    else none
def ev (F : Nat) : Nat → Co → En → Nat → List Int → R Va
  | 0 => fun _ _ _ _ => none
  | g + 1 => evS F (ev F g)
mutual
/-- What a value shows, behind others. -/
def showV : Va → List Int → Out (List Int)
  | .num n, l => if l.length = 4096 then .stop 4 else .ok (l ++ [n])
  | .con t us, l => if l.length = 4096 then .stop 4 else showL us (l ++ [t])
  | .clo _ _ _ _, _ => .stop (-1)
def showL : List Va → List Int → Out (List Int)
  | [], l => .ok l
  | v :: vs, l => match showV v l with
    | .ok l1 => showL vs l1
    | .stop e => .stop e
end
/-- The list of the inputs. -/
def inputV : List Int → Va
  | [] => .con 0 []
  | n :: l => .con 1 [.num (w31 n), inputV l]
/-- A whole expression is evaluated, and applied to the inputs. -/
def whole (F g : Nat) (c : Co) (l : List Int) : R Va := bnd (ev F g c .nil 0 []) fun f s w => app F (ev F g) f (inputV l) s w

section
variable {α β : Type}
theorem bnd_some {r : R α} {k : α → Nat → List Int → R β} {o : Out β} {s : Nat} {w : List Int} (h : bnd r k = some (o, s, w)) :
    (∃ e, r = some (.stop e, s, w) ∧ o = .stop e) ∨ ∃ a s1 w1, r = some (.ok a, s1, w1) ∧ k a s1 w1 = some (o, s, w) := by
  match r, h with
  | none, h => cases h
  | some (.stop e, s1, w1), h =>
    injection h with h; injection h with h1 h; injection h with h2 h3
    subst h1 h2 h3
    exact .inl ⟨e, rfl, rfl⟩
  | some (.ok a, s1, w1), h => exact .inr ⟨a, s1, w1, rfl, h⟩
theorem bnd_stop {r : R α} {k : α → Nat → List Int → R β} {e : Int} {s : Nat} {w : List Int} (h : r = some (.stop e, s, w)) : bnd r k = some (.stop e, s, w) := by rw [h]; rfl
theorem bnd_ok {r : R α} {k : α → Nat → List Int → R β} {a : α} {s : Nat} {w : List Int} (h : r = some (.ok a, s, w)) : bnd r k = k a s w := by rw [h]; rfl
end
end Ev
end Go.Proofs.Ytdmkjndlobichaa
