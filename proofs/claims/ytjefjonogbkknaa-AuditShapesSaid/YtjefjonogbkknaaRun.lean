/- What events are read as: plain Lean. -/
import Derived.Test.YtjefjonogbkknaaCopy
namespace Go.Proofs.Ytjefjonogbkknaa
open Go.RowKit

def upd (f : Nat → Nat) (t v : Nat) : Nat → Nat := fun x => if x = t then v else f x
structure St where
  l : List OpI
  op : Nat → Nat
def St.new : St := ⟨[], fun _ => 0⟩
def okE (s : St) (e : Ev) : Bool := decide ((e.k = 1 ∨ e.k = 2) ∧ 0 ≤ e.t ∧ e.t < 8 ∧ (e.k = 1 ↔ s.op e.t.toNat = 0))
def opened (e : Ev) (i : Nat) : OpI := ⟨e.t, i, -1, e.c, Res.zero⟩
def closed (o : OpI) (e : Ev) (i : Nat) : OpI := ⟨o.t, o.f, i, o.c, e.r⟩
def stepE (s : St) (i : Nat) (e : Ev) : St :=
  if e.k = 1 then ⟨s.l ++ [opened e i], upd s.op e.t.toNat (s.l.length + 1)⟩
  else ⟨s.l.modify (s.op e.t.toNat - 1) (closed · e i), upd s.op e.t.toNat 0⟩
def runE : List Ev → Nat → St → Except Nat St
  | [], _, s => .ok s
  | e :: r, i, s => if e.k = 3 then runE r (i + 1) s else if okE s e then runE r (i + 1) (stepE s i e) else .error i
def listOf : Except Nat St → List OpI
  | .ok s => s.l
  | .error _ => []
def whyOf : Except Nat St → Int
  | .ok _ => 0
  | .error _ => 12
def atOf : Except Nat St → Int
  | .ok _ => 0
  | .error i => i
def ops (E : List Ev) : Except Nat St := runE E 0 St.new

theorem runE_drop {E : List Ev} {i : Nat} {e : Ev} (h : E[i]? = some e) (s : St) : runE (E.drop i) i s = if e.k = 3 then runE (E.drop (i + 1)) (i + 1) s else if okE s e then runE (E.drop (i + 1)) (i + 1) (stepE s i e) else .error i := by
  obtain ⟨hi, he⟩ := List.getElem?_eq_some_iff.1 h
  rw [List.drop_eq_getElem_cons hi, he]
  rfl
theorem stepE_len (s : St) (i : Nat) (e : Ev) : (stepE s i e).l.length ≤ s.l.length + 1 := by
  unfold stepE
  split <;> simp
/-- What is open is there. -/
def St.fine (s : St) : Prop := ∀ t, s.op t ≤ s.l.length
theorem St.fine_new : St.new.fine := fun _ => Nat.le_refl _
theorem St.fine_step {s : St} (h : s.fine) (i : Nat) (e : Ev) : (stepE s i e).fine := by
  intro t
  have := h t
  unfold stepE
  split
  · simp only [upd, List.length_append, List.length_singleton]
    split <;> omega
  · simp only [upd, List.length_modify]
    split <;> omega
end Go.Proofs.Ytjefjonogbkknaa
