/- The walk of SpinLocks. -/
import Derived.Test.YtmhmgenchpemkaaFair
namespace Go.Proofs.Ytmhmgenchpemkaa
open Go.RowKit

/-- Between two rounds: holders of the one cell. -/
structure LState (n k : Nat) (L : List Mch) (s : MS) (h : Option Nat) : Prop where
  len : L.length = n
  ws : s.ws = [cOf h]
  hi : HoldI 0 k L h
theorem LState.go {n k : Nat} {L : List Mch} {s : MS} {h : Option Nat} {j : Nat} {x : Mch} (H : LState n k L s h) (hx : L[j]? = some x) (hd : x.done = false) (hk : k ≤ 100) :
    ∃ h', stepM s x j = holdM s x (j + 1) ∧ LState n k (L.set j (holdM s x (j + 1)).1) (holdM s x (j + 1)).2 h' ∧ HGo k h h' j x (holdM s x (j + 1)).1 := by
  have hk1 : x.kind = 1 := by cases H.hi.ok j x hx <;> assumption
  obtain ⟨h', h1, h2, h3⟩ := hold_step (pre := []) H.hi H.ws hx hd hk
  exact ⟨h', by rw [stepM, if_pos hk1], ⟨by simpa using H.len, h1, h2⟩, h3⟩
/-- Who holds the lock has so many steps ahead at most. -/
def Ends (k : Nat) (L : List Mch) (h : Option Nat) (j m : Nat) : Prop := ∃ x, L[j]? = some x ∧ ((x.done = false ∧ h = some j ∧ hrem k x ≤ m) ∨ (x.done = true ∧ h = none))
theorem hrem_pos (k : Nat) (x : Mch) : 1 ≤ hrem k x := by unfold hrem; split <;> (try split) <;> omega
theorem ends_go {n k : Nat} {L : List Mch} {s : MS} {h : Option Nat} {j m : Nat} {x : Mch} (H : LState n k L s h) (hx : L[j]? = some x) (hd : x.done = false) (hk : k ≤ 100) (he : Ends k L h j (m + 1)) :
    ∃ h', stepM s x j = holdM s x (j + 1) ∧ LState n k (L.set j (holdM s x (j + 1)).1) (holdM s x (j + 1)).2 h' ∧ Ends k (L.set j (holdM s x (j + 1)).1) h' j m := by
  obtain ⟨h', h1, h2, hg⟩ := H.go hx hd hk
  obtain ⟨y, hy, ⟨_, rfl, hr⟩ | ⟨hd', _⟩⟩ := he
  · rw [hx] at hy; cases hy
    have hj := (List.getElem?_eq_some_iff.1 hx).1
    refine ⟨h', h1, h2, _, List.getElem?_set_self hj, ?_⟩
    cases hg with
    | take e => cases e
    | on e e' hd1 hr1 => exact .inl ⟨hd1, e', by omega⟩
    | fin e e' hd1 hr1 => exact .inr ⟨hd1, e'⟩
    | wait i e e' hij => cases e; exact absurd rfl hij
  · rw [hx] at hy; cases hy
    rw [hd] at hd'; cases hd'
theorem ends_zero {n k : Nat} {L : List Mch} {s : MS} {h : Option Nat} {j : Nat} (_H : LState n k L s h) (he : Ends k L h j 0) : h = none := by
  obtain ⟨y, hy, ⟨_, rfl, hr⟩ | ⟨_, e⟩⟩ := he
  · have := hrem_pos k y; omega
  · exact e
theorem ends_start {n k : Nat} {L : List Mch} {s : MS} {j : Nat} (H : LState n k L s (some j)) : Ends k L (some j) j (k + 1) := by
  obtain ⟨x, hx⟩ : ∃ x, L[j]? = some x := ⟨_, List.getElem?_eq_getElem (H.hi.hold j rfl)⟩
  refine ⟨x, hx, .inl ?_⟩
  cases H.hi.ok j x hx with
  | fin ha hw hk hd hh => exact absurd rfl hh
  | w0 ha hw hk hd hh hp => exact absurd rfl hh
  | h3 ha hw hk hd hh hp l0 l1 => exact ⟨hd, rfl, by simp [hrem, hp]; omega⟩
  | h5 ha hw hk hd hh hp => exact ⟨hd, rfl, by simp [hrem, hp]⟩
/-- Who goes on alone: t steps are done. -/
def Alone (k : Nat) (L : List Mch) (h : Option Nat) (j t : Nat) : Prop := ∃ x, L[j]? = some x ∧ x.done = false ∧ ((t = 0 ∧ h = none) ∨ (0 < t ∧ h = some j)) ∧ hrem k x + t = k + 2
theorem alone_start {n k : Nat} {L : List Mch} {s : MS} {j : Nat} {x : Mch} (H : LState n k L s none) (hx : L[j]? = some x) (hd : x.done = false) : Alone k L none j 0 := by
  refine ⟨x, hx, hd, .inl ⟨rfl, rfl⟩, ?_⟩
  cases H.hi.ok j x hx with
  | fin ha hw hk hd' hh => rw [hd] at hd'; cases hd'
  | w0 ha hw hk hd hh hp => simp [hrem, hp]
  | h3 ha hw hk hd hh hp l0 l1 => cases hh
  | h5 ha hw hk hd hh hp => cases hh
theorem alone_go {n k : Nat} {L : List Mch} {s : MS} {h : Option Nat} {j t : Nat} (H : LState n k L s h) (hk : k ≤ 100) (he : Alone k L h j t) (ht : t ≤ k + 1) :
    ∃ x h', L[j]? = some x ∧ x.done = false ∧ stepM s x j = holdM s x (j + 1) ∧ LState n k (L.set j (holdM s x (j + 1)).1) (holdM s x (j + 1)).2 h' ∧ (t ≤ k → Alone k (L.set j (holdM s x (j + 1)).1) h' j (t + 1)) ∧ (t = k + 1 → (holdM s x (j + 1)).1.done = true ∧ h' = none) := by
  obtain ⟨x, hx, hd, hh, hr⟩ := he
  obtain ⟨h', h1, h2, hg⟩ := H.go hx hd hk
  have hj := (List.getElem?_eq_some_iff.1 hx).1
  refine ⟨x, h', hx, hd, h1, h2, fun htk => ?_, fun htk => ?_⟩
  · refine ⟨_, List.getElem?_set_self hj, ?_⟩
    cases hg with
    | take e e' hd1 hr1 hr2 =>
      subst e
      rcases hh with ⟨rfl, _⟩ | ⟨_, hh⟩
      · exact ⟨hd1, .inr ⟨by omega, e'⟩, by omega⟩
      · cases hh
    | on e e' hd1 hr1 => exact ⟨hd1, .inr ⟨by omega, e'⟩, by omega⟩
    | fin e e' hd1 hr1 => omega
    | wait i e e' hij =>
      subst e
      rcases hh with ⟨_, hh⟩ | ⟨_, hh⟩
      · cases hh
      · cases hh; exact absurd rfl hij
  · cases hg with
    | take e e' hd1 hr1 hr2 => omega
    | on e e' hd1 hr1 => have := hrem_pos k (holdM s x (j + 1)).1; omega
    | fin e e' hd1 hr1 => exact ⟨hd1, e'⟩
    | wait i e e' hij =>
      subst e
      rcases hh with ⟨_, hh⟩ | ⟨_, hh⟩
      · cases hh
      · cases hh; exact absurd rfl hij
/-- What is asked of the cell before and behind a step. -/
inductive Turn (j : Nat) (c c' : Int) (d : Bool) : Prop
  | same (e : c' = c) (hd : d = false)
  | take (e : c = 0) (e' : c' = (j : Int) + 1) (hd : d = false)
  | give (e : c = (j : Int) + 1) (e' : c' = 0)
theorem turn_of {k : Nat} {h h' : Option Nat} {j : Nat} {x x' : Mch} (hg : HGo k h h' j x x') : Turn j (cOf h) (cOf h') x'.done := by
  cases hg with
  | take e e' hd => subst e e'; exact .take rfl rfl hd
  | on e e' hd => subst e e'; exact .same rfl hd
  | fin e e' hd => subst e e'; exact .give rfl rfl
  | wait i e e' hij hd => subst e e'; exact .same rfl hd
end Go.Proofs.Ytmhmgenchpemkaa
