/- Closed runs of hist.Ops. -/
import Derived.Test.YtidonelhapmceaaSerial
namespace Go.Proofs.Ytidonelhapmceaa
open Go.RowKit

def Cal.zero : Cal := ⟨0, 0, 0, 0, 0, 0, ⟨#[]⟩, ⟨#[]⟩, []⟩
def evz (k t : Int) : Ev := ⟨k, t, Cal.zero, Res.zero⟩
def evCells (E : List (Int × Int)) : List Value := (E.map fun p => (evz p.1 p.2).cells (.slice none 0 0) (.slice none 0 0) (.slice none 0 0)).flatten
theorem evs_new (w : World) (E : List (Int × Int)) : Evs (w.alloc (.cells (evCells E).toArray 35)) (some ⟨w.heap.size, 0, none⟩) (E.map fun p => evz p.1 p.2) := by
  refine .inr ⟨w.heap.size, 0, rfl, by simp, fun i e he => ?_⟩
  obtain ⟨p, hp, rfl⟩ : ∃ p, E[i]? = some p ∧ evz p.1 p.2 = e := by simpa using he
  refine ⟨.slice none 0 0, .slice none 0 0, .slice none 0 0, ⟨Den.nil _ _, Den.nil _ _, Den.nil _ _⟩, fun j v hv => ?_⟩
  have hj : j < 22 := (List.getElem?_eq_some_iff.1 hv).1
  have := flatten_get 22 (E.map fun p => (evz p.1 p.2).cells (.slice none 0 0) (.slice none 0 0) (.slice none 0 0)) i j ((evz p.1 p.2).cells (.slice none 0 0) (.slice none 0 0) (.slice none 0 0)) (by
    intro r hr
    obtain ⟨q, _, rfl⟩ := List.mem_map.1 hr
    rfl) (by simp [hp]) hj
  rw [Nat.zero_add, World.cell?_alloc_new, ← hv, ← this]
  simp [evCells]

/-- A closed run. -/
theorem ops_new {w : World} {E : List (Int × Int)} {L : Array Value} {n : Nat} (hL : L = (evCells E).toArray) (hn : E.length = n) (h : n ≤ 1000) {l : List OpI} {c a : Int} (h1 : listOf (ops (E.map fun p => evz p.1 p.2)) = l) (h2 : whyOf (ops (E.map fun p => evz p.1 p.2)) = c) (h3 : atOf (ops (E.map fun p => evz p.1 p.2)) = a) :
    Calls Try.prog 8 #[.slice (some ⟨w.heap.size, 0, none⟩) n n] (w.alloc (.cells L 35)) fun e w' => ∃ v base bo, e = .returned (.tuple #[v, .int .i64 c, .int .i64 a]) ∧ Outs w' base bo 40 v l ∧ Below w.heap.size w w' := by
  subst hL h1 h2 h3
  refine (ops_any (by simpa using hn) (evs_new w E) h).mono fun e w' he => ?_
  obtain ⟨v, e1, e2, e3⟩ := he
  exact ⟨v, _, _, e1, e2, ((Below.refl _ _).alloc (Nat.le_refl _) _).trans (e3.mono (by simp))⟩

def opz (t f o : Int) : OpI := ⟨t, f, o, Cal.zero, Res.zero⟩
theorem run1 : listOf (ops ([(1, 0), (1, 1), (2, 0)].map fun p => evz p.1 p.2)) = [opz 0 0 2, opz 1 1 (-1)] ∧ whyOf (ops ([(1, 0), (1, 1), (2, 0)].map fun p => evz p.1 p.2)) = 0 ∧ atOf (ops ([(1, 0), (1, 1), (2, 0)].map fun p => evz p.1 p.2)) = 0 := by
  refine ⟨rfl, rfl, rfl⟩
theorem run2 : listOf (ops ([(2, 0)].map fun p => evz p.1 p.2)) = [] ∧ whyOf (ops ([(2, 0)].map fun p => evz p.1 p.2)) = 12 ∧ atOf (ops ([(2, 0)].map fun p => evz p.1 p.2)) = 0 := by
  refine ⟨rfl, rfl, rfl⟩

set_option maxRecDepth 100000 in
set_option maxHeartbeats 4000000 in
theorem known_any (w : World) : Calls Try.prog 11 #[] w fun e w' => e = .returned (.bool true) ∧ Below w.heap.size w w' := by
  go_enter Try.func11, Try.ntmps11
  go_wp2_with fail
  refine (ops_new (E := [(1, 0), (1, 1), (2, 0)]) rfl rfl (by decide) run1.1 run1.2.1 run1.2.2).mono ?_
  rintro e w1 ⟨v, base, bo, rfl, o1, b1⟩
  have O1 := Lib.hid o1
  have B1 := Lib.hid b1
  clear o1 b1
  go_wp2_with fail
  refine (ops_new (E := [(2, 0)]) rfl rfl (by decide) run2.1 run2.2.1 run2.2.2).mono ?_
  rintro e w2 ⟨v2, base2, bo2, rfl, o2, b2⟩
  have O2 := Lib.hid (O1.out.below b2)
  have B2 := Lib.hid (B1.out.trans (b2.mono B1.out.size))
  clear b2 o2
  obtain ⟨f, o, cp, rfl⟩ : ∃ f o cp, v = .slice (some ⟨f, o, none⟩) 2 cp := by
    obtain ⟨_, _, hw, _⟩ := O2.out
    exact hw.form (by decide)
  obtain ⟨x, y, z, _, _, R0⟩ := O2.out.row (k := 0) rfl
  obtain ⟨x', y', z', _, _, R1⟩ := O2.out.row (k := 1) rfl
  have c0 : w2.cell? ⟨f, o + 22, none⟩ = some (.int .i64 2) := by simpa using R0 22 (.int .i64 2) rfl
  have c1 : w2.cell? ⟨f, o + 23 + 22, none⟩ = some (.int .i64 (-1)) := by simpa using R1 22 (.int .i64 (-1)) rfl
  clear R0 R1
  go_wp2_with (first | (go_at_call 9; refine (serial_any O2.out (by decide)).mono ?_; rintro e w3 ⟨rfl, b3⟩; rw [show serI [opz 0 0 2, opz 1 1 (-1)] = false from rfl]; have B3 := Lib.hid (B2.out.trans (b3.mono B2.out.size)); clear b3))
  go_ret
  exact ⟨rfl, B3.out⟩
end Go.Proofs.Ytidonelhapmceaa
