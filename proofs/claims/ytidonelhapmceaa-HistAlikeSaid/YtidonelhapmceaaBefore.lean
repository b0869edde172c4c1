/- Before and Serial, of the program and of the reference. -/
import Derived.Test.YtidonelhapmceaaPut
import Derived.Deep.CutRange
import Derived.Deep.DeepCutAuto
namespace Go.Proofs.Ytidonelhapmceaa
open Go.RowKit

def befI (a b : OpI) : Bool := decide (0 ≤ a.o) && decide (a.o < b.f)
def pairI (a b : OpI) : Bool := befI a b || befI b a
def pairAt (l : List OpI) (i k : Nat) : Bool := match l[i]?, l[k]? with | some a, some b => pairI a b | _, _ => true
/-- Every two, one behind the other. -/
def serI (l : List OpI) : Bool := (List.range l.length).all fun i => (List.range i).all fun k => pairAt l i k
theorem serI_yes {l : List OpI} (h : ∀ i k, k < i → i < l.length → pairAt l i k = true) : serI l = true := by
  unfold serI
  rw [List.all_eq_true]
  intro i hi
  rw [List.all_eq_true]
  intro k hk
  exact h i k (List.mem_range.1 hk) (List.mem_range.1 hi)
theorem serI_no {l : List OpI} {i k : Nat} (hk : k < i) (hi : i < l.length) (h : pairAt l i k = false) : serI l = false := by
  cases hs : serI l with
  | false => rfl
  | true =>
    unfold serI at hs
    rw [List.all_eq_true] at hs
    have h1 := hs i (List.mem_range.2 hi)
    rw [List.all_eq_true] at h1
    have h2 := h1 k (List.mem_range.2 hk)
    simp [h] at h2
theorem pairAt_eq {l : List OpI} {i k : Nat} {a b : OpI} (ha : l[i]? = some a) (hb : l[k]? = some b) : pairAt l i k = pairI a b := by
  unfold pairAt
  rw [ha, hb]

set_option maxRecDepth 100000 in
theorem before_any (a b : OpI) (x y z x' y' z' : Value) (w : World) : Calls Try.prog 10 #[.agg (a.cells x y z).toArray, .agg (b.cells x' y' z').toArray] w fun e w' => e = .returned (.bool (befI a b)) ∧ Below w.heap.size w w' := by
  obtain ⟨A, hA⟩ : ∃ A : Array Value, A = (a.cells x y z).toArray := ⟨_, rfl⟩
  obtain ⟨B, hB⟩ : ∃ B : Array Value, B = (b.cells x' y' z').toArray := ⟨_, rfl⟩
  rw [← hA, ← hB]
  have H1 : Hid (Holds ((w.alloc (.cells A 40)).alloc (.cells B 40)) w.heap.size A) := Lib.hid ((Holds.new _ _ _).alloc _)
  have H2 : Hid (Holds ((w.alloc (.cells A 40)).alloc (.cells B 40)) (w.heap.size + 1) B) := Lib.hid (by
    have := Holds.new (w.alloc (.cells A 40)) B 40
    simpa using this)
  have HW : Hid (Below w.heap.size w ((w.alloc (.cells A 40)).alloc (.cells B 40))) := Lib.hid (((Below.refl w.heap.size w).alloc (Nat.le_refl _) _).alloc (by simp) _)
  have v0 : ((w.alloc (.cells A 40)).alloc (.cells B 40)).cell? ⟨w.heap.size, 22, none⟩ = some (.int .i64 a.o) := by rw [H1.out.cell, hA]; rfl
  have v1 : ((w.alloc (.cells A 40)).alloc (.cells B 40)).cell? ⟨w.heap.size + 1, 21, none⟩ = some (.int .i64 b.f) := by rw [H2.out.cell, hB]; rfl
  clear hA hB
  go_enter Try.func10, Try.ntmps10
  by_cases h1 : 0 ≤ a.o
  · have d1 : decide (a.o ≥ 0) = true := decide_eq_true h1
    have d2 : decide (0 ≤ a.o) = true := decide_eq_true h1
    go_wp2_with fail
    go_ret
    exact ⟨by simp [befI, h1], HW.out⟩
  · have d1 : decide (a.o ≥ 0) = false := decide_eq_false h1
    have d2 : decide (0 ≤ a.o) = false := decide_eq_false h1
    go_wp2_with fail
    go_ret
    exact ⟨by simp [befI]; omega, HW.out⟩

set_option maxRecDepth 100000 in
theorem rbefore_any (a b : OpI) (x y z x' y' z' : Value) (w : World) : Calls Try.prog 18 #[.agg (a.cells x y z).toArray, .agg (b.cells x' y' z').toArray] w fun e w' => e = .returned (.bool (befI a b)) ∧ Below w.heap.size w w' := by
  obtain ⟨A, hA⟩ : ∃ A : Array Value, A = (a.cells x y z).toArray := ⟨_, rfl⟩
  obtain ⟨B, hB⟩ : ∃ B : Array Value, B = (b.cells x' y' z').toArray := ⟨_, rfl⟩
  rw [← hA, ← hB]
  have H1 : Hid (Holds ((w.alloc (.cells A 51)).alloc (.cells B 51)) w.heap.size A) := Lib.hid ((Holds.new _ _ _).alloc _)
  have H2 : Hid (Holds ((w.alloc (.cells A 51)).alloc (.cells B 51)) (w.heap.size + 1) B) := Lib.hid (by
    have := Holds.new (w.alloc (.cells A 51)) B 51
    simpa using this)
  have HW : Hid (Below w.heap.size w ((w.alloc (.cells A 51)).alloc (.cells B 51))) := Lib.hid (((Below.refl w.heap.size w).alloc (Nat.le_refl _) _).alloc (by simp) _)
  have v0 : ((w.alloc (.cells A 51)).alloc (.cells B 51)).cell? ⟨w.heap.size, 22, none⟩ = some (.int .i64 a.o) := by rw [H1.out.cell, hA]; rfl
  have v1 : ((w.alloc (.cells A 51)).alloc (.cells B 51)).cell? ⟨w.heap.size + 1, 21, none⟩ = some (.int .i64 b.f) := by rw [H2.out.cell, hB]; rfl
  clear hA hB
  go_enter Try.func18, Try.ntmps18
  by_cases h1 : 0 ≤ a.o
  · have d1 : decide (a.o ≥ 0) = true := decide_eq_true h1
    have d2 : decide (0 ≤ a.o) = true := decide_eq_true h1
    go_wp2_with fail
    go_ret
    exact ⟨by simp [befI, h1], HW.out⟩
  · have d1 : decide (a.o ≥ 0) = false := decide_eq_false h1
    have d2 : decide (0 ≤ a.o) = false := decide_eq_false h1
    go_wp2_with fail
    go_ret
    exact ⟨by simp [befI]; omega, HW.out⟩
end Go.Proofs.Ytidonelhapmceaa
