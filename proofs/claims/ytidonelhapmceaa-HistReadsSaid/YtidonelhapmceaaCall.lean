/- Calls held against one another; the reference's Serial; operations held against one another. -/
import Derived.Test.YtidonelhapmceaaQuiet
import Derived.Test.YtidonelhapmceaaKeep
namespace Go.Proofs.Ytidonelhapmceaa
open Go.RowKit

theorem Cal.at {W : World} {b : Nat} {c : Cal} {x : Value} (h : Holds W b (c.cells x).toArray) : W.cell? ⟨b, 0, none⟩ = some (.int .i64 c.c0) ∧ W.cell? ⟨b, 1, none⟩ = some (.string c.c1) ∧ W.cell? ⟨b, 2, none⟩ = some (.string c.c2) ∧ W.cell? ⟨b, 3, none⟩ = some (.int .i64 c.c3) ∧ W.cell? ⟨b, 4, none⟩ = some (.int .i64 c.c4) ∧
    W.cell? ⟨b, 5, none⟩ = some (.int .i64 c.c5) ∧ W.cell? ⟨b, 6, none⟩ = some (.int .i64 c.c6) ∧ W.cell? ⟨b, 7, none⟩ = some (.int .i64 c.c7) ∧ W.cell? ⟨b, 8, none⟩ = some x :=
  ⟨h.cell 0, h.cell 1, h.cell 2, h.cell 3, h.cell 4, h.cell 5, h.cell 6, h.cell 7, h.cell 8⟩
set_option maxRecDepth 100000 in
set_option maxHeartbeats 8000000 in
theorem call_any {w : World} {c : Cal} {x x' : Value} (hx : Den 1 w x (byts c.ds)) (hx' : Den 1 w x' (byts c.ds)) :
    Calls Try.prog 22 #[.agg (c.cells x).toArray, .agg (c.cells x').toArray] w fun e w' => e = .returned (.bool true) ∧ Below w.heap.size w w' := by
  obtain ⟨A, hA⟩ : ∃ A : Array Value, A = (c.cells x).toArray := ⟨_, rfl⟩
  obtain ⟨B, hB⟩ : ∃ B : Array Value, B = (c.cells x').toArray := ⟨_, rfl⟩
  rw [← hA, ← hB]
  have H1 : Hid (Holds ((w.alloc (.cells A 28)).alloc (.cells B 28)) w.heap.size (c.cells x).toArray) := Lib.hid (by rw [← hA]; exact (Holds.new _ _ _).alloc _)
  have H2 : Hid (Holds ((w.alloc (.cells A 28)).alloc (.cells B 28)) (w.heap.size + 1) (c.cells x').toArray) := Lib.hid (by
    have := Holds.new (w.alloc (.cells A 28)) B 28
    rw [← hB]
    simpa using this)
  have HW : Hid (Below w.heap.size w ((w.alloc (.cells A 28)).alloc (.cells B 28))) := Lib.hid (((Below.refl w.heap.size w).alloc (Nat.le_refl _) _).alloc (by simp) _)
  obtain ⟨p1, k1, rfl⟩ := hx.value
  obtain ⟨p3, k3, rfl⟩ := hx'.value
  have q1 := (hx.below HW.out).convert 26 5 Try.underlying26 Try.underlying5 9 Try.underlying9
  have q2 := (hx'.below HW.out).convert 26 5 Try.underlying26 Try.underlying5 9 Try.underlying9
  obtain ⟨u0, u1, u2, u3, u4, u5, u6, u7, u8⟩ := Cal.at H1.out
  obtain ⟨v0, v1, v2, v3, v4, v5, v6, v7, v8⟩ := Cal.at H2.out
  clear hA hB hx hx'
  go_enter Try.func22, Try.ntmps22
  go_wp2_with fail
  go_ret
  exact ⟨rfl, HW.out⟩
end Go.Proofs.Ytidonelhapmceaa
