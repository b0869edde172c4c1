/- Calls held against one another. -/
import Derived.Test.YtjefjonogbkknaaKeep
namespace Go.Proofs.Ytjefjonogbkknaa
open Go.RowKit

theorem Cal.at {W : World} {b : Nat} {c : Cal} {x : Value} (h : Holds W b (c.cells x).toArray) : W.cell? ⟨b, 0, none⟩ = some (.int .i64 c.c0) ∧ W.cell? ⟨b, 1, none⟩ = some (.string c.c1) ∧ W.cell? ⟨b, 2, none⟩ = some (.string c.c2) ∧ W.cell? ⟨b, 3, none⟩ = some (.int .i64 c.c3) ∧ W.cell? ⟨b, 4, none⟩ = some (.int .i64 c.c4) ∧
    W.cell? ⟨b, 5, none⟩ = some (.int .i64 c.c5) ∧ W.cell? ⟨b, 6, none⟩ = some (.int .i64 c.c6) ∧ W.cell? ⟨b, 7, none⟩ = some (.int .i64 c.c7) ∧ W.cell? ⟨b, 8, none⟩ = some x :=
  ⟨h.cell 0, h.cell 1, h.cell 2, h.cell 3, h.cell 4, h.cell 5, h.cell 6, h.cell 7, h.cell 8⟩
def calI (a b : Cal) : Bool := decide (a.c0 = b.c0 ∧ a.c1 = b.c1 ∧ a.c2 = b.c2 ∧ a.c3 = b.c3 ∧ a.c4 = b.c4 ∧ a.c5 = b.c5 ∧ a.c6 = b.c6 ∧ a.c7 = b.c7) && (Lib.bytesOf a.ds == Lib.bytesOf b.ds)
theorem strs_ne {a b : ByteArray} (h : ¬ a = b) : (a.toList == b.toList) = false := by
  rw [beq_eq_false_iff_ne]
  intro e
  exact h (bytes_inj e)
set_option maxRecDepth 100000 in
set_option maxHeartbeats 8000000 in
theorem sameCall_any {w : World} {a b : Cal} {x x' : Value} (hx : Den 1 w x (byts a.ds)) (hx' : Den 1 w x' (byts b.ds)) :
    Calls Try.prog 10 #[.agg (a.cells x).toArray, .agg (b.cells x').toArray] w fun e w' => e = .returned (.bool (calI a b)) ∧ Below w.heap.size w w' := by
  obtain ⟨A, hA⟩ : ∃ A : Array Value, A = (a.cells x).toArray := ⟨_, rfl⟩
  obtain ⟨B, hB⟩ : ∃ B : Array Value, B = (b.cells x').toArray := ⟨_, rfl⟩
  rw [← hA, ← hB]
  have H1 : Hid (Holds ((w.alloc (.cells A 39)).alloc (.cells B 39)) w.heap.size (a.cells x).toArray) := Lib.hid (by rw [← hA]; exact (Holds.new _ _ _).alloc _)
  have H2 : Hid (Holds ((w.alloc (.cells A 39)).alloc (.cells B 39)) (w.heap.size + 1) (b.cells x').toArray) := Lib.hid (by
    have := Holds.new (w.alloc (.cells A 39)) B 39
    rw [← hB]
    simpa using this)
  have HW : Hid (Below w.heap.size w ((w.alloc (.cells A 39)).alloc (.cells B 39))) := Lib.hid (((Below.refl w.heap.size w).alloc (Nat.le_refl _) _).alloc (by simp) _)
  have DX := Lib.hid (hx.below HW.out)
  have DX' := Lib.hid (hx'.below HW.out)
  obtain ⟨p1, k1, rfl⟩ := hx.value
  obtain ⟨p3, k3, rfl⟩ := hx'.value
  obtain ⟨u0, u1, u2, u3, u4, u5, u6, u7, u8⟩ := Cal.at H1.out
  obtain ⟨v0, v1, v2, v3, v4, v5, v6, v7, v8⟩ := Cal.at H2.out
  clear hA hB hx hx'
  go_enter Try.func10, Try.ntmps10
  by_cases g0 : a.c0 = b.c0
  · by_cases g1 : a.c1 = b.c1
    · by_cases g2 : a.c2 = b.c2
      · by_cases g3 : a.c3 = b.c3
        · by_cases g4 : a.c4 = b.c4
          · by_cases g5 : a.c5 = b.c5
            · by_cases g6 : a.c6 = b.c6
              · by_cases g7 : a.c7 = b.c7
                · by_cases g8 : (Lib.bytesOf a.ds == Lib.bytesOf b.ds) = true
                  · have G : Hid (calI a b = true) := Lib.hid (by simp [calI, g0, g1, g2, g3, g4, g5, g6, g7, g8])
                    have G8 : Hid ((Lib.bytesOf a.ds == Lib.bytesOf b.ds) = true) := Lib.hid (by simpa using g8)
                    clear g8
                    go_wp2_with (first | (go_at_call 17; refine (bytes_any DX.out DX'.out).mono ?_; rintro e w5 ⟨rfl, b5⟩; rw [G8.out]; have HW := Lib.hid (HW.out.trans (b5.mono HW.out.size)); clear b5))
                    go_ret
                    exact ⟨by rw [G.out]; rfl, HW.out⟩
                  · have G : Hid (calI a b = false) := Lib.hid (by simp [calI, g0, g1, g2, g3, g4, g5, g6, g7, g8])
                    have G8 : Hid ((Lib.bytesOf a.ds == Lib.bytesOf b.ds) = false) := Lib.hid (by simpa using g8)
                    clear g8
                    go_wp2_with (first | (go_at_call 17; refine (bytes_any DX.out DX'.out).mono ?_; rintro e w5 ⟨rfl, b5⟩; rw [G8.out]; have HW := Lib.hid (HW.out.trans (b5.mono HW.out.size)); clear b5))
                    go_ret
                    exact ⟨by rw [G.out]; rfl, HW.out⟩
                · have G : Hid (calI a b = false) := Lib.hid (by simp [calI, g7])
                  go_wp2_with fail
                  go_ret
                  exact ⟨by rw [G.out]; rfl, HW.out⟩
              · have G : Hid (calI a b = false) := Lib.hid (by simp [calI, g6])
                go_wp2_with fail
                go_ret
                exact ⟨by rw [G.out]; rfl, HW.out⟩
            · have G : Hid (calI a b = false) := Lib.hid (by simp [calI, g5])
              go_wp2_with fail
              go_ret
              exact ⟨by rw [G.out]; rfl, HW.out⟩
          · have G : Hid (calI a b = false) := Lib.hid (by simp [calI, g4])
            go_wp2_with fail
            go_ret
            exact ⟨by rw [G.out]; rfl, HW.out⟩
        · have G : Hid (calI a b = false) := Lib.hid (by simp [calI, g3])
          go_wp2_with fail
          go_ret
          exact ⟨by rw [G.out]; rfl, HW.out⟩
      · have G : Hid (calI a b = false) := Lib.hid (by simp [calI, g2])
        have h2 := strs_ne g2
        go_wp2_with fail
        go_ret
        exact ⟨by rw [G.out]; rfl, HW.out⟩
    · have G : Hid (calI a b = false) := Lib.hid (by simp [calI, g1])
      have h1 := strs_ne g1
      go_wp2_with fail
      go_ret
      exact ⟨by rw [G.out]; rfl, HW.out⟩
  · have G : Hid (calI a b = false) := Lib.hid (by simp [calI, g0])
    go_wp2_with fail
    go_ret
    exact ⟨by rw [G.out]; rfl, HW.out⟩
set_option maxRecDepth 100000 in
set_option maxHeartbeats 8000000 in
theorem keepCall_any {w : World} {a b : Cal} {x x' : Value} (hx : Den 1 w x (byts a.ds)) (hx' : Den 1 w x' (byts b.ds)) :
    Calls Try.prog 14 #[.agg (a.cells x).toArray, .agg (b.cells x').toArray] w fun e w' => e = .returned (.bool (calI a b)) ∧ Below w.heap.size w w' := by
  obtain ⟨A, hA⟩ : ∃ A : Array Value, A = (a.cells x).toArray := ⟨_, rfl⟩
  obtain ⟨B, hB⟩ : ∃ B : Array Value, B = (b.cells x').toArray := ⟨_, rfl⟩
  rw [← hA, ← hB]
  have H1 : Hid (Holds ((w.alloc (.cells A 39)).alloc (.cells B 39)) w.heap.size (a.cells x).toArray) := Lib.hid (by rw [← hA]; exact (Holds.new _ _ _).alloc _)
  have H2 : Hid (Holds ((w.alloc (.cells A 39)).alloc (.cells B 39)) (w.heap.size + 1) (b.cells x').toArray) := Lib.hid (by
    have := Holds.new (w.alloc (.cells A 39)) B 39
    rw [← hB]
    simpa using this)
  have HW : Hid (Below w.heap.size w ((w.alloc (.cells A 39)).alloc (.cells B 39))) := Lib.hid (((Below.refl w.heap.size w).alloc (Nat.le_refl _) _).alloc (by simp) _)
  have DX := Lib.hid (hx.below HW.out)
  have DX' := Lib.hid (hx'.below HW.out)
  obtain ⟨p1, k1, rfl⟩ := hx.value
  obtain ⟨p3, k3, rfl⟩ := hx'.value
  have q1 := DX.out.convert 24 5 Try.underlying24 Try.underlying5 9 Try.underlying9
  have q2 := DX'.out.convert 24 5 Try.underlying24 Try.underlying5 9 Try.underlying9
  have q3 := Lib.strOfNums_toList a.ds
  have q4 := Lib.strOfNums_toList b.ds
  obtain ⟨u0, u1, u2, u3, u4, u5, u6, u7, u8⟩ := Cal.at H1.out
  obtain ⟨v0, v1, v2, v3, v4, v5, v6, v7, v8⟩ := Cal.at H2.out
  clear hA hB hx hx'
  go_enter Try.func14, Try.ntmps14
  by_cases g0 : a.c0 = b.c0
  · by_cases g1 : a.c1 = b.c1
    · by_cases g2 : a.c2 = b.c2
      · by_cases g3 : a.c3 = b.c3
        · by_cases g4 : a.c4 = b.c4
          · by_cases g5 : a.c5 = b.c5
            · by_cases g6 : a.c6 = b.c6
              · by_cases g7 : a.c7 = b.c7
                · by_cases g8 : (Lib.bytesOf a.ds == Lib.bytesOf b.ds) = true
                  · have G : Hid (calI a b = true) := Lib.hid (by simp [calI, g0, g1, g2, g3, g4, g5, g6, g7, g8])
                    go_wp2_with fail
                    go_ret
                    exact ⟨by rw [G.out]; rfl, HW.out⟩
                  · have G : Hid (calI a b = false) := Lib.hid (by simp [calI, g0, g1, g2, g3, g4, g5, g6, g7, g8])
                    have g8 : (Lib.bytesOf a.ds == Lib.bytesOf b.ds) = false := by simpa using g8
                    go_wp2_with fail
                    go_ret
                    exact ⟨by rw [G.out]; rfl, HW.out⟩
                · have G : Hid (calI a b = false) := Lib.hid (by simp [calI, g7])
                  go_wp2_with fail
                  go_ret
                  exact ⟨by rw [G.out]; rfl, HW.out⟩
              · have G : Hid (calI a b = false) := Lib.hid (by simp [calI, g6])
                go_wp2_with fail
                go_ret
                exact ⟨by rw [G.out]; rfl, HW.out⟩
            · have G : Hid (calI a b = false) := Lib.hid (by simp [calI, g5])
              go_wp2_with fail
              go_ret
              exact ⟨by rw [G.out]; rfl, HW.out⟩
          · have G : Hid (calI a b = false) := Lib.hid (by simp [calI, g4])
            go_wp2_with fail
            go_ret
            exact ⟨by rw [G.out]; rfl, HW.out⟩
        · have G : Hid (calI a b = false) := Lib.hid (by simp [calI, g3])
          go_wp2_with fail
          go_ret
          exact ⟨by rw [G.out]; rfl, HW.out⟩
      · have G : Hid (calI a b = false) := Lib.hid (by simp [calI, g2])
        have h2 := strs_ne g2
        go_wp2_with fail
        go_ret
        exact ⟨by rw [G.out]; rfl, HW.out⟩
    · have G : Hid (calI a b = false) := Lib.hid (by simp [calI, g1])
      have h1 := strs_ne g1
      go_wp2_with fail
      go_ret
      exact ⟨by rw [G.out]; rfl, HW.out⟩
  · have G : Hid (calI a b = false) := Lib.hid (by simp [calI, g0])
    go_wp2_with fail
    go_ret
    exact ⟨by rw [G.out]; rfl, HW.out⟩
end Go.Proofs.Ytjefjonogbkknaa
