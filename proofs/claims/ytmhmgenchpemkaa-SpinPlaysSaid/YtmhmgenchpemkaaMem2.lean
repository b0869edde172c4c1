/- Chapter 1's memory of cells: making one; its counts; the reference's memory. -/
import Derived.Test.YtmhmgenchpemkaaMem
namespace Go.Proofs.Ytmhmgenchpemkaa
open Go.RowKit

theorem info2 : (Try.prog.info? 2).map (fun i => (i.zero, i.size, i.bytes)) = some (some (.int .i64 0), 1, 8) := by kernel_rfl

def MS.new (n : Nat) : MS := { ws := List.replicate n 0, st := 0, lk := 0, la := 0, lo := 0, ln := 0, ld := false }

theorem made_ints (n : Nat) : madeCells #[.int .i64 0] n = ints (List.replicate n 0) := by
  apply Array.toList_inj.1
  rw [toList_madeCells_one]
  simp [ints]

theorem new_mem (w : World) (n : Nat) (t : TypeId) (hn : n ≤ 64) :
    IsMem ((w.alloc (.cells (madeCells #[.int .i64 0] n) 2)).alloc (.cells #[.slice (some ⟨w.heap.size, 0, none⟩) n n, .int .i64 0, .int .i64 0, .int .i64 0, .int .i64 0, .int .i64 0, .bool false] t)) (w.heap.size + 1) w.heap.size (MS.new n) := by
  refine ⟨?_, ?_, by omega, by simpa [MS.new] using hn⟩
  · have := Holds.new (w.alloc (.cells (madeCells #[.int .i64 0] n) 2)) #[.slice (some ⟨w.heap.size, 0, none⟩) n n, .int .i64 0, .int .i64 0, .int .i64 0, .int .i64 0, .int .i64 0, .bool false] t
    rw [World.size_alloc] at this
    simpa [MS.cells, MS.new] using this
  · have := (Holds.new w (madeCells #[.int .i64 0] n) 2).alloc (.cells #[.slice (some ⟨w.heap.size, 0, none⟩) n n, .int .i64 0, .int .i64 0, .int .i64 0, .int .i64 0, .int .i64 0, .bool false] t)
    rw [made_ints] at this ⊢
    exact this

theorem new_no (n : Int) (w : World) (h : n < 1 ∨ 64 < n) :
    Calls Try.prog 10 #[.int .i64 n] w fun e w' => e = .returned (.tuple #[.pointer none, .int .i64 1]) ∧ w = w' := by
  rcases h with h | h
  · have hd : decide (n < 1) = true := by simpa using h
    go_enter Try.func10, Try.ntmps10
    go_wp2
    go_ret2
    exact ⟨rfl, rfl⟩
  · have hd : decide (n < 1) = false := by simp; omega
    go_enter Try.func10, Try.ntmps10
    go_wp2
    go_ret2
    exact ⟨rfl, rfl⟩

theorem new_yes (n : Nat) (w : World) (h1 : 1 ≤ n) (h2 : n ≤ 64) :
    Calls Try.prog 10 #[.int .i64 n] w fun e w' => e = .returned (.tuple #[.pointer (some ⟨w.heap.size + 1, 0, none⟩), .int .i64 0]) ∧ IsMem w' (w.heap.size + 1) w.heap.size (MS.new n) ∧ Below w.heap.size w w' := by
  have hd : decide ((n : Int) < 1) = false := by simp; omega
  have hmk := run_make_row' (P := Try.prog) 35 2 (.int .i64 0) 8 Try.underlying35 info2 rfl .i64 .i64 n (by omega) (by omega)
  go_enter Try.func10, Try.ntmps10
  go_wp2
  go_ret2
  exact ⟨rfl, new_mem w n 72 h2, by go_grown⟩

theorem rnew_yes (n : Nat) (w : World) (h1 : 1 ≤ n) (h2 : n ≤ 64) :
    Calls Try.prog 17 #[.int .i64 n] w fun e w' => e = .returned (.pointer (some ⟨w.heap.size + 1, 0, none⟩)) ∧ IsMem w' (w.heap.size + 1) w.heap.size (MS.new n) ∧ Below w.heap.size w w' := by
  have hmk := run_make_row' (P := Try.prog) 35 2 (.int .i64 0) 8 Try.underlying35 info2 rfl .i64 .i64 n (by omega) (by omega)
  go_enter Try.func17, Try.ntmps17
  go_wp2
  go_ret
  exact ⟨rfl, new_mem w n 61 h2, by go_grown⟩

theorem steps_any (b c : Nat) (s : MS) (w : World) (h : IsMem w b c s) :
    Calls Try.prog 23 #[.pointer (some ⟨b, 0, none⟩)] w fun e w' => e = .returned (.int .i64 s.st) ∧ w = w' := by
  have h1 := h.hb.1
  simp only [MS.cells] at h1
  clear h
  go_enter Try.func23, Try.ntmps23
  go_wp2
  go_ret
  exact ⟨rfl, rfl⟩

theorem ret_int {k : IntKind} {a b : Int} (h : a = b) : Ending.returned (.int k a) = .returned (.int k b) := by rw [h]
theorem within_any (n lo hi : Int) (w : World) (h1 : -9223372036854775808 ≤ n) (h2 : n ≤ 9223372036854775807) (h3 : 0 ≤ lo) (h4 : lo ≤ hi) (h5 : hi ≤ 1000000) :
    Calls Try.prog 9 #[.int .i64 n, .int .i64 lo, .int .i64 hi] w fun e w' => e = .returned (.int .i64 (lo + n % (hi - lo + 1))) ∧ w = w' := by
  by_cases hn : 0 ≤ n
  · have hr : 0 ≤ n % (hi - lo + 1) ∧ n % (hi - lo + 1) < hi - lo + 1 := ⟨Int.emod_nonneg _ (by omega), Int.emod_lt_of_pos _ (by omega)⟩
    have hd : decide (n % (hi - lo + 1) < 0) = false := by simp; omega
    go_enter Try.func9, Try.ntmps9
    go_wp2
    go_ret
    exact ⟨rfl, rfl⟩
  · have hm : (hi - lo + 1) ≠ 0 := by omega
    have e1 : n.tmod (hi - lo + 1) = -((-n) % (hi - lo + 1)) := by
      rw [← Int.tmod_eq_emod_of_nonneg (by omega), Int.neg_tmod]; omega
    have hr : 0 ≤ (-n) % (hi - lo + 1) ∧ (-n) % (hi - lo + 1) < hi - lo + 1 := ⟨Int.emod_nonneg _ (by omega), Int.emod_lt_of_pos _ (by omega)⟩
    have e2 : n % (hi - lo + 1) = if (-n) % (hi - lo + 1) = 0 then 0 else (hi - lo + 1) - (-n) % (hi - lo + 1) := by
      have q := Int.emod_add_mul_ediv (-n) (hi - lo + 1)
      split
      · rename_i h
        rw [h, Int.zero_add] at q
        rw [show n = (hi - lo + 1) * (-((-n) / (hi - lo + 1))) from by rw [Int.mul_neg, q]; omega]
        exact Int.mul_emod_right _ _
      · rename_i h
        have e3 : n = ((hi - lo + 1) - (-n) % (hi - lo + 1)) + (hi - lo + 1) * (-((-n) / (hi - lo + 1)) - 1) := by
          rw [Int.mul_sub, Int.mul_neg, Int.mul_one]; omega
        rw [e3, Int.add_mul_emod_self_left, ← e3]
        exact Int.emod_eq_of_lt (by omega) (by omega)
    obtain ⟨x, hx⟩ : ∃ x, (-n) % (hi - lo + 1) = x := ⟨_, rfl⟩
    rw [hx] at e1 e2 hr
    have E1 := Lib.hid e1
    have E2 := Lib.hid e2
    clear e1 e2 hx
    by_cases h0 : x = 0
    · subst h0
      have e1 : n.tmod (hi - lo + 1) = 0 := by rw [E1.out]; rfl
      go_enter Try.func9, Try.ntmps9
      go_wp2
      go_ret
      exact ⟨by rw [E2.out]; simp, rfl⟩
    · have e1 := E1.out
      have hneg : n.tmod (hi - lo + 1) < 0 := by omega
      have hlo : -(hi - lo + 1) < n.tmod (hi - lo + 1) := by omega
      clear e1
      have hd : decide (n.tmod (hi - lo + 1) < 0) = true := by simpa using hneg
      go_enter Try.func9, Try.ntmps9
      go_wp2
      go_ret
      refine ⟨ret_int ?_, rfl⟩
      rw [E2.out, if_neg h0]
      have := E1.out
      omega
end Go.Proofs.Ytmhmgenchpemkaa
