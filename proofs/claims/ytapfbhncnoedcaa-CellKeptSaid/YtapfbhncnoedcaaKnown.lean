/- Chapter 1's runs that every statement asks again. -/
import Derived.Test.YtapfbhncnoedcaaMem2
namespace Go.Proofs.Ytapfbhncnoedcaa
open Go.RowKit

theorem new_int (n : Int) (w : World) (h1 : 1 ≤ n) (h2 : n ≤ 64) :
    Calls Try.prog 8 #[.int .i64 n] w fun e w' => e = .returned (.tuple #[.pointer (some ⟨w.heap.size + 1, 0, none⟩), .int .i64 0]) ∧ IsMem w' (w.heap.size + 1) w.heap.size (MS.new n.toNat) ∧ Below w.heap.size w w' := by
  obtain ⟨k, rfl⟩ := Int.eq_ofNat_of_zero_le (show 0 ≤ n by omega)
  rw [Int.toNat_natCast]
  exact new_yes k w (by omega) (by omega)

theorem known_vals : ((MS.new 2).swap 0 0 7).1 = true ∧ (((MS.new 2).swap 0 0 7).2.2.swap 0 0 8).1 = false ∧ ((((MS.new 2).swap 0 0 7).2.2.swap 0 0 8).2.2.load 99).2.1 = 1 ∧ ((((MS.new 2).swap 0 0 7).2.2.swap 0 0 8).2.2.load 99).2.2.st = 2 := by decide +kernel

theorem Below.of_frm {w a b : World} {l : List Nat} (h : Below w.heap.size w a) (hf : Frm l a b) (hl : ∀ k ∈ l, w.heap.size ≤ k) : Below w.heap.size w b :=
  h.trans (hf.below h.size hl)

theorem known_any (w : World) : Calls Try.prog 13 #[] w fun e w' => e = .returned (.bool true) ∧ Below w.heap.size w w' := by
  obtain ⟨v1, v2, v3, v4⟩ := known_vals
  go_enter Try.func13, Try.ntmps13
  go_wp2_with fail
  refine (new_int 2 w (by omega) (by omega)).mono ?_
  rintro e w1 ⟨rfl, m1, B1⟩
  have M1 := Lib.hid m1
  clear m1
  rw [show (2 : Int).toNat = 2 from rfl] at M1
  go_wp2_with fail
  refine (swap_any _ _ _ _ _ _ _ M1.out).mono ?_
  rintro e w2 ⟨rfl, m2, f2⟩
  have M2 := Lib.hid m2
  have B2 := Below.of_frm B1 f2 (by simp)
  rw [v1]
  clear m2 f2 M1 v1 B1
  go_wp2_with fail
  refine (swap_any _ _ _ _ _ _ _ M2.out).mono ?_
  rintro e w3 ⟨rfl, m3, f3⟩
  have M3 := Lib.hid m3
  have B3 := Below.of_frm B2 f3 (by simp)
  rw [v2]
  clear m3 f3 M2 v2 B2
  go_wp2_with fail
  refine (load_any _ _ _ _ _ M3.out).mono ?_
  rintro e w4 ⟨rfl, m4, f4⟩
  have M4 := Lib.hid m4
  have B4 := Below.of_frm B3 f4 (by simp)
  rw [v3]
  clear m4 f4 M3 v3 B3
  go_wp2_with fail
  refine (steps_any _ _ _ _ M4.out).mono ?_
  rintro e w5 ⟨rfl, rfl⟩
  rw [v4]
  go_wp2_with fail
  go_ret
  exact ⟨rfl, B4⟩
end Go.Proofs.Ytapfbhncnoedcaa
