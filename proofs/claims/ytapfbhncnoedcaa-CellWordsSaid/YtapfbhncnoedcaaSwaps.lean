/- The walk of CellSwaps. -/
import Derived.Test.YtapfbhncnoedcaaKnown
namespace Go.Proofs.Ytapfbhncnoedcaa
open Go.RowKit

/-- A slice of ints that came in, as a walk reads it: element i < len lies at a cell of old memory. -/
def RowAt (w : World) (a : Option Addr) (len : Nat) (f : Nat → Int) : Prop :=
  len = 0 ∨ ∃ b off, a = some ⟨b, off, none⟩ ∧ b < w.heap.size ∧ ∀ i, i < len → w.cell? ⟨b, off + i, none⟩ = some (.int .i64 (f i))

/-- The memory of one cell behind k swaps of which d were done. -/
def Swp (wr : World) (b c : Nat) (k d : Nat) : Prop := ∃ s : MS, IsMem wr b c s ∧ s.ws = [(d : Int)] ∧ s.st = k

theorem swap_hit (s : MS) (d : Int) (h : s.ws = [d]) : s.swap 0 d (d + 1) = (true, 0, s.acc 3 0 (d + 1) true) := by simp [MS.swap, h]
theorem swap_miss (s : MS) (d n : Int) (h : s.ws = [d]) : s.swap 0 (d - 1) n = (false, 0, s.acc 3 0 d false) := by
  have : d ≠ d - 1 := by omega
  simp [MS.swap, h, this]

theorem swp_hit {w : World} {b c k d : Nat} (h : Swp w b c k d) (hk : k ≤ 1000) :
    Calls Try.prog 10 #[.pointer (some ⟨b, 0, none⟩), .int .i64 0, .int .i64 d, .int .i64 (d + 1)] w fun e w' => e = .returned (.tuple #[.bool true, .int .i64 0]) ∧ Swp w' b c (k + 1) (d + 1) ∧ Frm [b, c] w w' := by
  obtain ⟨s, hm, hw, hs⟩ := h
  refine (swap_any b c s 0 d (d + 1) w hm).mono ?_
  rintro e w' ⟨rfl, hm', hf⟩
  rw [swap_hit s d hw] at hm' ⊢
  refine ⟨rfl, ⟨_, hm', by simp [MS.acc, hw], ?_⟩, hf⟩
  show wrap64 (s.st + 1) = _
  rw [hs, IntWalk.wrap64_in _ ⟨by omega, by omega⟩]; omega
theorem swp_miss {w : World} {b c k d : Nat} {n : Int} (h : Swp w b c k d) (hk : k ≤ 1000) :
    Calls Try.prog 10 #[.pointer (some ⟨b, 0, none⟩), .int .i64 0, .int .i64 ((d : Int) - 1), .int .i64 n] w fun e w' => e = .returned (.tuple #[.bool false, .int .i64 0]) ∧ Swp w' b c (k + 1) d ∧ Frm [b, c] w w' := by
  obtain ⟨s, hm, hw, hs⟩ := h
  refine (swap_any b c s 0 (d - 1) n w hm).mono ?_
  rintro e w' ⟨rfl, hm', hf⟩
  rw [swap_miss s d n hw] at hm' ⊢
  refine ⟨rfl, ⟨_, hm', by simp [MS.acc, hw], ?_⟩, hf⟩
  show wrap64 (s.st + 1) = _
  rw [hs, IntWalk.wrap64_in _ ⟨by omega, by omega⟩]; omega
theorem swp_load {w : World} {b c k d : Nat} (h : Swp w b c k d) (hk : k ≤ 1000) :
    Calls Try.prog 11 #[.pointer (some ⟨b, 0, none⟩), .int .i64 0] w fun e w' => e = .returned (.tuple #[.int .i64 d, .int .i64 0]) ∧ Swp w' b c (k + 1) d ∧ Frm [b, c] w w' := by
  obtain ⟨s, hm, hw, hs⟩ := h
  have e : s.load 0 = ((d : Int), 0, s.acc 1 0 d true) := by simp [MS.load, hw]
  refine (load_any b c s 0 w hm).mono ?_
  rintro e' w' ⟨rfl, hm', hf⟩
  rw [e] at hm' ⊢
  refine ⟨rfl, ⟨_, hm', by simp [MS.acc, hw], ?_⟩, hf⟩
  show wrap64 (s.st + 1) = _
  rw [hs, IntWalk.wrap64_in _ ⟨by omega, by omega⟩]; omega
theorem swp_steps {w : World} {b c k d : Nat} (h : Swp w b c k d) :
    Calls Try.prog 12 #[.pointer (some ⟨b, 0, none⟩)] w fun e w' => e = .returned (.int .i64 k) ∧ w = w' := by
  obtain ⟨s, hm, hw, hs⟩ := h
  rw [← hs]
  exact steps_any b c s w hm

set_option maxHeartbeats 2000000 in
theorem swaps_any (n : Int) (a : Option Addr) (len cap : Nat) (f : Nat → Int) (w : World) (h1 : -9223372036854775808 ≤ n) (h2 : n ≤ 9223372036854775807) (hr : RowAt w a len f) (hm : len ≤ 9223372036854775807) :
    Calls Try.prog 3 #[.int .i64 n, .slice a len cap] w fun e w' => e = .returned (.bool true) ∧ Below w.heap.size w w' := by
  go_enter Try.func3, Try.ntmps3
  go_wp2_with fail
  refine (new_int 1 w (by omega) (by omega)).mono ?_
  rintro e w1 ⟨rfl, m1, B1⟩
  have M1 : Hid (Swp w1 (w.heap.size + 1) w.heap.size 0 0) := ⟨_, m1, rfl, rfl⟩
  clear m1
  go_wp2_with fail
  refine (within_any n 0 60 w1 h1 h2 (by omega) (by omega) (by omega)).mono ?_
  rintro e w2 ⟨rfl, rfl⟩
  obtain ⟨N, hN, hle⟩ : ∃ N : Nat, 0 + n % (60 - 0 + 1) = (N : Int) ∧ N ≤ 60 := ⟨(n % 61).toNat, by omega, by omega⟩
  rw [hN]
  clear hN
  go_wp2_with fail
  go_loopw [7, 8] (fun dv iv wr => ∃ k d : Nat, k ≤ N ∧ d ≤ k ∧ dv = .int .i64 d ∧ iv = .int .i64 k ∧ Hid (Swp wr (w.heap.size + 1) w.heap.size k d) ∧ Below w.heap.size w wr) (fun _ iv _ => N - (intOf iv).toNat)
  case atStart => exact ⟨0, 0, by omega, by omega, rfl, rfl, M1, B1⟩
  case round =>
    obtain ⟨k, d, hk, hd, rfl, rfl, hS, hB⟩ := hrel
    clear M1 B1
    have hb := hB.size
    by_cases hlt : k < N
    · by_cases hkl : k < len
      · rcases hr with h0 | ⟨b, off, rfl, hbs, hcell⟩
        · omega
        · have hc : wr.cell? ⟨b, off + k, none⟩ = some (.int .i64 (f k)) := (hB.cell (p := ⟨b, off + k, none⟩) hbs).trans (hcell k hkl)
          obtain ⟨z, hz⟩ : ∃ z, f k = z := ⟨_, rfl⟩
          rw [hz] at hc
          clear hz hcell
          have hkl' : (k : Int) < (len : Int) := by omega
          have hk0 : (0 : Int) ≤ (k : Int) := by omega
          cases hev : (z.tmod 2 == 0)
          · go_wp2_with (go_at_call 10; refine (swp_hit hS (by omega)).mono ?_; rintro e w3 ⟨rfl, s3, f3⟩)
            go_roundw
            case rel => exact ⟨k + 1, d + 1, by omega, by omega, by go_num, by go_num, s3, Below.of_frm hB f3 (by simp)⟩
            case measure => simp [intOf]; omega
          · go_wp2_with (go_at_call 10; refine (swp_miss hS (by omega)).mono ?_; rintro e w3 ⟨rfl, s3, f3⟩)
            go_roundw
            case rel => exact ⟨k + 1, d, by omega, by omega, rfl, by go_num, s3, Below.of_frm hB f3 (by simp)⟩
            case measure => simp [intOf]; omega
      · have hkl' : decide ((k : Int) < (len : Int)) = false := by simp; omega
        go_wp2_with (go_at_call 10; refine (swp_hit hS (by omega)).mono ?_; rintro e w3 ⟨rfl, s3, f3⟩)
        go_roundw
        case rel => exact ⟨k + 1, d + 1, by omega, by omega, by go_num, by go_num, s3, Below.of_frm hB f3 (by simp)⟩
        case measure => simp [intOf]; omega
    · obtain rfl : k = N := by omega
      go_wp2_with (first | (go_at_call 11; refine (swp_load hS (by omega)).mono ?_; rintro e w3 ⟨rfl, s3, f3⟩; have S3 := Lib.hid s3; have B3 := Below.of_frm hB f3 (by simp); clear s3 f3) | (go_at_call 12; refine (swp_steps S3.out).mono ?_; rintro e w4 ⟨rfl, rfl⟩) | (go_at_call 13; refine (known_any _).mono ?_; rintro e w5 ⟨rfl, B5⟩))
      go_ret
      exact ⟨rfl, B3.trans (B5.mono B3.size)⟩
end Go.Proofs.Ytapfbhncnoedcaa
