/- The walk of GraceNest. -/
import Derived.Test.YtedfegbafjmkgaaBlocks
import Derived.Test.YtedfegbafjmkgaaFull
namespace Go.Proofs.Ytedfegbafjmkgaa
open Go.RowKit

theorem within_one {n : Int} {m : Nat} : ∃ N : Nat, 0 + n % ((m : Int) - 0 + 1) = (N : Int) ∧ N ≤ m := by
  obtain ⟨N, h1, h2⟩ := within_nat (lo := 0) (hi := (m : Int)) (n := n) (by omega) rfl
  exact ⟨N, h1, by omega⟩
def ns (d l : Int) (wt : List WE) : GS := ⟨[(0, 0), (d, l)], wt⟩
def w5 (sv : Value) : List WE := [⟨5, sv, [-1, 0]⟩]
theorem ns_enter (d : Nat) (wt : List WE) (hd : d ≤ 100) : (ns (d : Int) 0 wt).enter 1 ((d : Int), 0) = ns ((d + 1 : Nat) : Int) 0 wt := by
  have : wrap64 ((d : Int) + 1) = ((d + 1 : Nat) : Int) := by unfold wrap64; omega
  simp only [ns, GS.enter, List.set_cons_succ, List.set_cons_zero, this]
theorem ns_leave (d : Nat) (wt : List WE) (hd : d ≤ 100) : (ns ((d + 1 : Nat) : Int) 0 wt).leave 1 (((d + 1 : Nat) : Int), 0) = ns (d : Int) (if d = 0 then 1 else 0) wt := by
  have : wrap64 (((d + 1 : Nat) : Int) - 1) = (d : Int) := by unfold wrap64; omega
  simp only [ns, GS.leave, List.set_cons_succ, List.set_cons_zero, this]
  by_cases h : d = 0
  · subst h; simp; unfold wrap64; omega
  · rw [if_neg (show ¬ (d : Int) = 0 by omega), if_neg h]
theorem ns_defer (d : Nat) (sv : Value) (hd : 0 < d) : ({ ns (d : Int) 0 [] with wt := (ns (d : Int) 0 []).wt ++ [⟨5, sv, sinceOf (ns (d : Int) 0 []).rd⟩] } : GS) = ns (d : Int) 0 (w5 sv) := by
  simp [ns, w5, sinceOf, hd]
theorem ns_free0 (d : Int) (sv : Value) : free (ns d 0 (w5 sv)).rd ⟨5, sv, [-1, 0]⟩ = false := by simp [free, ns, blkd, List.range_succ]
theorem ns_free1 (d : Int) (sv : Value) : free (ns d 1 (w5 sv)).rd ⟨5, sv, [-1, 0]⟩ = true := by simp [free, ns, blkd, List.range_succ]
theorem ns_poll0 (d : Int) (sv : Value) : ({ ns d 0 (w5 sv) with wt := keptOf (ns d 0 (w5 sv)) (ns d 0 (w5 sv)).wt.length } : GS) = ns d 0 (w5 sv) ∧ outOf (ns d 0 (w5 sv)) (ns d 0 (w5 sv)).wt.length = [] := by
  have h := ns_free0 d sv
  unfold keptOf outOf
  rw [List.take_length, show (ns d 0 (w5 sv)).wt = [⟨5, sv, [-1, 0]⟩] from rfl]
  simp only [List.filter_cons, h, List.filter_nil, Bool.not_false, if_true, Bool.false_eq_true, if_false, List.map_nil]
  exact ⟨rfl, trivial⟩
theorem ns_poll1 (d : Int) (sv : Value) : ({ ns d 1 (w5 sv) with wt := keptOf (ns d 1 (w5 sv)) (ns d 1 (w5 sv)).wt.length } : GS) = ns d 1 [] ∧ outOf (ns d 1 (w5 sv)) (ns d 1 (w5 sv)).wt.length = [5] := by
  have h := ns_free1 d sv
  unfold keptOf outOf
  rw [List.take_length, show (ns d 1 (w5 sv)).wt = [⟨5, sv, [-1, 0]⟩] from rfl]
  simp only [List.filter_cons, h, List.filter_nil, Bool.not_true, if_true, Bool.false_eq_true, if_false, List.map_nil, List.map_cons]
  exact ⟨rfl, trivial⟩
theorem ns_blocks (d : Int) (sv : Value) : blocksOf (ns d 0 (w5 sv)) 5 = [1] := by
  simp [blocksOf, ns, w5, blkd, List.range_succ]
theorem ns_in : inside (ns 0 1 []).rd (ns 0 1 []).rd.length = [] := by decide +kernel

set_option maxRecDepth 100000 in
set_option maxHeartbeats 8000000 in
theorem nest_any (dp bf : Int) (w : World) (h1 : -9223372036854775808 ≤ dp) (h2 : dp ≤ 9223372036854775807) (h3 : -9223372036854775808 ≤ bf) (h4 : bf ≤ 9223372036854775807) :
    Calls Try.prog 5 #[.int .i64 dp, .int .i64 bf] w fun e w' => e = .returned (.bool true) ∧ Below w.heap.size w w' := by
  obtain ⟨M, hM, hM0⟩ := within_one (n := dp) (m := 12)
  obtain ⟨K, hK, hK0⟩ := within_one (n := bf) (m := M)
  have E1 : Hid (∀ w, Calls Try.prog 9 #[.int .i64 dp, .int .i64 0, .int .i64 12] w fun e w' => e = .returned (.int .i64 (M : Int)) ∧ w = w') := Lib.hid (fun w => by
    have := within_any dp 0 12 w h1 h2 (by omega) (by omega) (by omega)
    rwa [show (12 : Int) = ((12 : Nat) : Int) from rfl, hM] at this)
  have E2 : Hid (∀ w, Calls Try.prog 9 #[.int .i64 bf, .int .i64 0, .int .i64 (M : Int)] w fun e w' => e = .returned (.int .i64 (K : Int)) ∧ w = w') := Lib.hid (fun w => by
    have := within_any bf 0 M w h3 h4 (by omega) (by omega) (by omega)
    rwa [hK] at this)
  clear hM hK h1 h2 h3 h4
  have E0 := Lib.hid (gr_begin 2 w w (by omega) (by omega) (Below.refl _ _))
  go_enter Try.func5, Try.ntmps5
  go_upto_region 4 with (first | (go_at_call 8; refine E0.out.mono ?_; rintro e w1 ⟨g, rb, rfl, g1⟩; rw [show GS.new 2 = ns ((0 : Nat) : Int) 0 [] from by kernel_rfl] at g1; have G1 := Lib.hid g1; clear g1))
  clear E0
  have s1 : 1 + (M : Int) - 1 = (M : Int) := by omega
  go_upto_region 5 with (first | (go_at_call 9; refine (E1.out _).mono ?_; rintro e w1 ⟨rfl, rfl⟩))
  clear E1
  go_upto_region 6 with (first | (go_at_call 9; refine (E2.out _).mono ?_; rintro e w1 ⟨rfl, rfl⟩))
  clear E2
  go_wp2_with fail
  go_loopw [7] (fun iv wr => ∃ i : Nat, i ≤ K + 1 ∧ iv = .int .i64 i ∧ Hid (GrB w wr (w.heap.size + 2) g rb (.slice none 0 0) (ns (i : Int) 0 []))) (fun iv _ => K + 1 - (intOf iv).toNat)
  case atStart => exact ⟨0, by omega, rfl, G1⟩
  case round =>
    clear G1
    obtain ⟨i, hi, rfl, Y1⟩ := hrel
    by_cases hlt : i < K + 1
    · have hlt' : (i : Int) < 1 + (K : Int) := by omega
      go_wp2_with (first | (go_at_call 10; refine (Y1.out.enter (i := 1) (x := ((i : Int), 0)) rfl).mono ?_; rintro e w3 ⟨rfl, y3, _⟩; rw [ns_enter i [] (by omega)] at y3; have Y3 := Lib.hid y3; clear y3))
      go_roundw
      case rel => exact ⟨i + 1, by omega, by go_num, Y3⟩
      case measure => simp [intOf]; omega
    · obtain rfl : i = K + 1 := by omega
      have hlt' : ¬ ((K + 1 : Nat) : Int) < 1 + (K : Int) := by omega
      go_upto_region 11 with (first | (go_at_call 12; refine (Y1.out.push (id := 5) (by simp [ns])).mono ?_; rintro e w4 ⟨sv, v4, rfl, y4, _⟩; rw [ns_defer (K + 1) sv (by omega)] at y4; have Y4 := Lib.hid y4; clear y4))
      clear Y1
      go_wp2_with fail
      go_loopw [8] (fun iv wr => ∃ i : Nat, K + 1 ≤ i ∧ i ≤ M + 1 ∧ iv = .int .i64 i ∧ Hid (GrB w wr (w.heap.size + 2) g rb v4 (ns (i : Int) 0 (w5 sv)))) (fun iv _ => M + 1 - (intOf iv).toNat)
      case atStart => exact ⟨K + 1, by omega, by omega, by go_num, Y4⟩
      case round =>
        clear Y4
        obtain ⟨i, hi0, hi, rfl, Y4⟩ := hrel
        by_cases hlt : i < M + 1
        · have hlt' : (i : Int) < 1 + (M : Int) := by omega
          go_wp2_with (first | (go_at_call 10; refine (Y4.out.enter (i := 1) (x := ((i : Int), 0)) rfl).mono ?_; rintro e w5 ⟨rfl, y5, _⟩; rw [ns_enter i _ (by omega)] at y5; have Y5 := Lib.hid y5; clear y5))
          go_roundw
          case rel => exact ⟨i + 1, by omega, by omega, by go_num, Y5⟩
          case measure => simp [intOf]; omega
        · obtain rfl : i = M + 1 := by omega
          have hlt' : ¬ ((M + 1 : Nat) : Int) < 1 + (M : Int) := by omega
          go_upto_region 15 with fail
          go_wp2_with fail
          go_loopw [9] (fun iv wr => ∃ (i : Nat) (v5 : Value), i ≤ M + 1 ∧ iv = .int .i64 i ∧ Hid (GrB w wr (w.heap.size + 2) g rb v5 (ns ((M + 1 - i : Nat) : Int) (if M + 1 - i = 0 then 1 else 0) (w5 sv)))) (fun iv _ => M + 1 - (intOf iv).toNat)
          case atStart => exact ⟨0, v4, by omega, rfl, by simpa using Y4⟩
          case round =>
            clear Y4
            obtain ⟨i, v5, hi, rfl, Y4⟩ := hrel
            by_cases hlt : i < M + 1
            · have hlt' : (i : Int) < 1 + (M : Int) := by omega
              obtain ⟨q, hq⟩ : ∃ q, M + 1 - i = q + 1 := ⟨M - i, by omega⟩
              have hq2 : M + 1 - (i + 1) = q := by omega
              rw [hq, if_neg (by omega)] at Y4
              have HQ := Lib.hid hq2
              have hq8 : q ≤ 20 := by omega
              clear hq hq2
              have ap : (((q + 1 : Nat) : Int)) ≠ 0 := by omega
              go_wp2_with (first | (go_at_call 13; refine Y4.out.poll.mono ?_; rintro e w6 ⟨v6, oa, rfl, g6, n6, _⟩; rw [(ns_poll0 _ sv).1] at g6; rw [(ns_poll0 _ sv).2] at n6; have Y6 := Lib.hid g6; obtain ⟨pa, ca, rfl⟩ : ∃ pa ca, oa = .slice pa 0 ca := n6.value; clear g6 n6) | (go_at_call 18; refine (blocks_any Y6.out.gr 5).mono ?_; rintro e w7 ⟨ob, rfl, n7, b7⟩; rw [ns_blocks] at n7; have N7 : Hid (Nums w7 ob [1]) := Lib.hid (Win.nums (l := [1]) n7 rfl); have Y7 := Lib.hid ((Y6.out.on b7).on ((Below.refl _ _).alloc (Nat.le_refl _) (.cells #[.int .i64 1] 3))); have N8 := Lib.hid (N7.out.alloc (.cells #[.int .i64 1] 3)); have NN := Lib.hid (nums_new w7 [1] 3 1); obtain ⟨pb, cb, rfl⟩ : ∃ pb cb, ob = .slice pb 1 cb := n7.value; clear n7 b7 N7) | (go_at_call 17; refine (same17 _ _ [1] _ (by simp) N8.out NN.out).mono ?_; rintro e w8 ⟨rfl, b8⟩; have Y8 := Lib.hid (Y7.out.on b8); clear b8) | (go_at_call 11; refine (Y8.out.leave (i := 1) (x := (((q + 1 : Nat) : Int), 0)) rfl ap).mono ?_; rintro e w9 ⟨rfl, y9, _⟩; rw [ns_leave q _ (by omega)] at y9; have Y9 := Lib.hid y9; clear y9))
              go_roundw
              case rel => exact ⟨i + 1, v6, by omega, by go_num, by rw [HQ.out]; exact Y9⟩
              case measure => simp [intOf]; omega
            · obtain rfl : i = M + 1 := by omega
              have hlt' : ¬ ((M + 1 : Nat) : Int) < 1 + (M : Int) := by omega
              rw [Nat.sub_self, if_pos rfl] at Y4
              go_wp2_with (first | (go_at_call 13; refine Y4.out.poll.mono ?_; rintro e w6 ⟨v6, oa, rfl, g6, n6, _⟩; rw [(ns_poll1 _ sv).1] at g6; rw [(ns_poll1 _ sv).2] at n6; have N6 : Hid (Nums w6 oa [5]) := Lib.hid (Win.nums (l := [5]) n6 rfl); have Y6 := Lib.hid (GrB.on g6 ((Below.refl _ _).alloc (Nat.le_refl _) (.cells #[.int .i64 5] 2))); have N7 := Lib.hid (N6.out.alloc (.cells #[.int .i64 5] 2)); have NN := Lib.hid (nums_new w6 [5] 2 1); obtain ⟨pa, ca, rfl⟩ : ∃ pa ca, oa = .slice pa 1 ca := n6.value; clear g6 n6 N6) | (go_at_call 16; refine (same16 _ _ [5] _ (by simp) N7.out NN.out).mono ?_; rintro e w8 ⟨rfl, b8⟩; have Y8 := Lib.hid (Y6.out.on b8); clear b8) | (go_at_call 11; refine (leave_past Y8.out.gr (i := 1) (x := (0, 1)) rfl rfl).mono ?_; rintro e w9 ⟨rfl, rfl⟩) | (go_at_call 19; refine (inside_any Y8.out.gr).mono ?_; rintro e w10 ⟨oc, rfl, n10, b10⟩; rw [show inside (ns ((0 : Nat) : Int) 1 []).rd (ns ((0 : Nat) : Int) 1 []).rd.length = [] from ns_in] at n10; have Y10 := Lib.hid (Y8.out.on b10); obtain ⟨pc, cc, rfl⟩ : ∃ pc cc, oc = .slice pc 0 cc := n10.value; clear n10 b10) | (go_at_call 15; refine (known_any _).mono ?_; rintro e w11 ⟨rfl, b11⟩; have Y11 := Lib.hid (Y10.out.on b11); clear b11))
              go_ret
              exact ⟨rfl, Y11.out.bel⟩
end Go.Proofs.Ytedfegbafjmkgaa
