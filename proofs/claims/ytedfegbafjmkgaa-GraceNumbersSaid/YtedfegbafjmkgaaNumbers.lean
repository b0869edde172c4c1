/- The walk of GraceNumbers. -/
import Derived.Test.YtedfegbafjmkgaaBag
namespace Go.Proofs.Ytedfegbafjmkgaa
open Go.RowKit

def qs (a b : Int) (wt : List WE) : GS := ⟨[(a, b), (0, 0), (0, 0)], wt⟩
def q7 (sv : Value) : List WE := [⟨7, sv, [-1, -1, -1]⟩]
def q8 (sv : Value) : List WE := [⟨8, sv, [0, -1, -1]⟩]
theorem kq1 (sv : Value) : ({ GS.new 3 with wt := (GS.new 3).wt ++ [⟨7, sv, sinceOf (GS.new 3).rd⟩] } : GS) = qs 0 0 (q7 sv) := by kernel_rfl
theorem kq2 (wt : List WE) : (qs 0 0 wt).enter 0 (0, 0) = qs 1 0 wt := by kernel_rfl
theorem kq3 (sv : Value) : ({ qs 1 0 (q7 sv) with wt := keptOf (qs 1 0 (q7 sv)) (qs 1 0 (q7 sv)).wt.length } : GS) = qs 1 0 [] ∧ outOf (qs 1 0 (q7 sv)) (qs 1 0 (q7 sv)).wt.length = [7] := ⟨by kernel_rfl, by kernel_rfl⟩
theorem kq4 (wt : List WE) : (qs 1 0 wt).enter 0 (1, 0) = qs 2 0 wt := by kernel_rfl
theorem kq5 (sv : Value) : ({ qs 2 0 [] with wt := (qs 2 0 []).wt ++ [⟨8, sv, sinceOf (qs 2 0 []).rd⟩] } : GS) = qs 2 0 (q8 sv) := by kernel_rfl
theorem kq6 (wt : List WE) : (qs 2 0 wt).leave 0 (2, 0) = qs 1 0 wt := by kernel_rfl
theorem kq7 (sv : Value) : nats (blocksOf (qs 1 0 (q8 sv)) 8) = [0] := by kernel_rfl
theorem kq8 (sv : Value) : ({ qs 1 0 (q8 sv) with wt := keptOf (qs 1 0 (q8 sv)) (qs 1 0 (q8 sv)).wt.length } : GS) = qs 1 0 (q8 sv) ∧ outOf (qs 1 0 (q8 sv)) (qs 1 0 (q8 sv)).wt.length = [] := ⟨by kernel_rfl, by kernel_rfl⟩
theorem kq9 (wt : List WE) : (qs 1 0 wt).leave 0 (1, 0) = qs 0 1 wt := by kernel_rfl
theorem kq10 (wt : List WE) : (qs 0 1 wt).enter 0 (0, 1) = qs 1 1 wt := by kernel_rfl
theorem kq11 (sv : Value) : nats (blocksOf (qs 1 1 (q8 sv)) 8) = [] := by kernel_rfl
theorem kq12 (sv : Value) : ({ qs 1 1 (q8 sv) with wt := keptOf (qs 1 1 (q8 sv)) (qs 1 1 (q8 sv)).wt.length } : GS) = qs 1 1 [] ∧ outOf (qs 1 1 (q8 sv)) (qs 1 1 (q8 sv)).wt.length = [8] := ⟨by kernel_rfl, by kernel_rfl⟩
theorem kq13 : (((inside (GS.new 3).rd (GS.new 3).rd.length).length : Int) == 0) = true := by decide +kernel
theorem kq14 (wt : List WE) : nats (inside (qs 1 1 wt).rd (qs 1 1 wt).rd.length) = [0] := by kernel_rfl

set_option maxRecDepth 100000 in
set_option maxHeartbeats 8000000 in
theorem numbers_any (w : World) : Calls Try.prog 6 #[] w fun e w' => e = .returned (.bool true) ∧ Below w.heap.size w w' := by
  have E0 := Lib.hid (grl_begin 3 w w (by omega) (by omega) (Below.refl _ _))
  go_enter Try.func6, Try.ntmps6
  go_upto_region 2 with (first | (go_at_call 8; refine (new_no 0 _ (by omega)).mono ?_; rintro e w1 ⟨rfl, rfl⟩))
  go_upto_region 3 with (first | (go_at_call 8; refine (new_no 9 _ (by omega)).mono ?_; rintro e w1 ⟨rfl, rfl⟩))
  go_upto_region 4 with (first | (go_at_call 8; refine E0.out.mono ?_; rintro e w1 ⟨g, rb, rfl, g1⟩; have Y1 := Lib.hid g1; clear g1))
  clear E0
  go_upto_region 7 with (first | (go_at_call 12; refine (Y1.out.push (id := 7) (by decide)).mono ?_; rintro e w2 ⟨sv, v2, rfl, y2⟩; rw [kq1] at y2; have Y2 := Lib.hid y2; rw [kq13]; clear y2))
  clear Y1
  go_upto_region 8 with (first | (go_at_call 10; refine (Y2.out.enter (i := 0) (x := (0, 0)) rfl).mono ?_; rintro e w3 ⟨rfl, y3⟩; rw [kq2] at y3; have Y3 := Lib.hid y3; clear y3))
  clear Y2
  go_upto_region 9 with (first | (go_at_call 13; refine Y3.out.poll.mono ?_; rintro e w4 ⟨v4, oc, rfl, y4⟩; rw [(kq3 sv).1, (kq3 sv).2] at y4; have Y4 := Lib.hid y4; clear y4))
  clear Y3
  go_upto_region 10 with (first | (go_at_call 11; refine (leave_past Y4.out.b.gr (i := 1) (x := (0, 0)) rfl rfl).mono ?_; rintro e w5 ⟨rfl, rfl⟩))
  go_upto_region 11 with (first | (go_at_call 10; refine (enter_no Y4.out.b.gr (i := 3) (by decide)).mono ?_; rintro e w5 ⟨rfl, rfl⟩))
  go_upto_region 12 with (first | (go_at_call 10; refine (Y4.out.enter (i := 0) (x := (1, 0)) rfl).mono ?_; rintro e w5 ⟨rfl, y5⟩; rw [kq4] at y5; have Y5 := Lib.hid y5; clear y5))
  clear Y4
  go_upto_region 13 with (first | (go_at_call 12; refine (Y5.out.push (id := 8) (by decide)).mono ?_; rintro e w6 ⟨sv6, v6, rfl, y6⟩; rw [kq5] at y6; have Y6 := Lib.hid y6; clear y6))
  clear Y5
  go_upto_region 14 with (first | (go_at_call 11; refine (Y6.out.leave (i := 0) (x := (2, 0)) rfl (by decide)).mono ?_; rintro e w7 ⟨rfl, y7⟩; rw [kq6] at y7; have Y7 := Lib.hid y7; clear y7))
  clear Y6
  go_upto_region 15 with (first | (go_at_call 18; refine (Y7.out.blocks 8).mono ?_; rintro e w8 ⟨oh, rfl, y8⟩; rw [kq7] at y8; have Y8 := Lib.hid y8; clear y8))
  clear Y7
  go_upto_region 16 with (first | (go_at_call 13; refine Y8.out.poll.mono ?_; rintro e w9 ⟨v9, oi, rfl, y9⟩; rw [(kq8 sv6).1, (kq8 sv6).2] at y9; obtain ⟨pi, ci, rfl⟩ : ∃ p c, oi = .slice p 0 c := (y9.l _ (List.mem_cons_self ..)).value; have Y9 := Lib.hid y9; clear y9))
  clear Y8
  go_upto_region 17 with (first | (go_at_call 11; refine (Y9.out.leave (i := 0) (x := (1, 0)) rfl (by decide)).mono ?_; rintro e w10 ⟨rfl, y10⟩; rw [kq9] at y10; have Y10 := Lib.hid y10; clear y10))
  clear Y9
  go_upto_region 18 with (first | (go_at_call 10; refine (Y10.out.enter (i := 0) (x := (0, 1)) rfl).mono ?_; rintro e w11 ⟨rfl, y11⟩; rw [kq10] at y11; have Y11 := Lib.hid y11; clear y11))
  clear Y10
  go_upto_region 19 with (first | (go_at_call 18; refine (Y11.out.blocks 8).mono ?_; rintro e w12 ⟨oj, rfl, y12⟩; rw [kq11] at y12; obtain ⟨pj, cj, rfl⟩ : ∃ p c, oj = .slice p 0 c := (y12.l _ (List.mem_cons_self ..)).value; have Y12 := Lib.hid y12; clear y12))
  clear Y11
  go_upto_region 20 with (first | (go_at_call 13; refine Y12.out.poll.mono ?_; rintro e w13 ⟨v13, ok, rfl, y13⟩; rw [(kq12 sv6).1, (kq12 sv6).2] at y13; have Y13 := Lib.hid y13; clear y13))
  clear Y12
  obtain ⟨L, hL⟩ : ∃ L, (ok, (2 : TypeId), [(8 : Int)]) :: (Value.slice pj 0 cj, 3, []) :: (Value.slice pi 0 ci, 2, []) :: (oh, 3, [0]) :: [(oc, 2, [7])] = L := ⟨_, rfl⟩
  have HL1 : Hid ((ok, (2 : TypeId), [(8 : Int)]) ∈ L) := Lib.hid (by rw [← hL]; simp)
  have HL2 : Hid ((oh, (3 : TypeId), [(0 : Int)]) ∈ L) := Lib.hid (by rw [← hL]; simp)
  have HL3 : Hid ((oc, (2 : TypeId), [(7 : Int)]) ∈ L) := Lib.hid (by rw [← hL]; simp)
  rw [hL] at Y13
  clear hL
  go_wp2_with fail
  go_loopw [16] (fun iv wr => ∃ (i : Nat) (v : Value) (wt : List WE), i ≤ 16 ∧ iv = .int .i64 i ∧ Hid (wt.length = i) ∧ Hid (GrL w wr (w.heap.size + 2) g rb v (qs 1 1 wt) L)) (fun iv _ => 16 - (intOf iv).toNat)
  case atStart => exact ⟨0, v13, [], by omega, rfl, Lib.hid rfl, Y13⟩
  case round =>
    clear Y13
    obtain ⟨i, v1, wt, hi, rfl, HW, Y1⟩ := hrel
    by_cases hlt : i < 16
    · have hlt' : (i : Int) < 16 := by omega
      go_wp2_with (first | (go_at_call 12; refine (Y1.out.push (id := (i : Int)) (by have := HW.out; simp only [qs]; omega)).mono ?_; rintro e w3 ⟨sv, v3, rfl, y3⟩; have Y3 : Hid (GrL w w3 (w.heap.size + 2) g rb v3 (qs 1 1 (wt ++ [⟨(i : Int), sv, sinceOf [(1, 1), (0, 0), (0, 0)]⟩])) L) := Lib.hid y3; clear y3))
      go_roundw
      case rel => exact ⟨i + 1, v3, _, by omega, by go_num, Lib.hid (by have := HW.out; simp; omega), Y3⟩
      case measure => simp [intOf]; omega
    · obtain rfl : i = 16 := by omega
      obtain ⟨ps, cs, hoc⟩ : ∃ p c, oc = .slice p 1 c := (Y1.out.l _ HL3.out).value
      obtain ⟨pk, ck, hok⟩ : ∃ p c, ok = .slice p 1 c := (Y1.out.l _ HL1.out).value
      obtain ⟨ph, ch, hoh⟩ : ∃ p c, oh = .slice p 1 c := (Y1.out.l _ HL2.out).value
      subst hoc hok hoh
      go_upto_region 25 with (first | (go_at_call 12; refine (defer_full Y1.out.b.gr (id := 99) (by have := HW.out; simp only [qs]; omega)).mono ?_; rintro e w2 ⟨rfl, rfl⟩))
      go_wp2_with (first | (go_at_call 16; with_reducible refine (Y1.out.same16 (cs := #[.int .i64 7]) (n := 1) HL3.out (by simp) rfl rfl).mono ?_; rintro e w3 ⟨rfl, y3⟩; have Y3 := Lib.hid y3; clear y3) | (go_at_call 17; with_reducible refine (Y3.out.same17 (cs := #[.int .i64 0]) (n := 1) HL2.out (by simp) rfl rfl).mono ?_; rintro e w4 ⟨rfl, y4⟩; have Y4 := Lib.hid y4; clear y4) | (go_at_call 16; with_reducible refine (Y4.out.same16 (cs := #[.int .i64 8]) (n := 1) HL1.out (by simp) rfl rfl).mono ?_; rintro e w5 ⟨rfl, y5⟩; have Y5 := Lib.hid y5; clear y5) | (go_at_call 14; refine Y5.out.waits.mono ?_; rintro e w6 ⟨ow, rfl, y6⟩; obtain ⟨pw, cw, rfl⟩ : ∃ p c, ow = .slice p 16 c := (by have q := (y6.l _ (List.mem_cons_self ..)).value; rw [List.length_map, show (qs 1 1 wt).wt.length = 16 from HW.out] at q; exact q); have Y6 := Lib.hid y6; clear y6) | (go_at_call 19; refine Y6.out.insides.mono ?_; rintro e w7 ⟨on, rfl, y7⟩; rw [kq14] at y7; obtain ⟨pn, cn, rfl⟩ : ∃ p c, on = .slice p 1 c := (y7.l _ (List.mem_cons_self ..)).value; have Y7 := Lib.hid y7; clear y7) | (go_at_call 17; with_reducible refine (Y7.out.same17 (cs := #[.int .i64 0]) (n := 1) (List.mem_cons_self ..) (by simp) rfl rfl).mono ?_; rintro e w8 ⟨rfl, y8⟩; have Y8 := Lib.hid y8; clear y8) | (go_at_call 15; refine Y8.out.known.mono ?_; rintro e w9 ⟨rfl, y9⟩; have Y9 := Lib.hid y9; clear y9))
      go_ret
      exact ⟨rfl, Y9.out.b.bel⟩
end Go.Proofs.Ytedfegbafjmkgaa
