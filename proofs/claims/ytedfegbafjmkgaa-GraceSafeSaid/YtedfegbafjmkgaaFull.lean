/- The walk of GraceFull. -/
import Derived.Test.YtedfegbafjmkgaaKnown
namespace Go.Proofs.Ytedfegbafjmkgaa
open Go.RowKit

theorem within_nat {lo hi n : Int} (h : 0 ≤ hi) (h0 : lo = 0) : ∃ N : Nat, lo + n % (hi - lo + 1) = (N : Int) ∧ (N : Int) ≤ hi := by
  subst h0
  have h1 := Int.emod_nonneg n (show hi - 0 + 1 ≠ 0 by omega)
  have h2 := Int.emod_lt_of_pos n (show 0 < hi - 0 + 1 by omega)
  generalize n % (hi - 0 + 1) = r at h1 h2
  exact ⟨r.toNat, by omega, by omega⟩
theorem within_one {n : Int} {m : Nat} : ∃ N : Nat, 0 + n % ((m : Int) - 0 + 1) = (N : Int) ∧ N ≤ m := by
  obtain ⟨N, h1, h2⟩ := within_nat (lo := 0) (hi := (m : Int)) (n := n) (by omega) rfl
  exact ⟨N, h1, by omega⟩
def cnt (m : Nat) : List Int := (List.range m).map fun (j : Nat) => (j : Int)
theorem cnt_length (m : Nat) : (cnt m).length = m := by simp [cnt]
theorem cnt_at {m j : Nat} (h : j < m) : (cnt m).getD j 0 = (j : Int) := by simp [cnt, List.getD_eq_getElem?_getD, h]
/-- One reader; the ids 0 .. wait since it was so. -/
structure FS (d : Int × Int) (sc : Int) (m : Nat) (s : GS) : Prop where
  rd : s.rd = [d]
  len : s.wt.length = m
  id : s.wt.map WE.id = cnt m
  li : ∀ x ∈ s.wt, x.l = [sc]
theorem FS.push {d : Int × Int} {sc : Int} {m : Nat} {s : GS} {sv : Value} (h : FS d sc m s) (hs : sinceOf [d] = [sc]) : FS d sc (m + 1) { s with wt := s.wt ++ [⟨(m : Int), sv, sinceOf s.rd⟩] } :=
  ⟨h.rd, by simp [h.len], by simp [h.id, cnt, List.range_succ], fun x hx => by
    rcases List.mem_append.1 hx with hx | hx
    · exact h.li x hx
    · rw [List.mem_singleton.1 hx]; simp only [h.rd, hs]⟩
theorem free_one (d : Int × Int) (sc : Int) (x : WE) (hx : x.l = [sc]) : free [d] x = !(sc == d.2) := by
  unfold free blkd
  rw [hx]
  by_cases h : sc = d.2
  · simp [h, List.range_succ]
  · simp [h, List.range_succ]
theorem FS.stay {d : Int × Int} {sc : Int} {m : Nat} {s : GS} (h : FS d sc m s) (he : sc = d.2) : ({ s with wt := keptOf s s.wt.length } : GS) = s ∧ outOf s s.wt.length = [] := by
  have hf : ∀ x ∈ s.wt, free s.rd x = false := fun x hx => by rw [h.rd, free_one d sc x (h.li x hx), he]; simp
  have h1 : keptOf s s.wt.length = s.wt := by
    unfold keptOf
    rw [List.take_length]
    exact List.filter_eq_self.2 (fun x hx => by rw [hf x hx]; rfl)
  refine ⟨by rw [h1], ?_⟩
  unfold outOf
  rw [List.take_length, List.filter_eq_nil_iff.2 (fun x hx => by rw [hf x hx]; simp)]
  rfl
theorem FS.all {d : Int × Int} {sc : Int} {m : Nat} {s : GS} (h : FS d sc m s) (he : sc ≠ d.2) : keptOf s s.wt.length = [] ∧ outOf s s.wt.length = cnt m := by
  have hf : ∀ x ∈ s.wt, free s.rd x = true := fun x hx => by rw [h.rd, free_one d sc x (h.li x hx)]; simpa using he
  constructor
  · unfold keptOf
    rw [List.take_length, List.filter_eq_nil_iff.2 (fun x hx => by rw [hf x hx]; simp)]
  · unfold outOf
    rw [List.take_length, List.filter_eq_self.2 (fun x hx => hf x hx), h.id]
theorem FS.left {sc : Int} {m : Nat} {s : GS} (h : FS (1, 0) sc m s) : FS (0, 1) sc m (s.leave 0 (1, 0)) :=
  ⟨by rw [GS.leave, h.rd]; kernel_rfl, h.len, h.id, h.li⟩
theorem full_start : FS (0, 0) (-1) 0 (GS.new 1) ∧ FS (1, 0) 0 0 ((GS.new 1).enter 0 (0, 0)) :=
  ⟨⟨rfl, rfl, rfl, by simp [GS.new]⟩, ⟨by kernel_rfl, rfl, rfl, by simp [GS.new, GS.enter]⟩⟩
theorem gs_nil {s : GS} {d : Int × Int} (h : s.rd = [d]) : (⟨s.rd, []⟩ : GS) = ⟨[d], []⟩ := by rw [h]
theorem since_one : sinceOf [((1, 0) : Int × Int)] = [0] ∧ sinceOf [((0, 0) : Int × Int)] = [-1] := by decide +kernel
theorem in_one : ((((inside [((1, 0) : Int × Int)] 1).length : Nat) : Int) == 0) = false ∧ ((((inside [((0, 0) : Int × Int)] 1).length : Nat) : Int) == 0) = true ∧ ((((inside [((0, 1) : Int × Int)] 1).length : Nat) : Int) == 0) = true := by decide +kernel
set_option maxRecDepth 100000 in
set_option maxHeartbeats 8000000 in
theorem full_in (n : Int) (w : World) (h1 : -9223372036854775808 ≤ n) (h2 : n ≤ 9223372036854775807) :
    Calls Try.prog 4 #[.int .i64 n, .bool true] w fun e w' => e = .returned (.bool true) ∧ Below w.heap.size w w' := by
  obtain ⟨N, hN, hN0⟩ := within_nat (lo := 0) (hi := 24) (n := n) (by decide) rfl
  have E1 : Hid (∀ w, Calls Try.prog 9 #[.int .i64 n, .int .i64 0, .int .i64 24] w fun e w' => e = .returned (.int .i64 (N : Int)) ∧ w = w') := Lib.hid (fun w => by
    have := within_any n 0 24 w h1 h2 (by omega) (by omega) (by omega)
    rwa [hN] at this)
  clear hN h1 h2
  have E0 := Lib.hid (gr_begin 1 w w (by omega) (by omega) (Below.refl _ _))
  go_enter Try.func4, Try.ntmps4
  go_upto_region 4 with (first | (go_at_call 8; refine E0.out.mono ?_; rintro e w1 ⟨g, rb, rfl, g1⟩; have G1 := Lib.hid g1; clear g1))
  clear E0
  go_upto_region 5 with (first | (go_at_call 9; refine (E1.out _).mono ?_; rintro e w1 ⟨rfl, rfl⟩))
  clear E1
  go_upto_region 7 with (first | (go_at_call 10; refine (G1.out.enter (i := 0) (x := (0, 0)) rfl).mono ?_; rintro e w2 ⟨rfl, g2, _⟩; have G2 := Lib.hid g2; clear g2))
  have F0 := Lib.hid full_start.2
  clear G1
  go_wp2_with fail
  go_loopw [7] (fun iv wr => ∃ (i m : Nat) (v : Value) (s : GS), i ≤ N ∧ iv = .int .i64 i ∧ Hid (m = min i 16) ∧ Hid (FS (1, 0) 0 m s) ∧ Hid (GrB w wr (w.heap.size + 2) g rb v s)) (fun iv _ => N - (intOf iv).toNat)
  case atStart => exact ⟨0, 0, _, _, by omega, rfl, Lib.hid (by omega), F0, G2⟩
  case round =>
    clear F0 G2
    obtain ⟨i, m, v1, s, hi, rfl, hm, HF, Y1⟩ := hrel
    by_cases hlt : i < N
    · have hlt' : (i : Int) < (N : Int) := by omega
      by_cases h16 : i < 16
      · have h16' : (i : Int) < 16 := by omega
        obtain rfl : m = i := by have := hm.out; omega
        have ins := HF.out.rd
        go_wp2_with (first | (go_at_call 12; refine (Y1.out.push (id := (m : Int)) (by have := HF.out.len; omega)).mono ?_; rintro e w3 ⟨sv, v3, rfl, y3, _⟩; rw [show ((((inside s.rd s.rd.length).length : Nat) : Int) == 0) = false from by rw [HF.out.rd]; exact in_one.1]; have Y3 := Lib.hid y3; clear y3))
        go_roundw
        case rel => exact ⟨m + 1, m + 1, _, _, by omega, by go_num, Lib.hid (by have := hm.out; omega), Lib.hid (HF.out.push since_one.1), Y3⟩
        case measure => simp [intOf]; omega
      · have h16' : ¬ (i : Int) < 16 := by omega
        go_wp2_with (first | (go_at_call 12; refine (defer_full Y1.out.gr (id := (i : Int)) (by have := HF.out.len; have := hm.out; omega)).mono ?_; rintro e w3 ⟨rfl, rfl⟩))
        go_roundw
        case rel => exact ⟨i + 1, m, _, _, by omega, by go_num, Lib.hid (by have := hm.out; omega), HF, Y1⟩
        case measure => simp [intOf]; omega
    · obtain rfl : i = N := by omega
      by_cases hN : 16 < i
      · have hN' : (i : Int) > 16 := by omega
        obtain rfl : m = 16 := by have := hm.out; omega
        go_upto_region 16 with fail
        have WT := Lib.hid (waiting_any Y1.out.gr)
        go_upto_region 18 with (first | (go_at_call 14; refine WT.out.mono ?_; rintro e w2 ⟨ow, rfl, n2, b2⟩; rw [HF.out.len] at n2; obtain ⟨pw, cw, rfl⟩ := n2.value; have Y2 := Lib.hid (Y1.out.on b2); clear n2 b2) | (go_at_call 13; refine Y2.out.poll.mono ?_; rintro e w3 ⟨v3, oc, rfl, y3, n3, _⟩; rw [(HF.out.stay rfl).1] at y3; rw [(HF.out.stay rfl).2] at n3; obtain ⟨pc, cc, rfl⟩ : ∃ pc cc, oc = .slice pc 0 cc := n3.value; have Y3 := Lib.hid y3; clear y3 n3))
        clear WT Y2 Y1
        go_upto_region 20 with (first | (go_at_call 11; refine (Y3.out.leave (i := 0) (x := (1, 0)) (by rw [HF.out.rd]; rfl) (by decide)).mono ?_; rintro e w4 ⟨rfl, y4, _⟩; have Y4 := Lib.hid y4; clear y4))
        have HF4 := Lib.hid HF.out.left
        clear Y3 HF
        go_upto_region 21 with (first | (go_at_call 13; refine Y4.out.poll.mono ?_; rintro e w5 ⟨v5, ol, rfl, y5, n5, _⟩; rw [(HF4.out.all (by decide)).1] at y5; rw [(HF4.out.all (by decide)).2, cnt_length] at n5; have N5 := Lib.hid (n5.nums (cnt_length _)); obtain ⟨pl, cl, rfl⟩ := n5.value; have Y5 : Hid (GrB w w5 (w.heap.size + 2) g rb v5 ⟨[(0, 1)], []⟩) := Lib.hid (by rw [← gs_nil HF4.out.rd]; exact y5); clear y5 n5))
        have HRD := Lib.hid HF4.out.rd
        clear Y4 HF4
        go_wp2_with fail
        go_loopw [12] (fun iv wr => ∃ i : Nat, i ≤ 16 ∧ iv = .int .i64 i ∧ Hid (GrB w wr (w.heap.size + 2) g rb v5 ⟨[(0, 1)], []⟩) ∧ Hid (Nums wr (.slice pl 16 cl) (cnt 16))) (fun iv _ => 16 - (intOf iv).toNat)
        case atStart => exact ⟨0, by omega, rfl, Y5, N5⟩
        case round =>
          clear Y5 N5
          obtain ⟨i, hi, rfl, Y5, N5⟩ := hrel
          by_cases hlt : i < 16
          · have hi0 : (0 : Int) ≤ (i : Int) := by omega
            have hi1 : (i : Int) < (16 : Int) := by omega
            obtain ⟨f, o, rfl, hc⟩ : ∃ f o, pl = some ⟨f, o, none⟩ ∧ wr.cell? ⟨f, o + i, none⟩ = some (.int .i64 (i : Int)) := by
              obtain ⟨p, c, e, h⟩ := N5.out
              injection e with e1 e2 e3
              subst e1
              rw [cnt_length] at h
              rcases h with h | ⟨f, o, rfl, h⟩
              · omega
              · exact ⟨f, o, rfl, by rw [h i hlt, cnt_at hlt]⟩
            go_wp2_with fail
            go_roundw
            case rel => exact ⟨i + 1, by omega, by go_num, Y5, N5⟩
            case measure => simp [intOf]; omega
          · obtain rfl : i = 16 := by omega
            go_upto_region 27 with (first | (go_at_call 12; refine (Y5.out.push (id := 99) (by simp)).mono ?_; rintro e w7 ⟨sv7, v7, rfl, y7, _⟩; have Y7 := Lib.hid y7; clear y7))
            clear Y5 N5
            have WT7 := Lib.hid (waiting_any Y7.out.gr)
            go_wp2_with (first | (go_at_call 14; refine WT7.out.mono ?_; rintro e w8 ⟨ow8, rfl, n8, b8⟩; have N8 : Hid (Nums w8 ow8 [99]) := Lib.hid (Win.nums (l := [99]) n8 rfl); have Y8 := Lib.hid (Y7.out.on b8); have N9 := Lib.hid (N8.out.alloc (.cells #[.int .i64 99] 2)); have NN := Lib.hid (nums_new w8 [99] 2 1); obtain ⟨p8, c8, rfl⟩ : ∃ p8 c8, ow8 = .slice p8 1 c8 := n8.value; clear n8 b8) | (go_at_call 16; refine (same16 _ _ [99] _ (by simp) N9.out NN.out).mono ?_; rintro e w9 ⟨rfl, b9⟩; have HB9 := Lib.hid b9; clear b9) | (go_at_call 15; refine (known_any _).mono ?_; rintro e w10 ⟨rfl, b10⟩; have HB10 := Lib.hid b10; clear b10))
            go_ret
            have q0 := Y8.out.bel.alloc Y8.out.bel.size (.cells #[.int .i64 99] 2)
            have q1 := q0.trans (HB9.out.mono q0.size)
            exact ⟨rfl, q1.trans (HB10.out.mono q1.size)⟩

      · have hN' : ¬ (i : Int) > 16 := by omega
        obtain rfl : m = i := by have := hm.out; omega
        go_upto_region 16 with fail
        have WT := Lib.hid (waiting_any Y1.out.gr)
        go_upto_region 18 with (first | (go_at_call 14; refine WT.out.mono ?_; rintro e w2 ⟨ow, rfl, n2, b2⟩; rw [HF.out.len] at n2; obtain ⟨pw, cw, rfl⟩ := n2.value; have Y2 := Lib.hid (Y1.out.on b2); clear n2 b2) | (go_at_call 13; refine Y2.out.poll.mono ?_; rintro e w3 ⟨v3, oc, rfl, y3, n3, _⟩; rw [(HF.out.stay rfl).1] at y3; rw [(HF.out.stay rfl).2] at n3; obtain ⟨pc, cc, rfl⟩ : ∃ pc cc, oc = .slice pc 0 cc := n3.value; have Y3 := Lib.hid y3; clear y3 n3))
        clear WT Y2 Y1
        go_upto_region 20 with (first | (go_at_call 11; refine (Y3.out.leave (i := 0) (x := (1, 0)) (by rw [HF.out.rd]; rfl) (by decide)).mono ?_; rintro e w4 ⟨rfl, y4, _⟩; have Y4 := Lib.hid y4; clear y4))
        have HF4 := Lib.hid HF.out.left
        clear Y3 HF
        go_upto_region 21 with (first | (go_at_call 13; refine Y4.out.poll.mono ?_; rintro e w5 ⟨v5, ol, rfl, y5, n5, _⟩; rw [(HF4.out.all (by decide)).1] at y5; rw [(HF4.out.all (by decide)).2, cnt_length] at n5; have N5 := Lib.hid (n5.nums (cnt_length _)); obtain ⟨pl, cl, rfl⟩ := n5.value; have Y5 : Hid (GrB w w5 (w.heap.size + 2) g rb v5 ⟨[(0, 1)], []⟩) := Lib.hid (by rw [← gs_nil HF4.out.rd]; exact y5); clear y5 n5))
        have HRD := Lib.hid HF4.out.rd
        clear Y4 HF4
        go_wp2_with fail
        go_loopw [12] (fun iv wr => ∃ i : Nat, i ≤ m ∧ iv = .int .i64 i ∧ Hid (GrB w wr (w.heap.size + 2) g rb v5 ⟨[(0, 1)], []⟩) ∧ Hid (Nums wr (.slice pl m cl) (cnt m))) (fun iv _ => m - (intOf iv).toNat)
        case atStart => exact ⟨0, by omega, rfl, Y5, N5⟩
        case round =>
          clear Y5 N5
          obtain ⟨i, hi, rfl, Y5, N5⟩ := hrel
          by_cases hlt : i < m
          · have hi0 : (0 : Int) ≤ (i : Int) := by omega
            have hi1 : (i : Int) < (m : Int) := by omega
            obtain ⟨f, o, rfl, hc⟩ : ∃ f o, pl = some ⟨f, o, none⟩ ∧ wr.cell? ⟨f, o + i, none⟩ = some (.int .i64 (i : Int)) := by
              obtain ⟨p, c, e, h⟩ := N5.out
              injection e with e1 e2 e3
              subst e1
              rw [cnt_length] at h
              rcases h with h | ⟨f, o, rfl, h⟩
              · omega
              · exact ⟨f, o, rfl, by rw [h i hlt, cnt_at hlt]⟩
            go_wp2_with fail
            go_roundw
            case rel => exact ⟨i + 1, by omega, by go_num, Y5, N5⟩
            case measure => simp [intOf]; omega
          · obtain rfl : i = m := by omega
            go_upto_region 27 with (first | (go_at_call 12; refine (Y5.out.push (id := 99) (by simp)).mono ?_; rintro e w7 ⟨sv7, v7, rfl, y7, _⟩; have Y7 := Lib.hid y7; clear y7))
            clear Y5 N5
            have WT7 := Lib.hid (waiting_any Y7.out.gr)
            go_wp2_with (first | (go_at_call 14; refine WT7.out.mono ?_; rintro e w8 ⟨ow8, rfl, n8, b8⟩; have N8 : Hid (Nums w8 ow8 [99]) := Lib.hid (Win.nums (l := [99]) n8 rfl); have Y8 := Lib.hid (Y7.out.on b8); have N9 := Lib.hid (N8.out.alloc (.cells #[.int .i64 99] 2)); have NN := Lib.hid (nums_new w8 [99] 2 1); obtain ⟨p8, c8, rfl⟩ : ∃ p8 c8, ow8 = .slice p8 1 c8 := n8.value; clear n8 b8) | (go_at_call 16; refine (same16 _ _ [99] _ (by simp) N9.out NN.out).mono ?_; rintro e w9 ⟨rfl, b9⟩; have HB9 := Lib.hid b9; clear b9) | (go_at_call 15; refine (known_any _).mono ?_; rintro e w10 ⟨rfl, b10⟩; have HB10 := Lib.hid b10; clear b10))
            go_ret
            have q0 := Y8.out.bel.alloc Y8.out.bel.size (.cells #[.int .i64 99] 2)
            have q1 := q0.trans (HB9.out.mono q0.size)
            exact ⟨rfl, q1.trans (HB10.out.mono q1.size)⟩
set_option maxRecDepth 100000 in
set_option maxHeartbeats 8000000 in
theorem full_out (n : Int) (w : World) (h1 : -9223372036854775808 ≤ n) (h2 : n ≤ 9223372036854775807) :
    Calls Try.prog 4 #[.int .i64 n, .bool false] w fun e w' => e = .returned (.bool true) ∧ Below w.heap.size w w' := by
  obtain ⟨N, hN, hN0⟩ := within_nat (lo := 0) (hi := 24) (n := n) (by decide) rfl
  have E1 : Hid (∀ w, Calls Try.prog 9 #[.int .i64 n, .int .i64 0, .int .i64 24] w fun e w' => e = .returned (.int .i64 (N : Int)) ∧ w = w') := Lib.hid (fun w => by
    have := within_any n 0 24 w h1 h2 (by omega) (by omega) (by omega)
    rwa [hN] at this)
  clear hN h1 h2
  have E0 := Lib.hid (gr_begin 1 w w (by omega) (by omega) (Below.refl _ _))
  go_enter Try.func4, Try.ntmps4
  go_upto_region 4 with (first | (go_at_call 8; refine E0.out.mono ?_; rintro e w1 ⟨g, rb, rfl, g1⟩; have G1 := Lib.hid g1; clear g1))
  clear E0
  go_upto_region 5 with (first | (go_at_call 9; refine (E1.out _).mono ?_; rintro e w1 ⟨rfl, rfl⟩))
  clear E1
  go_upto_region 7 with fail
  have G2 := G1
  have F0 := Lib.hid full_start.1
  clear G1
  go_wp2_with fail
  go_loopw [7] (fun iv wr => ∃ (i m : Nat) (v : Value) (s : GS), i ≤ N ∧ iv = .int .i64 i ∧ Hid (m = min i 16) ∧ Hid (FS (0, 0) (-1) m s) ∧ Hid (GrB w wr (w.heap.size + 2) g rb v s)) (fun iv _ => N - (intOf iv).toNat)
  case atStart => exact ⟨0, 0, _, _, by omega, rfl, Lib.hid (by omega), F0, G2⟩
  case round =>
    clear F0 G2
    obtain ⟨i, m, v1, s, hi, rfl, hm, HF, Y1⟩ := hrel
    by_cases hlt : i < N
    · have hlt' : (i : Int) < (N : Int) := by omega
      by_cases h16 : i < 16
      · have h16' : (i : Int) < 16 := by omega
        obtain rfl : m = i := by have := hm.out; omega
        have ins := HF.out.rd
        go_wp2_with (first | (go_at_call 12; refine (Y1.out.push (id := (m : Int)) (by have := HF.out.len; omega)).mono ?_; rintro e w3 ⟨sv, v3, rfl, y3, _⟩; rw [show ((((inside s.rd s.rd.length).length : Nat) : Int) == 0) = true from by rw [HF.out.rd]; exact in_one.2.1]; have Y3 := Lib.hid y3; clear y3))
        go_roundw
        case rel => exact ⟨m + 1, m + 1, _, _, by omega, by go_num, Lib.hid (by have := hm.out; omega), Lib.hid (HF.out.push since_one.2), Y3⟩
        case measure => simp [intOf]; omega
      · have h16' : ¬ (i : Int) < 16 := by omega
        go_wp2_with (first | (go_at_call 12; refine (defer_full Y1.out.gr (id := (i : Int)) (by have := HF.out.len; have := hm.out; omega)).mono ?_; rintro e w3 ⟨rfl, rfl⟩))
        go_roundw
        case rel => exact ⟨i + 1, m, _, _, by omega, by go_num, Lib.hid (by have := hm.out; omega), HF, Y1⟩
        case measure => simp [intOf]; omega
    · obtain rfl : i = N := by omega
      by_cases hN : 16 < i
      · have hN' : (i : Int) > 16 := by omega
        obtain rfl : m = 16 := by have := hm.out; omega
        go_upto_region 16 with fail
        have WT := Lib.hid (waiting_any Y1.out.gr)
        go_upto_region 18 with (first | (go_at_call 14; refine WT.out.mono ?_; rintro e w2 ⟨ow, rfl, n2, b2⟩; rw [HF.out.len] at n2; obtain ⟨pw, cw, rfl⟩ := n2.value; have Y2 := Lib.hid (Y1.out.on b2); clear n2 b2))
        have Y3 := Y2
        obtain ⟨v3, hv3⟩ : ∃ x, x = v1 := ⟨_, rfl⟩
        subst hv3
        clear WT Y2 Y1
        go_upto_region 20 with fail
        have Y4 := Y3
        have HF4 := HF
        clear Y3 HF
        go_upto_region 21 with (first | (go_at_call 13; refine Y4.out.poll.mono ?_; rintro e w5 ⟨v5, ol, rfl, y5, n5, _⟩; rw [(HF4.out.all (by decide)).1] at y5; rw [(HF4.out.all (by decide)).2, cnt_length] at n5; have N5 := Lib.hid (n5.nums (cnt_length _)); obtain ⟨pl, cl, rfl⟩ := n5.value; have Y5 : Hid (GrB w w5 (w.heap.size + 2) g rb v5 ⟨[(0, 0)], []⟩) := Lib.hid (by rw [← gs_nil HF4.out.rd]; exact y5); clear y5 n5))
        have HRD := Lib.hid HF4.out.rd
        clear Y4 HF4
        go_wp2_with fail
        go_loopw [12] (fun iv wr => ∃ i : Nat, i ≤ 16 ∧ iv = .int .i64 i ∧ Hid (GrB w wr (w.heap.size + 2) g rb v5 ⟨[(0, 0)], []⟩) ∧ Hid (Nums wr (.slice pl 16 cl) (cnt 16))) (fun iv _ => 16 - (intOf iv).toNat)
        case atStart => exact ⟨0, by omega, rfl, Y5, N5⟩
        case round =>
          clear Y5 N5
          obtain ⟨i, hi, rfl, Y5, N5⟩ := hrel
          by_cases hlt : i < 16
          · have hi0 : (0 : Int) ≤ (i : Int) := by omega
            have hi1 : (i : Int) < (16 : Int) := by omega
            obtain ⟨f, o, rfl, hc⟩ : ∃ f o, pl = some ⟨f, o, none⟩ ∧ wr.cell? ⟨f, o + i, none⟩ = some (.int .i64 (i : Int)) := by
              obtain ⟨p, c, e, h⟩ := N5.out
              injection e with e1 e2 e3
              subst e1
              rw [cnt_length] at h
              rcases h with h | ⟨f, o, rfl, h⟩
              · omega
              · exact ⟨f, o, rfl, by rw [h i hlt, cnt_at hlt]⟩
            go_wp2_with fail
            go_roundw
            case rel => exact ⟨i + 1, by omega, by go_num, Y5, N5⟩
            case measure => simp [intOf]; omega
          · obtain rfl : i = 16 := by omega
            go_upto_region 27 with (first | (go_at_call 12; refine (Y5.out.push (id := 99) (by simp)).mono ?_; rintro e w7 ⟨sv7, v7, rfl, y7, _⟩; have Y7 := Lib.hid y7; clear y7))
            clear Y5 N5
            have WT7 := Lib.hid (waiting_any Y7.out.gr)
            go_wp2_with (first | (go_at_call 14; refine WT7.out.mono ?_; rintro e w8 ⟨ow8, rfl, n8, b8⟩; have N8 : Hid (Nums w8 ow8 [99]) := Lib.hid (Win.nums (l := [99]) n8 rfl); have Y8 := Lib.hid (Y7.out.on b8); have N9 := Lib.hid (N8.out.alloc (.cells #[.int .i64 99] 2)); have NN := Lib.hid (nums_new w8 [99] 2 1); obtain ⟨p8, c8, rfl⟩ : ∃ p8 c8, ow8 = .slice p8 1 c8 := n8.value; clear n8 b8) | (go_at_call 16; refine (same16 _ _ [99] _ (by simp) N9.out NN.out).mono ?_; rintro e w9 ⟨rfl, b9⟩; have HB9 := Lib.hid b9; clear b9) | (go_at_call 15; refine (known_any _).mono ?_; rintro e w10 ⟨rfl, b10⟩; have HB10 := Lib.hid b10; clear b10))
            go_ret
            have q0 := Y8.out.bel.alloc Y8.out.bel.size (.cells #[.int .i64 99] 2)
            have q1 := q0.trans (HB9.out.mono q0.size)
            exact ⟨rfl, q1.trans (HB10.out.mono q1.size)⟩

      · have hN' : ¬ (i : Int) > 16 := by omega
        obtain rfl : m = i := by have := hm.out; omega
        go_upto_region 16 with fail
        have WT := Lib.hid (waiting_any Y1.out.gr)
        go_upto_region 18 with (first | (go_at_call 14; refine WT.out.mono ?_; rintro e w2 ⟨ow, rfl, n2, b2⟩; rw [HF.out.len] at n2; obtain ⟨pw, cw, rfl⟩ := n2.value; have Y2 := Lib.hid (Y1.out.on b2); clear n2 b2))
        have Y3 := Y2
        obtain ⟨v3, hv3⟩ : ∃ x, x = v1 := ⟨_, rfl⟩
        subst hv3
        clear WT Y2 Y1
        go_upto_region 20 with fail
        have Y4 := Y3
        have HF4 := HF
        clear Y3 HF
        go_upto_region 21 with (first | (go_at_call 13; refine Y4.out.poll.mono ?_; rintro e w5 ⟨v5, ol, rfl, y5, n5, _⟩; rw [(HF4.out.all (by decide)).1] at y5; rw [(HF4.out.all (by decide)).2, cnt_length] at n5; have N5 := Lib.hid (n5.nums (cnt_length _)); obtain ⟨pl, cl, rfl⟩ := n5.value; have Y5 : Hid (GrB w w5 (w.heap.size + 2) g rb v5 ⟨[(0, 0)], []⟩) := Lib.hid (by rw [← gs_nil HF4.out.rd]; exact y5); clear y5 n5))
        have HRD := Lib.hid HF4.out.rd
        clear Y4 HF4
        go_wp2_with fail
        go_loopw [12] (fun iv wr => ∃ i : Nat, i ≤ m ∧ iv = .int .i64 i ∧ Hid (GrB w wr (w.heap.size + 2) g rb v5 ⟨[(0, 0)], []⟩) ∧ Hid (Nums wr (.slice pl m cl) (cnt m))) (fun iv _ => m - (intOf iv).toNat)
        case atStart => exact ⟨0, by omega, rfl, Y5, N5⟩
        case round =>
          clear Y5 N5
          obtain ⟨i, hi, rfl, Y5, N5⟩ := hrel
          by_cases hlt : i < m
          · have hi0 : (0 : Int) ≤ (i : Int) := by omega
            have hi1 : (i : Int) < (m : Int) := by omega
            obtain ⟨f, o, rfl, hc⟩ : ∃ f o, pl = some ⟨f, o, none⟩ ∧ wr.cell? ⟨f, o + i, none⟩ = some (.int .i64 (i : Int)) := by
              obtain ⟨p, c, e, h⟩ := N5.out
              injection e with e1 e2 e3
              subst e1
              rw [cnt_length] at h
              rcases h with h | ⟨f, o, rfl, h⟩
              · omega
              · exact ⟨f, o, rfl, by rw [h i hlt, cnt_at hlt]⟩
            go_wp2_with fail
            go_roundw
            case rel => exact ⟨i + 1, by omega, by go_num, Y5, N5⟩
            case measure => simp [intOf]; omega
          · obtain rfl : i = m := by omega
            go_upto_region 27 with (first | (go_at_call 12; refine (Y5.out.push (id := 99) (by simp)).mono ?_; rintro e w7 ⟨sv7, v7, rfl, y7, _⟩; have Y7 := Lib.hid y7; clear y7))
            clear Y5 N5
            have WT7 := Lib.hid (waiting_any Y7.out.gr)
            go_wp2_with (first | (go_at_call 14; refine WT7.out.mono ?_; rintro e w8 ⟨ow8, rfl, n8, b8⟩; have N8 : Hid (Nums w8 ow8 [99]) := Lib.hid (Win.nums (l := [99]) n8 rfl); have Y8 := Lib.hid (Y7.out.on b8); have N9 := Lib.hid (N8.out.alloc (.cells #[.int .i64 99] 2)); have NN := Lib.hid (nums_new w8 [99] 2 1); obtain ⟨p8, c8, rfl⟩ : ∃ p8 c8, ow8 = .slice p8 1 c8 := n8.value; clear n8 b8) | (go_at_call 16; refine (same16 _ _ [99] _ (by simp) N9.out NN.out).mono ?_; rintro e w9 ⟨rfl, b9⟩; have HB9 := Lib.hid b9; clear b9) | (go_at_call 15; refine (known_any _).mono ?_; rintro e w10 ⟨rfl, b10⟩; have HB10 := Lib.hid b10; clear b10))
            go_ret
            have q0 := Y8.out.bel.alloc Y8.out.bel.size (.cells #[.int .i64 99] 2)
            have q1 := q0.trans (HB9.out.mono q0.size)
            exact ⟨rfl, q1.trans (HB10.out.mono q1.size)⟩
theorem full_any (n : Int) (b : Bool) (w : World) (h1 : -9223372036854775808 ≤ n) (h2 : n ≤ 9223372036854775807) :
    Calls Try.prog 4 #[.int .i64 n, .bool b] w fun e w' => e = .returned (.bool true) ∧ Below w.heap.size w w' := by
  cases b
  · exact full_out n w h1 h2
  · exact full_in n w h1 h2
end Go.Proofs.Ytedfegbafjmkgaa
