/- The walk of GraceSafe. -/
import Derived.Test.YtedfegbafjmkgaaSafeMem
import Derived.Test.YtedfegbafjmkgaaFull
import Derived.Test.YtedfegbafjmkgaaFrame
namespace Go.Proofs.Ytedfegbafjmkgaa
open Go.RowKit

theorem sm_start {W w : World} {base g rb : Nat} (h : GrB W w base g rb (.slice none 0 0) (GS.new 4)) (cs : Array Value) (hc : cs = #[.int .i64 0, .int .i64 0, .int .i64 0, .int .i64 0]) :
    SM W ((w.alloc (.cells cs 27)).alloc (.cells cs 27)) base g rb w.heap.size (w.heap.size + 1) (.slice none 0 0) (.slice none 0 0) (GS.new 4) [0, 0, 0, 0] [0, 0, 0, 0] [] := by
  subst hc
  have B1 : Below w.heap.size w ((w.alloc (.cells #[.int .i64 0, .int .i64 0, .int .i64 0, .int .i64 0] 27)).alloc (.cells #[.int .i64 0, .int .i64 0, .int .i64 0, .int .i64 0] 27)) := ((Below.refl _ _).alloc (Nat.le_refl _) _).alloc (by simp) _
  refine ⟨h.on B1, ?_, ?_, Win.nil _ _ _ _, by simp [GS.new], h.gr.hg.lt, h.gr.hr.lt, by omega⟩
  · exact (((Below.refl _ _).alloc (Nat.le_refl _) _).block w.heap.size (by simp)).trans (World.alloc_heap_new _ _)
  · have := World.alloc_heap_new (w.alloc (.cells #[.int .i64 0, .int .i64 0, .int .i64 0, .int .i64 0] 27)) (.cells #[.int .i64 0, .int .i64 0, .int .i64 0, .int .i64 0] 27)
    rw [World.size_alloc] at this
    exact this

set_option maxRecDepth 100000 in
set_option maxHeartbeats 8000000 in
theorem safe_any (a : Option Addr) (n c : Nat) (G : Nat → Nat → Int) (w : World) (hA : Asks w a n G) (hn : n ≤ 9223372036854775807) :
    Calls Try.prog 3 #[.slice a n c] w fun e w' => e = .returned (.bool true) ∧ Below w.heap.size w w' := by
  have HA := Lib.hid hA
  clear hA
  obtain ⟨i3, hi, hz0, hz1, hz2⟩ := info_parts info3
  have E0 := Lib.hid (gr_begin 4 w w (by omega) (by omega) (Below.refl _ _))
  go_enter Try.func3, Try.ntmps3
  go_upto_region 4 with (first | (go_at_call 8; refine E0.out.mono ?_; rintro e w1 ⟨g, rb, rfl, g1⟩; have G1 := Lib.hid g1; clear g1))
  clear E0
  go_upto_region 6 with fail
  have S0 := Lib.hid (sm_start G1.out _ rfl)
  clear G1
  obtain ⟨w2, hw2⟩ : ∃ w2, (w1.alloc (.cells #[.int .i64 0, .int .i64 0, .int .i64 0, .int .i64 0] 27)).alloc (.cells #[.int .i64 0, .int .i64 0, .int .i64 0, .int .i64 0] 27) = w2 := ⟨_, rfl⟩
  rw [hw2] at S0 ⊢
  clear hw2
  obtain ⟨A, hAe⟩ : ∃ A, w1.heap.size = A := ⟨_, rfl⟩
  rw [hAe] at S0 ⊢
  clear hAe
  obtain ⟨B, hBe⟩ : ∃ B, A + 1 = B := ⟨_, rfl⟩
  rw [hBe] at S0 ⊢
  have nAB : ¬ A = B := by omega
  have nBA : ¬ B = A := by omega
  clear hBe
  have J0 := Lib.hid SJ.start
  go_wp2_with fail
  go_loopw [7, 8, 9] (fun wv tv iv wr => ∃ (i told : Nat) (ins sn wh : List Nat) (s : GS) (v : Value), i ≤ n ∧ i ≤ 120 ∧ iv = .int .i64 i ∧ tv = .int .i64 told ∧ Hid (SJ i ins sn wh told s) ∧ Hid (SM w wr (w.heap.size + 2) g rb A B v wv s ins sn wh)) (fun _ _ iv _ => n - (intOf iv).toNat)
  case atStart => exact ⟨0, 0, _, _, _, _, _, by omega, by omega, rfl, rfl, J0, S0⟩
  case round =>
    clear J0 S0
    obtain ⟨i, told, ins, sn, wh, s, v, hi0, hi1, rfl, rfl, HJ, HS⟩ := hrel
    obtain ⟨wp, wc, rfl⟩ := HS.out.hw.value
    have htw := HJ.out.tl
    have hwl := HJ.out.wl
    by_cases hin : i < n ∧ i < 120
    · obtain ⟨hlt, hlt2⟩ := hin
      have hlt' : (i : Int) < (n : Int) := by omega
      have hi0' : (0 : Int) ≤ (i : Int) := by omega
      have hlt2' : (i : Int) < 120 := by omega
      obtain ⟨b, off, rfl, hb, hcell⟩ : ∃ b off, a = some ⟨b, off, none⟩ ∧ b < w.heap.size ∧ ∀ j, j < 3 → w.cell? ⟨b, off + i * 3 + j, none⟩ = some (.int .i64 (G i j)) ∧ -9223372036854775808 ≤ G i j ∧ G i j ≤ 9223372036854775807 := by
        rcases HA.out with h | ⟨b, off, h1, h2, h3⟩
        · omega
        · exact ⟨b, off, h1, h2, fun j hj => h3 i j hlt hj⟩
      have e0 : wr.cell? ⟨b, off + i * 3, none⟩ = some (.int .i64 (G i 0)) := (HS.out.b.bel.cell (p := ⟨b, off + i * 3, none⟩) hb).trans (hcell 0 (by omega)).1
      have e1 : wr.cell? ⟨b, off + i * 3 + 1, none⟩ = some (.int .i64 (G i 1)) := (HS.out.b.bel.cell (p := ⟨b, off + i * 3 + 1, none⟩) hb).trans (hcell 1 (by omega)).1
      have bnd := (hcell 1 (by omega)).2
      obtain ⟨kd, hkd⟩ : ∃ z, G i 0 = z := ⟨_, rfl⟩
      obtain ⟨ra, hra⟩ : ∃ z, G i 1 = z := ⟨_, rfl⟩
      rw [hkd] at e0
      rw [hra] at e1 bnd
      clear hkd hra hcell
      obtain ⟨R, hR, hR4⟩ := within_one (n := ra) (m := 3)
      have EW : Hid (∀ w, Calls Try.prog 9 #[.int .i64 ra, .int .i64 0, .int .i64 3] w fun e w' => e = .returned (.int .i64 (R : Int)) ∧ w = w') := Lib.hid (fun w => by
        have := within_any ra 0 3 w bnd.1 bnd.2 (by omega) (by omega) (by omega)
        rwa [show (3 : Int) = ((3 : Nat) : Int) from rfl, hR] at this)
      clear hR bnd
      obtain ⟨x, hx1, hx2, hx3⟩ := HJ.out.at (r := R) (by omega)
      obtain ⟨q, hq⟩ : ∃ q, ins.getD R 0 = q := ⟨_, rfl⟩
      rw [hq] at hx3
      have hqb : q ≤ 120 := by have := HJ.out.ib R (by omega); omega
      have hRl : R < ins.length := by rw [HJ.out.li]; omega
      have HX1 := Lib.hid hx1
      have HX2 := Lib.hid hx2
      have HX3 := Lib.hid hx3
      have HQ := Lib.hid hq
      have HRL := Lib.hid hRl
      have HSL : Hid (R < sn.length) := Lib.hid (by rw [HJ.out.ls]; omega)
      have hR0 : (0 : Int) ≤ (R : Int) := by omega
      have hR5 : (R : Int) < 4 := by omega
      clear hx1 hx2 hx3 hq hRl
      by_cases k1 : kd = 1
      · subst k1
        have HEN := Lib.hid (HJ.out.enter (r := R) (by omega) HX2.out (by omega))
        by_cases h0 : q = 0
        · subst h0
          go_upto_region 29 with (first | (go_at_call 9; refine (EW.out _).mono ?_; rintro e w3 ⟨rfl, rfl⟩) | (go_at_call 10; refine (HS.out.enter (i := R) HX1.out).mono ?_; rintro e w3 ⟨rfl, y3⟩; have HS3 := Lib.hid y3; have cA0 := y3.cA HRL.out; rw [HQ.out] at cA0; have cA : w3.cell? ⟨A, R, none⟩ = some (.int .i64 0) := cA0; clear cA0; have cB := y3.cB HSL.out; have fA := y3.fA; have fB := y3.fB; clear y3))
          obtain ⟨w4, hw4⟩ : ∃ w4, w3.setCell ⟨B, R, none⟩ (.int .i64 (i : Int)) = w4 := ⟨_, rfl⟩
          have HS4 := Lib.hid (HS3.out.setB R i)
          rw [hw4] at HS4 ⊢
          clear hw4 cA cB fA fB HS3
          have cA0 := HS4.out.cA HRL.out
          rw [HQ.out] at cA0
          have cA : w4.cell? ⟨A, R, none⟩ = some (.int .i64 0) := cA0
          clear cA0
          have fA := HS4.out.fA
          go_wp2_with fail
          go_roundw
          case rel =>
            refine ⟨i + 1, told, ins.set R (0 + 1), sn.set R i, wh, s.enter R x, v, by omega, by omega, by go_num, rfl, Lib.hid ?_, Lib.hid (HS4.out.setA R 1)⟩
            have := HEN.out
            rw [HQ.out] at this
            exact this
          case measure => simp [intOf]; omega
        · have h1 : ¬ (q : Int) = 0 := by omega
          go_wp2_with (first | (go_at_call 9; refine (EW.out _).mono ?_; rintro e w3 ⟨rfl, rfl⟩) | (go_at_call 10; refine (HS.out.enter (i := R) HX1.out).mono ?_; rintro e w3 ⟨rfl, y3⟩; have HS3 := Lib.hid y3; have cA := y3.cA HRL.out; rw [HQ.out] at cA; have fA := y3.fA; have fB := y3.fB; clear y3))
          go_roundw
          case rel =>
            have t := HS3.out.setA R (q + 1)
            refine ⟨i + 1, told, ins.set R (q + 1), sn, wh, s.enter R x, v, by omega, by omega, by go_num, rfl, Lib.hid ?_, Lib.hid t⟩
            have := HEN.out
            rw [HQ.out, if_neg h0] at this
            exact this
          case measure => simp [intOf]; omega
      have d1 : (kd == 1) = false := by simpa using k1
      by_cases k2 : kd = 2
      · subst k2
        by_cases h0 : q = 0
        · subst h0
          go_wp2_with (first | (go_at_call 9; refine (EW.out _).mono ?_; rintro e w3 ⟨rfl, rfl⟩) | (go_at_call 11; refine (leave_past HS.out.b.gr (i := R) HX1.out (by rw [HX3.out]; rfl)).mono ?_; rintro e w3 ⟨rfl, rfl⟩; have cA0 := HS.out.cA HRL.out; rw [HQ.out] at cA0; have cA : wr.cell? ⟨A, R, none⟩ = some (.int .i64 0) := cA0; clear cA0))
          go_roundw
          case rel => exact ⟨i + 1, told, ins, sn, wh, s, v, by omega, by omega, by go_num, rfl, Lib.hid HJ.out.mono, HS⟩
          case measure => simp [intOf]; omega
        · have h1 : (q : Int) > 0 := by omega
          obtain ⟨q1, rfl⟩ : ∃ q1, q = q1 + 1 := ⟨q - 1, by omega⟩
          have HLV := Lib.hid (HJ.out.leave (r := R) (by omega) HX2.out (by omega) (by rw [HQ.out]; omega))
          go_wp2_with (first | (go_at_call 9; refine (EW.out _).mono ?_; rintro e w3 ⟨rfl, rfl⟩) | (go_at_call 11; refine (HS.out.leave (i := R) HX1.out (by rw [HX3.out]; omega)).mono ?_; rintro e w3 ⟨rfl, y3⟩; have HS3 := Lib.hid y3; have cA := y3.cA HRL.out; rw [HQ.out] at cA; have fA := y3.fA; clear y3))
          go_roundw
          case rel =>
            have t := HS3.out.setA R q1
            refine ⟨i + 1, told, ins.set R q1, sn, wh, s.leave R x, v, by omega, by omega, by go_num, rfl, Lib.hid ?_, Lib.hid t⟩
            have := HLV.out.mono
            rw [HQ.out] at this
            exact this
          case measure => simp [intOf]; omega
      have d2 : (kd == 2) = false := by simpa using k2
      by_cases k3 : kd = 3
      · subst k3
        by_cases hm : s.wt.length < 16
        · have hBs : B < wr.heap.size := (Array.getElem?_eq_some_iff.1 HS.out.hb).1
          go_wp2_with (first | (go_at_call 9; refine (EW.out _).mono ?_; rintro e w3 ⟨rfl, rfl⟩) | (go_at_call 12; refine (HS.out.push (id := (wh.length : Int)) hm).mono ?_; rintro e w3 ⟨sv, v3, r3, rfl, y3⟩; have HS3 := Lib.hid y3; have hBs3 := (Array.getElem?_eq_some_iff.1 y3.hb).1; clear y3) | (at_builtin; go_must (refine wpList_append_win _ rfl (.tmp 137) (.tmp 139) 28 rfl (B + 1) 3 i3 _ 1 8 Try.underlying28 hi hz0 hz1 hz2 rfl (by decide) (.slice wp wh.length wc) wh.length (natsOf wh) (by simp [Act.eval]) (HS3.out.hw.alloc _) ⟨w3.heap.size, 0, none⟩ 1 1 [.int .i64 (i : Int)] (by simp [Act.eval]) rfl (new_cells w3 [.int .i64 (i : Int)] _) (by simp [Value.oneCell']) (by decide) (by unfold maxLen; omega) (by omega) (by simp; omega) ?_); intro f' o' cap' w4 hown hgrow hat; have R4 := Lib.hid (HS3.out.came hown hgrow hat); clear hown hgrow hat))
          go_roundw
          case rel => exact ⟨i + 1, told, ins, sn, wh ++ [i], _, v3, by omega, by omega, by go_num, rfl, Lib.hid (HJ.out.defer sv), R4⟩
          case measure => simp [intOf]; omega
        · go_wp2_with (first | (go_at_call 9; refine (EW.out _).mono ?_; rintro e w3 ⟨rfl, rfl⟩) | (go_at_call 12; refine (defer_full HS.out.b.gr (id := (wh.length : Int)) (by omega)).mono ?_; rintro e w3 ⟨rfl, rfl⟩))
          go_roundw
          case rel => exact ⟨i + 1, told, ins, sn, wh, s, v, by omega, by omega, by go_num, rfl, Lib.hid HJ.out.mono, HS⟩
          case measure => simp [intOf]; omega
      have d3 : (kd == 3) = false := by simpa using k3
      have HP := Lib.hid HJ.out.poll
      obtain ⟨O, hO⟩ : ∃ O, outOf s s.wt.length = O := ⟨_, rfl⟩
      have hcnt := poll_count s
      rw [hO] at HP hcnt
      have HO := Lib.hid hO
      clear hO
      go_upto_region 14 with (first | (go_at_call 9; refine (EW.out _).mono ?_; rintro e w3 ⟨rfl, rfl⟩) | (go_at_call 13; refine HS.out.poll.mono ?_; rintro e w3 ⟨v3, ov, rfl, y3, n3⟩; rw [HO.out] at n3; have HS3 := Lib.hid y3; have N3 := Lib.hid n3; obtain ⟨pp, pc, rfl, _⟩ := n3; clear y3))
      have hO120 : told + O.length ≤ 120 := by omega
      go_wp2_with fail
      go_loopw [14] (fun kv wr' => ∃ k : Nat, k ≤ O.length ∧ kv = .int .i64 k ∧ Hid (SM w wr' (w.heap.size + 2) g rb A B v3 (.slice wp wh.length wc) { s with wt := keptOf s s.wt.length } ins sn wh) ∧ Hid (Nums wr' (.slice pp O.length pc) O)) (fun kv _ => O.length - (intOf kv).toNat)
      case atStart => exact ⟨0, by omega, rfl, HS3, N3⟩
      case round =>
        clear HS3 N3
        obtain ⟨k, hk, rfl, HS3, N3⟩ := hrel
        by_cases hkl : k < O.length
        · have hk0 : (0 : Int) ≤ (k : Int) := by omega
          have hk1 : (k : Int) < (O.length : Int) := by omega
          obtain ⟨fp, op, rfl, hcp⟩ : ∃ f o, pp = some ⟨f, o, none⟩ ∧ wr.cell? ⟨f, o + k, none⟩ = some (.int .i64 (O.getD k 0)) := by
            obtain ⟨p, c, e, h⟩ := N3.out
            injection e with e1 e2 e3
            subst e1
            rcases h with h | ⟨f, o, rfl, h⟩
            · omega
            · exact ⟨f, o, rfl, h k hkl⟩
          obtain ⟨m, hm, hz, hbad⟩ := HP.out.2 (O.getD k 0) (by rw [List.getD_eq_getElem?_getD, List.getElem?_eq_getElem hkl]; exact List.getElem_mem hkl)
          rw [hz] at hcp
          have HZ := Lib.hid hz
          have HBAD := Lib.hid hbad
          have hm0 : (0 : Int) ≤ (m : Int) := by omega
          have hm1 : (m : Int) < (wh.length : Int) := by omega
          have hm2 : ¬ (m : Int) < 0 := by omega
          have hm3 : ¬ (m : Int) ≥ (wh.length : Int) := by omega
          clear hz hbad
          obtain ⟨fw, ow, cw, hwv⟩ := HS3.out.hw.form (by omega)
          obtain ⟨rfl, rfl⟩ : wp = some ⟨fw, ow, none⟩ ∧ wc = cw := by cases hwv; exact ⟨rfl, rfl⟩
          clear hwv
          obtain ⟨wm, hwm⟩ : ∃ z, wh.getD m 0 = z := ⟨_, rfl⟩
          rw [hwm] at HBAD
          have HWM := Lib.hid hwm
          clear hwm
          go_wp2_with fail
          go_loopw [15] (fun qv wr' => ∃ q : Nat, q ≤ 4 ∧ qv = .int .i64 q ∧ Hid (SM w wr' (w.heap.size + 2) g rb A B v3 (.slice (some ⟨fw, ow, none⟩) wh.length wc) { s with wt := keptOf s s.wt.length } ins sn wh) ∧ Hid (Nums wr' (.slice (some ⟨fp, op, none⟩) O.length pc) O)) (fun qv _ => 4 - (intOf qv).toNat)
          case atStart => exact ⟨0, by omega, rfl, HS3, N3⟩
          case round =>
            clear HS3 N3
            obtain ⟨q', hq', rfl, HS3, N3⟩ := hrel
            by_cases hql : q' < 4
            · have hq0 : (0 : Int) ≤ (q' : Int) := by omega
              have hq1 : (q' : Int) < 4 := by omega
              have hqi : Hid (q' < ins.length) := Lib.hid (by rw [HJ.out.li]; omega)
              have hqs : Hid (q' < sn.length) := Lib.hid (by rw [HJ.out.ls]; omega)
              have cA := HS3.out.cA hqi.out
              have cB := HS3.out.cB hqs.out
              obtain ⟨iq, hiq⟩ : ∃ z, ins.getD q' 0 = z := ⟨_, rfl⟩
              obtain ⟨sq, hsq⟩ : ∃ z, sn.getD q' 0 = z := ⟨_, rfl⟩
              have hb2 := HBAD.out q' hql
              rw [hiq, hsq] at hb2
              rw [hiq] at cA
              rw [hsq] at cB
              have c3 : wr.cell? ⟨fw, ow + m, none⟩ = some (.int .i64 (wm : Int)) := by
                rw [HS3.out.hw.cells m (by omega)]
                rw [← HWM.out]
                exact natsOf_at hm
              have c4 : wr.cell? ⟨fp, op + k, none⟩ = some (.int .i64 (m : Int)) := by
                obtain ⟨p, c, e, h⟩ := N3.out
                injection e with e1 e2 e3
                rcases h with h | ⟨f, o, e4, h⟩
                · omega
                · rw [e4] at e1; cases e1; rw [h k hkl, HZ.out]
              clear hiq hsq
              by_cases hpos : 0 < iq
              · have t1 : (iq : Int) > 0 := by omega
                have t2 : ¬ (sq : Int) < (wm : Int) := by have := hb2 hpos; omega
                clear hb2
                go_wp2_with fail
                go_quiet (fail)
                go_wp2_with fail
                go_roundw
                case rel => exact ⟨q' + 1, by omega, by go_num, Lib.hid (HS3.out.on ⟨rfl, rfl, rfl, Nat.le_refl _, fun _ _ => rfl⟩), Lib.hid (N3.out.below ⟨rfl, rfl, rfl, Nat.le_refl _, fun _ _ => rfl⟩)⟩
                case measure => simp [intOf]; omega
              · have t1 : ¬ (iq : Int) > 0 := by omega
                clear hb2
                go_wp2_with fail
                go_quiet (fail)
                go_wp2_with fail
                go_roundw
                case rel => exact ⟨q' + 1, by omega, by go_num, Lib.hid (HS3.out.on ⟨rfl, rfl, rfl, Nat.le_refl _, fun _ _ => rfl⟩), Lib.hid (N3.out.below ⟨rfl, rfl, rfl, Nat.le_refl _, fun _ _ => rfl⟩)⟩
                case measure => simp [intOf]; omega
            · obtain rfl : q' = 4 := by omega
              go_wp2_with fail
              go_roundw
              case rel => exact ⟨k + 1, by omega, by go_num, HS3, N3⟩
              case measure => simp [intOf]; omega
        · obtain rfl : k = O.length := by omega
          go_wp2_with fail
          go_roundw
          case rel => exact ⟨i + 1, told + O.length, ins, sn, wh, _, v3, by omega, by omega, by go_num, by go_num, Lib.hid HP.out.1.mono, HS3⟩
          case measure => simp [intOf]; omega
    · by_cases hin2 : i < n
      · have f1 : (i : Int) < (n : Int) := by omega
        have f2 : ¬ (i : Int) < 120 := by omega
        go_upto_region 38 with fail
        clear f1 f2 hin hin2
        go_wp2_with fail
        go_loopw [16] (fun rv wr' => ∃ (r : Nat) (ins' : List Nat) (s' : GS) (v' : Value), r ≤ 4 ∧ rv = .int .i64 r ∧ Hid (SJ i ins' sn wh told s') ∧ Hid (∀ j, j < r → ins'.getD j 0 = 0) ∧ Hid (SM w wr' (w.heap.size + 2) g rb A B v' (.slice wp wh.length wc) s' ins' sn wh)) (fun rv _ => 4 - (intOf rv).toNat)
        case atStart => exact ⟨0, _, _, _, by omega, rfl, HJ, Lib.hid (by omega), HS⟩
        case round =>
          clear HS HJ
          obtain ⟨r, ins', s', v', hr, rfl, HJ, HZ, HS⟩ := hrel
          by_cases hr4 : r < 4
          · have hr0 : (0 : Int) ≤ (r : Int) := by omega
            have hr1 : (r : Int) < 4 := by omega
            go_wp2_with fail
            go_loopw [151] (fun _ wr' => ∃ (q : Nat) (ins' : List Nat) (s' : GS) (v' : Value), Hid (ins'.getD r 0 = q) ∧ Hid (SJ i ins' sn wh told s') ∧ Hid (∀ j, j < r → ins'.getD j 0 = 0) ∧ Hid (SM w wr' (w.heap.size + 2) g rb A B v' (.slice wp wh.length wc) s' ins' sn wh)) (fun _ wr' => ((wr'.cell? ⟨A, r, none⟩).elim 0 intOf).toNat)
            case atStart => exact ⟨_, _, _, _, Lib.hid rfl, HJ, HZ, HS⟩
            case round =>
              clear HS HJ HZ
              obtain ⟨q, ins', s', v', HQ, HJ, HZ, HS⟩ := hrel
              have HRL : Hid (r < ins'.length) := Lib.hid (by rw [HJ.out.li]; omega)
              have cA := HS.out.cA HRL.out
              rw [HQ.out] at cA
              have hqi : q ≤ 120 := by have := HJ.out.ib r hr4; rw [HQ.out] at this; omega
              by_cases h0 : 0 < q
              · obtain ⟨q1, rfl⟩ : ∃ q1, q = q1 + 1 := ⟨q - 1, by omega⟩
                have t1 : ((q1 + 1 : Nat) : Int) > 0 := by omega
                obtain ⟨x, hx1, hx2, hx3⟩ := HJ.out.at (r := r) hr4
                have HLV := Lib.hid (HJ.out.leave (r := r) hr4 hx2 (by omega) (by rw [HQ.out]; omega))
                rw [HQ.out] at hx3
                have HX1 := Lib.hid hx1
                have HX3 := Lib.hid hx3
                have CA := Lib.hid cA
                clear hx1 hx2 hx3
                go_wp2_with (first | (go_at_call 11; refine (HS.out.leave (i := r) HX1.out (by rw [HX3.out]; omega)).mono ?_; rintro e w3 ⟨rfl, y3⟩; have HS3 := Lib.hid y3; clear cA; have cA := y3.cA HRL.out; rw [HQ.out] at cA; have fA := y3.fA; clear y3))
                go_roundw
                case rel =>
                  have t := HS3.out.setA r q1
                  refine ⟨q1, ins'.set r q1, s'.leave r x, v', Lib.hid ?_, Lib.hid ?_, Lib.hid ?_, Lib.hid t⟩
                  · rw [getD_set _ _ _ _ _ HRL.out, if_pos rfl]
                  · have := HLV.out
                    rw [HQ.out] at this
                    exact this
                  · intro j hj
                    rw [getD_set _ _ _ _ _ HRL.out, if_neg (by omega)]
                    exact HZ.out j hj
                case measure =>
                  rw [CA.out, World.cell?_setCell_same _ _ _ cA]
                  simp [intOf]
              · obtain rfl : q = 0 := by omega
                have t1 : ¬ ((0 : Nat) : Int) > 0 := by omega
                go_wp2_with fail
                go_roundw
                case rel =>
                  refine ⟨r + 1, ins', s', v', by omega, by go_num, HJ, Lib.hid fun j hj => ?_, HS⟩
                  by_cases e : j = r
                  · subst e; exact HQ.out
                  · exact HZ.out j (by omega)
                case measure => simp [intOf]; omega
          · obtain rfl : r = 4 := by omega
            have HL := Lib.hid (HJ.out.last HZ.out)
            obtain ⟨O, hO⟩ : ∃ O, outOf s' s'.wt.length = O := ⟨_, rfl⟩
            have HO := Lib.hid hO
            have htot := HL.out.2
            rw [hO] at htot
            have ht : (told : Int) + (O.length : Int) = (wh.length : Int) := by omega
            have hO120 : O.length ≤ 120 := by omega
            clear hO htot
            go_upto_region 45 with (first | (go_at_call 13; refine HS.out.poll.mono ?_; rintro e w3 ⟨v3, ov, rfl, y3, n3⟩; rw [HO.out] at n3; rw [HL.out.1] at y3; have HS3 := Lib.hid y3; obtain ⟨pp, pc, rfl, _⟩ := n3; clear y3))
            have N0 : outOf ({ s' with wt := [] } : GS) ({ s' with wt := [] } : GS).wt.length = [] := by simp [outOf]
            have HN0 := Lib.hid N0
            clear N0
            go_wp2_with (first | (go_at_call 14; refine (waiting_any HS3.out.b.gr).mono ?_; rintro e w4 ⟨ow, rfl, n4, b4⟩; obtain ⟨pw, cw, rfl⟩ : ∃ p c, ow = .slice p 0 c := n4.value; have HS4 := Lib.hid (HS3.out.on b4); clear n4 b4) | (go_at_call 13; refine HS4.out.poll.mono ?_; rintro e w5 ⟨v5, ov5, rfl, y5, n5⟩; rw [HN0.out] at n5; have HB5 := Lib.hid y5.b.bel; obtain ⟨p5, c5, rfl⟩ : ∃ p c, ov5 = .slice p 0 c := (by obtain ⟨p, c, e, _⟩ := n5; exact ⟨p, c, e⟩); clear y5 n5) | (go_at_call 15; refine (known_any _).mono ?_; rintro e w6 ⟨rfl, b6⟩; have HB6 := Lib.hid b6; clear b6))
            go_ret
            exact ⟨rfl, HB5.out.trans (HB6.out.mono HB5.out.size)⟩
      · have f1 : ¬ (i : Int) < (n : Int) := by omega
        go_upto_region 38 with fail
        clear f1 hin hin2
        go_wp2_with fail
        go_loopw [16] (fun rv wr' => ∃ (r : Nat) (ins' : List Nat) (s' : GS) (v' : Value), r ≤ 4 ∧ rv = .int .i64 r ∧ Hid (SJ i ins' sn wh told s') ∧ Hid (∀ j, j < r → ins'.getD j 0 = 0) ∧ Hid (SM w wr' (w.heap.size + 2) g rb A B v' (.slice wp wh.length wc) s' ins' sn wh)) (fun rv _ => 4 - (intOf rv).toNat)
        case atStart => exact ⟨0, _, _, _, by omega, rfl, HJ, Lib.hid (by omega), HS⟩
        case round =>
          clear HS HJ
          obtain ⟨r, ins', s', v', hr, rfl, HJ, HZ, HS⟩ := hrel
          by_cases hr4 : r < 4
          · have hr0 : (0 : Int) ≤ (r : Int) := by omega
            have hr1 : (r : Int) < 4 := by omega
            go_wp2_with fail
            go_loopw [151] (fun _ wr' => ∃ (q : Nat) (ins' : List Nat) (s' : GS) (v' : Value), Hid (ins'.getD r 0 = q) ∧ Hid (SJ i ins' sn wh told s') ∧ Hid (∀ j, j < r → ins'.getD j 0 = 0) ∧ Hid (SM w wr' (w.heap.size + 2) g rb A B v' (.slice wp wh.length wc) s' ins' sn wh)) (fun _ wr' => ((wr'.cell? ⟨A, r, none⟩).elim 0 intOf).toNat)
            case atStart => exact ⟨_, _, _, _, Lib.hid rfl, HJ, HZ, HS⟩
            case round =>
              clear HS HJ HZ
              obtain ⟨q, ins', s', v', HQ, HJ, HZ, HS⟩ := hrel
              have HRL : Hid (r < ins'.length) := Lib.hid (by rw [HJ.out.li]; omega)
              have cA := HS.out.cA HRL.out
              rw [HQ.out] at cA
              have hqi : q ≤ 120 := by have := HJ.out.ib r hr4; rw [HQ.out] at this; omega
              by_cases h0 : 0 < q
              · obtain ⟨q1, rfl⟩ : ∃ q1, q = q1 + 1 := ⟨q - 1, by omega⟩
                have t1 : ((q1 + 1 : Nat) : Int) > 0 := by omega
                obtain ⟨x, hx1, hx2, hx3⟩ := HJ.out.at (r := r) hr4
                have HLV := Lib.hid (HJ.out.leave (r := r) hr4 hx2 (by omega) (by rw [HQ.out]; omega))
                rw [HQ.out] at hx3
                have HX1 := Lib.hid hx1
                have HX3 := Lib.hid hx3
                have CA := Lib.hid cA
                clear hx1 hx2 hx3
                go_wp2_with (first | (go_at_call 11; refine (HS.out.leave (i := r) HX1.out (by rw [HX3.out]; omega)).mono ?_; rintro e w3 ⟨rfl, y3⟩; have HS3 := Lib.hid y3; clear cA; have cA := y3.cA HRL.out; rw [HQ.out] at cA; have fA := y3.fA; clear y3))
                go_roundw
                case rel =>
                  have t := HS3.out.setA r q1
                  refine ⟨q1, ins'.set r q1, s'.leave r x, v', Lib.hid ?_, Lib.hid ?_, Lib.hid ?_, Lib.hid t⟩
                  · rw [getD_set _ _ _ _ _ HRL.out, if_pos rfl]
                  · have := HLV.out
                    rw [HQ.out] at this
                    exact this
                  · intro j hj
                    rw [getD_set _ _ _ _ _ HRL.out, if_neg (by omega)]
                    exact HZ.out j hj
                case measure =>
                  rw [CA.out, World.cell?_setCell_same _ _ _ cA]
                  simp [intOf]
              · obtain rfl : q = 0 := by omega
                have t1 : ¬ ((0 : Nat) : Int) > 0 := by omega
                go_wp2_with fail
                go_roundw
                case rel =>
                  refine ⟨r + 1, ins', s', v', by omega, by go_num, HJ, Lib.hid fun j hj => ?_, HS⟩
                  by_cases e : j = r
                  · subst e; exact HQ.out
                  · exact HZ.out j (by omega)
                case measure => simp [intOf]; omega
          · obtain rfl : r = 4 := by omega
            have HL := Lib.hid (HJ.out.last HZ.out)
            obtain ⟨O, hO⟩ : ∃ O, outOf s' s'.wt.length = O := ⟨_, rfl⟩
            have HO := Lib.hid hO
            have htot := HL.out.2
            rw [hO] at htot
            have ht : (told : Int) + (O.length : Int) = (wh.length : Int) := by omega
            have hO120 : O.length ≤ 120 := by omega
            clear hO htot
            go_upto_region 45 with (first | (go_at_call 13; refine HS.out.poll.mono ?_; rintro e w3 ⟨v3, ov, rfl, y3, n3⟩; rw [HO.out] at n3; rw [HL.out.1] at y3; have HS3 := Lib.hid y3; obtain ⟨pp, pc, rfl, _⟩ := n3; clear y3))
            have N0 : outOf ({ s' with wt := [] } : GS) ({ s' with wt := [] } : GS).wt.length = [] := by simp [outOf]
            have HN0 := Lib.hid N0
            clear N0
            go_wp2_with (first | (go_at_call 14; refine (waiting_any HS3.out.b.gr).mono ?_; rintro e w4 ⟨ow, rfl, n4, b4⟩; obtain ⟨pw, cw, rfl⟩ : ∃ p c, ow = .slice p 0 c := n4.value; have HS4 := Lib.hid (HS3.out.on b4); clear n4 b4) | (go_at_call 13; refine HS4.out.poll.mono ?_; rintro e w5 ⟨v5, ov5, rfl, y5, n5⟩; rw [HN0.out] at n5; have HB5 := Lib.hid y5.b.bel; obtain ⟨p5, c5, rfl⟩ : ∃ p c, ov5 = .slice p 0 c := (by obtain ⟨p, c, e, _⟩ := n5; exact ⟨p, c, e⟩); clear y5 n5) | (go_at_call 15; refine (known_any _).mono ?_; rintro e w6 ⟨rfl, b6⟩; have HB6 := Lib.hid b6; clear b6))
            go_ret
            exact ⟨rfl, HB5.out.trans (HB6.out.mono HB5.out.size)⟩
end Go.Proofs.Ytedfegbafjmkgaa
