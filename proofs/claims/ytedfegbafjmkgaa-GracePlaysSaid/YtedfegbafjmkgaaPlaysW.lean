/- The walk of GracePlays. -/
import Derived.Test.YtedfegbafjmkgaaTwo
import Derived.Test.YtedfegbafjmkgaaFrame
import Derived.Deep.CutBlock
namespace Go.Proofs.Ytedfegbafjmkgaa
open Go.RowKit

set_option maxRecDepth 100000 in
set_option maxHeartbeats 8000000 in
theorem plays_any (n : Int) (a1 : Option Addr) (n1 c1 : Nat) (G : Nat → Nat → Int) (a2 : Option Addr) (n2 c2 : Nat) (F : Nat → Int) (w : World) (hA : Asks w a1 n1 G) (hn1 : n1 ≤ 9223372036854775807) (hR : RowB w a2 n2 F) (hn2 : n2 ≤ 9223372036854775807) :
    Calls Try.prog 7 #[.int .i64 n, .slice a1 n1 c1, .slice a2 n2 c2] w fun e w' => e = .returned (.bool true) ∧ Below w.heap.size w w' := by
  have HA := Lib.hid hA
  have HR := Lib.hid hR
  clear hA hR
  by_cases hbad : n < 1 ∨ 8 < n
  · have HN := Lib.hid (new_no n w hbad)
    rcases hbad with hb | hb
    · go_enter Try.func7, Try.ntmps7
      go_wp2_with (first | (go_at_call 8; refine HN.out.mono ?_; rintro e w1 ⟨rfl, rfl⟩) | (go_at_call 15; refine (known_any _).mono ?_; rintro e w11 ⟨rfl, b11⟩; have HB := Lib.hid b11; clear b11))
      go_ret
      exact ⟨rfl, HB.out⟩
    · have hb0 : ¬ n < 1 := by omega
      go_enter Try.func7, Try.ntmps7
      go_wp2_with (first | (go_at_call 8; refine HN.out.mono ?_; rintro e w1 ⟨rfl, rfl⟩) | (go_at_call 15; refine (known_any _).mono ?_; rintro e w11 ⟨rfl, b11⟩; have HB := Lib.hid b11; clear b11))
      go_ret
      exact ⟨rfl, HB.out⟩
  obtain ⟨N, rfl⟩ : ∃ N : Nat, n = (N : Int) := ⟨n.toNat, by omega⟩
  have hN1 : 1 ≤ N := by omega
  have hN8 : N ≤ 8 := by omega
  have t1 : ¬ (N : Int) < 1 := by omega
  have t2 : ¬ 8 < (N : Int) := by omega
  clear hbad
  have E0 := Lib.hid (new_yes N w hN1 hN8)
  go_enter Try.func7, Try.ntmps7
  go_upto_region 4 with (first | (go_at_call 8; refine E0.out.mono ?_; rintro e w1 ⟨rfl, g1, b1⟩; have G1 := Lib.hid g1; have B1 := Lib.hid b1; clear g1 b1))
  have E1 := Lib.hid (rnew_yes N w1 hN1 hN8)
  go_upto_region 7 with (first | (go_at_call 20; refine E1.out.mono ?_; rintro e w2 ⟨rfl, g2, b2⟩; have T0 := Lib.hid (tw_start G1.out B1.out g2 b2); clear g2 b2))
  clear E0 E1 G1 B1
  have J0 := Lib.hid (PJ.start (n := N))
  obtain ⟨base, hbase⟩ : ∃ z, w1.heap.size + 2 = z := ⟨_, rfl⟩
  obtain ⟨gb, hgb⟩ : ∃ z, w1.heap.size + 1 = z := ⟨_, rfl⟩
  obtain ⟨ib, hib⟩ : ∃ z, w1.heap.size = z := ⟨_, rfl⟩
  obtain ⟨g, hg⟩ : ∃ z, w.heap.size + 1 = z := ⟨_, rfl⟩
  obtain ⟨rb, hrb⟩ : ∃ z, w.heap.size = z := ⟨_, rfl⟩
  rw [hbase, hgb, hib, hg, hrb] at T0
  rw [hgb, hg]
  have HRB := Lib.hid hrb
  clear hbase hgb hib hg hrb
  go_wp2_with fail
  go_loopw [10] (fun iv wr => ∃ (i : Nat) (v u : Value) (s : GS) (t : RS), i ≤ n1 ∧ i ≤ 150 ∧ iv = .int .i64 i ∧ Hid (PJ N i s t) ∧ Hid (Tw w wr base g rb v s gb ib u t [] [])) (fun iv _ => n1 - (intOf iv).toNat)
  case atStart => exact ⟨0, _, _, _, _, by omega, by omega, rfl, J0, T0⟩
  case round =>
    clear J0 T0
    obtain ⟨i, v, u, s, t, hi0, hi1, rfl, HJ, HT⟩ := hrel
    by_cases hin : i < n1 ∧ i < 150
    · obtain ⟨hlt, hlt2⟩ := hin
      have hlt' : (i : Int) < (n1 : Int) := by omega
      have hi0' : (0 : Int) ≤ (i : Int) := by omega
      have hlt2' : (i : Int) < 150 := by omega
      obtain ⟨b, off, rfl, hb, hcell⟩ : ∃ b off, a1 = some ⟨b, off, none⟩ ∧ b < w.heap.size ∧ ∀ j, j < 3 → w.cell? ⟨b, off + i * 3 + j, none⟩ = some (.int .i64 (G i j)) ∧ -9223372036854775808 ≤ G i j ∧ G i j ≤ 9223372036854775807 := by
        rcases HA.out with h | ⟨b, off, h1, h2, h3⟩
        · omega
        · exact ⟨b, off, h1, h2, fun j hj => h3 i j hlt hj⟩
      have e0 : wr.cell? ⟨b, off + i * 3, none⟩ = some (.int .i64 (G i 0)) := (HT.out.bel.cell (p := ⟨b, off + i * 3, none⟩) hb).trans (hcell 0 (by omega)).1
      have e1 : wr.cell? ⟨b, off + i * 3 + 1, none⟩ = some (.int .i64 (G i 1)) := (HT.out.bel.cell (p := ⟨b, off + i * 3 + 1, none⟩) hb).trans (hcell 1 (by omega)).1
      have e2 : wr.cell? ⟨b, off + i * 3 + 2, none⟩ = some (.int .i64 (G i 2)) := (HT.out.bel.cell (p := ⟨b, off + i * 3 + 2, none⟩) hb).trans (hcell 2 (by omega)).1
      obtain ⟨kd, hkd⟩ : ∃ z, G i 0 = z := ⟨_, rfl⟩
      obtain ⟨ra, hra⟩ : ∃ z, G i 1 = z := ⟨_, rfl⟩
      obtain ⟨id, hid⟩ : ∃ z, G i 2 = z := ⟨_, rfl⟩
      rw [hkd] at e0
      rw [hra] at e1
      rw [hid] at e2
      clear hkd hra hid hcell
      go_upto_region 11 with fail
      have HB := Lib.hid (HT.out.bind #[.int .i64 kd, .int .i64 ra, .int .i64 id])
      obtain ⟨w3, hw3⟩ : ∃ w3, wr.alloc (.cells #[.int .i64 kd, .int .i64 ra, .int .i64 id] 31) = w3 := ⟨_, rfl⟩
      obtain ⟨xb, hxb⟩ : ∃ xb, wr.heap.size = xb := ⟨_, rfl⟩
      rw [hw3, hxb] at HB
      rw [hw3, hxb]
      clear hw3 hxb e0 e1 e2 HT
      have IX := HB
      have r0 := (HB.out.var (by simp : (xb, #[Value.int .i64 kd, .int .i64 ra, .int .i64 id]) ∈ _)).1
      have r1 := (HB.out.var (by simp : (xb, #[Value.int .i64 kd, .int .i64 ra, .int .i64 id]) ∈ _)).2.1
      have r2 := (HB.out.var (by simp : (xb, #[Value.int .i64 kd, .int .i64 ra, .int .i64 id]) ∈ _)).2.2
      have hrd := HJ.out.lr
      have hti := HJ.out.li
      go_upto_block 2 with fail
      go_cut [12, 13, 14, 15] (fun _ _ _ _ wx => Hid (∃ v u s t, PJ N (i + 1) s t ∧ Tw w wx base g rb v s gb ib u t [(xb, #[.int .i64 kd, .int .i64 ra, .int .i64 id])] []))
      case first =>
        by_cases k1 : kd = 1
        · subst k1
          by_cases hr : 0 ≤ ra ∧ ra < (N : Int)
          · obtain ⟨R, rfl⟩ : ∃ R : Nat, ra = (R : Int) := ⟨ra.toNat, by omega⟩
            have hRN : R < N := by omega
            have HRT : Hid (R < t.ins.length) := Lib.hid (by omega)
            obtain ⟨x, hx1, hx2, hx3⟩ := HJ.out.at hRN
            have HX1 := Lib.hid hx1
            have HX2 := Lib.hid hx2
            have HX3 := Lib.hid hx3
            clear hx1 hx2 hx3 hr
            have HEN := Lib.hid (HJ.out.enter hRN HX2.out (by omega))
            go_wp2_with fail
            go_region_held3 (fun w' => w'.cell? ⟨xb, 1, none⟩ = some (.int .i64 (R : Int))) (first | exact r1) (first | (go_at_call 10; (first | refine (IX.out.enter HX1.out).mono ?_ | refine (IX.out.drew.enter HX1.out).mono ?_); rintro e wn ⟨rfl, inn⟩; have IX := Lib.hid inn; have r1 := (inn.var (by simp : (xb, #[Value.int .i64 1, .int .i64 (R : Int), .int .i64 id]) ∈ _)).2.1; clear inn) | (go_at_call 21; (first | refine (IX.out.renter HRT.out).mono ?_ | refine (IX.out.drew.renter HRT.out).mono ?_); rintro e wn ⟨rfl, inn⟩; have IX := Lib.hid inn; have r1 := (inn.var (by simp : (xb, #[Value.int .i64 1, .int .i64 (R : Int), .int .i64 id]) ∈ _)).2.1; clear inn))
            all_goals
              go_wp2_with fail
              go_meet
              exact ⟨_, _, _, _, HEN.out, IX.out⟩
          · have HNR : Hid (¬ (0 ≤ ra ∧ ra < (s.rd.length : Int))) := Lib.hid (by rw [hrd]; exact hr)
            have HNT : Hid (¬ (0 ≤ ra ∧ ra < (t.ins.length : Int))) := Lib.hid (by rw [hti]; exact hr)
            clear hr
            go_wp2_with fail
            go_region_held3 (fun w' => w'.cell? ⟨xb, 1, none⟩ = some (.int .i64 ra)) (first | exact r1) (first | (go_at_call 10; (first | refine (enter_no IX.out.gr HNR.out).mono ?_ | refine (enter_no IX.out.drew.gr HNR.out).mono ?_); rintro e wn ⟨rfl, rfl⟩) | (go_at_call 21; (first | refine (renter_no IX.out.rf HNT.out).mono ?_ | refine (renter_no IX.out.drew.rf HNT.out).mono ?_); rintro e wn ⟨rfl, rfl⟩))
            all_goals
              go_wp2_with fail
              go_meet
              exact ⟨_, _, _, _, HJ.out.mono, IX.out.drew⟩
        have d1 : (kd == 1) = false := by simpa using k1
        by_cases k2 : kd = 2
        · subst k2
          by_cases hr : 0 ≤ ra ∧ ra < (N : Int)
          · obtain ⟨R, rfl⟩ : ∃ R : Nat, ra = (R : Int) := ⟨ra.toNat, by omega⟩
            have hRN : R < N := by omega
            have HRT : Hid (R < t.ins.length) := Lib.hid (by omega)
            obtain ⟨x, hx1, hx2, hx3⟩ := HJ.out.at hRN
            have HX1 := Lib.hid hx1
            have HX2 := Lib.hid hx2
            have HX3 := Lib.hid hx3
            clear hx1 hx2 hx3 hr
            by_cases h0 : x.1 = 0
            · have H0 := Lib.hid h0
              have HT0 : Hid (t.ins.getD R 0 = 0) := Lib.hid (HX3.out.trans h0)
              clear h0
              go_wp2_with fail
              go_region_held3 (fun w' => w'.cell? ⟨xb, 1, none⟩ = some (.int .i64 (R : Int))) (first | exact r1) (first | (go_at_call 11; (first | refine (leave_past IX.out.gr HX1.out H0.out).mono ?_ | refine (leave_past IX.out.drew.gr HX1.out H0.out).mono ?_); rintro e wn ⟨rfl, rfl⟩) | (go_at_call 22; (first | refine (rleave_past IX.out.rf HRT.out HT0.out).mono ?_ | refine (rleave_past IX.out.drew.rf HRT.out HT0.out).mono ?_); rintro e wn ⟨rfl, rfl⟩))
              all_goals
                go_wp2_with fail
                go_meet
                exact ⟨_, _, _, _, HJ.out.mono, IX.out.drew⟩
            · have H0 : Hid (x.1 ≠ 0) := Lib.hid h0
              have HT0 : Hid (t.ins.getD R 0 ≠ 0) := Lib.hid (by rw [HX3.out]; exact h0)
              clear h0
              have HLV := Lib.hid (HJ.out.leave hRN HX2.out (by omega) H0.out)
              go_wp2_with fail
              go_region_held3 (fun w' => w'.cell? ⟨xb, 1, none⟩ = some (.int .i64 (R : Int))) (first | exact r1) (first | (go_at_call 11; (first | refine (IX.out.leave HX1.out H0.out).mono ?_ | refine (IX.out.drew.leave HX1.out H0.out).mono ?_); rintro e wn ⟨rfl, inn⟩; have IX := Lib.hid inn; have r1 := (inn.var (by simp : (xb, #[Value.int .i64 2, .int .i64 (R : Int), .int .i64 id]) ∈ _)).2.1; clear inn) | (go_at_call 22; (first | refine (IX.out.rleave HRT.out HT0.out).mono ?_ | refine (IX.out.drew.rleave HRT.out HT0.out).mono ?_); rintro e wn ⟨rfl, inn⟩; have IX := Lib.hid inn; have r1 := (inn.var (by simp : (xb, #[Value.int .i64 2, .int .i64 (R : Int), .int .i64 id]) ∈ _)).2.1; clear inn))
              all_goals
                go_wp2_with fail
                go_meet
                exact ⟨_, _, _, _, HLV.out.mono, IX.out⟩
          · have HNR : Hid (¬ (0 ≤ ra ∧ ra < (s.rd.length : Int))) := Lib.hid (by rw [hrd]; exact hr)
            have HNT : Hid (¬ (0 ≤ ra ∧ ra < (t.ins.length : Int))) := Lib.hid (by rw [hti]; exact hr)
            clear hr
            go_wp2_with fail
            go_region_held3 (fun w' => w'.cell? ⟨xb, 1, none⟩ = some (.int .i64 ra)) (first | exact r1) (first | (go_at_call 11; (first | refine (leave_no IX.out.gr HNR.out).mono ?_ | refine (leave_no IX.out.drew.gr HNR.out).mono ?_); rintro e wn ⟨rfl, rfl⟩) | (go_at_call 22; (first | refine (rleave_no IX.out.rf HNT.out).mono ?_ | refine (rleave_no IX.out.drew.rf HNT.out).mono ?_); rintro e wn ⟨rfl, rfl⟩))
            all_goals
              go_wp2_with fail
              go_meet
              exact ⟨_, _, _, _, HJ.out.mono, IX.out.drew⟩
        have d2 : (kd == 2) = false := by simpa using k2
        by_cases k3 : kd = 3
        · subst k3
          have hlen := HJ.out.wt.length
          by_cases hm : s.wt.length < 16
          · have HM := Lib.hid hm
            have HMT : Hid (t.l.length < 16) := Lib.hid (by omega)
            have hno := HJ.out.none
            obtain ⟨nb, hnb⟩ : ∃ nb, noneTo t.ins t.ins.length = nb := ⟨_, rfl⟩
            rw [hnb] at hno
            have HNO := Lib.hid hno
            have HNB := Lib.hid hnb
            clear hno hnb hm hlen
            cases nb
            all_goals
              go_wp2_with (first | (go_at_call 12; refine (IX.out.push (id := id) HM.out).mono ?_; rintro e wn ⟨sv, v', rfl, inn⟩; rw [HNO.out]; have IX := Lib.hid inn; have r2 := (inn.var (by simp : (xb, #[Value.int .i64 3, .int .i64 ra, .int .i64 id]) ∈ _)).2.2; clear inn) | (go_at_call 23; refine (IX.out.rpush (id := id) HMT.out).mono ?_; rintro e wn ⟨rv, u', rfl, inn⟩; rw [HNB.out]; have IX := Lib.hid inn; clear inn))
              go_meet
              exact ⟨_, _, _, _, (HJ.out.defer id _ _).mono, IX.out⟩
          · have HM : Hid (16 ≤ s.wt.length) := Lib.hid (by omega)
            have HMT : Hid (16 ≤ t.l.length) := Lib.hid (by omega)
            clear hm hlen
            go_wp2_with (first | (go_at_call 12; refine (defer_full IX.out.gr (id := id) HM.out).mono ?_; rintro e wn ⟨rfl, rfl⟩) | (go_at_call 23; refine (rdefer_full IX.out.rf (id := id) HMT.out).mono ?_; rintro e wn ⟨rfl, rfl⟩))
            go_meet
            exact ⟨_, _, _, _, HJ.out.mono, IX.out⟩
        · have d3 : (kd == 3) = false := by simpa using k3
          have HPO := Lib.hid HJ.out.poll
          go_wp2_with (first | (go_at_call 13; refine (IX.out.poll).mono ?_; rintro e wn ⟨v', ov, rfl, inn⟩; have IX := Lib.hid inn; clear inn) | (go_at_call 24; refine (IX.out.rpoll).mono ?_; rintro e wn ⟨u', ov2, rfl, inn⟩; rw [← HPO.out.2] at inn; have IX := Lib.hid inn; clear inn) | (go_at_call 16; refine (IX.out.same16).mono ?_; rintro e wn ⟨rfl, inn⟩; have IX := Lib.hid inn; clear inn))
          go_meet
          exact ⟨_, _, _, _, HPO.out.1.mono, IX.out⟩
      case rest =>
        clear HJ HB r0 r1 r2 IX hrd hti
        obtain ⟨v, u, s, t, hj, ht⟩ := hcut.out
        have HJ := Lib.hid hj
        have IX := Lib.hid ht
        have r2 := (ht.var (by simp : (xb, #[Value.int .i64 kd, .int .i64 ra, .int .i64 id]) ∈ _)).2.2
        clear hj ht hcut
        go_wp2_with fail
        go_region_held3 (fun w' => w'.cell? ⟨xb, 2, none⟩ = some (.int .i64 id)) (first | exact r2) (first | (go_at_call 14; (first | refine (IX.out.waits).mono ?_ | refine (IX.out.drew.waits).mono ?_); rintro e wn ⟨ov, rfl, inn⟩; have IX := Lib.hid inn; have r2 := (inn.var (by simp : (xb, #[Value.int .i64 kd, .int .i64 ra, .int .i64 id]) ∈ _)).2.2; clear inn) | (go_at_call 25; (first | refine (IX.out.rwaits).mono ?_ | refine (IX.out.drew.rwaits).mono ?_); rintro e wn ⟨ov, rfl, inn⟩; rw [← HJ.out.waits] at inn; have IX := Lib.hid inn; have r2 := (inn.var (by simp : (xb, #[Value.int .i64 kd, .int .i64 ra, .int .i64 id]) ∈ _)).2.2; clear inn) | (go_at_call 16; (first | refine (IX.out.same16).mono ?_ | refine (IX.out.drew.same16).mono ?_); rintro e wn ⟨rfl, inn⟩; have IX := Lib.hid inn; have r2 := (inn.var (by simp : (xb, #[Value.int .i64 kd, .int .i64 ra, .int .i64 id]) ∈ _)).2.2; clear inn) | (go_at_call 19; (first | refine (IX.out.insides).mono ?_ | refine (IX.out.drew.insides).mono ?_); rintro e wn ⟨ov, rfl, inn⟩; have IX := Lib.hid inn; have r2 := (inn.var (by simp : (xb, #[Value.int .i64 kd, .int .i64 ra, .int .i64 id]) ∈ _)).2.2; clear inn) | (go_at_call 26; (first | refine (IX.out.rinsides).mono ?_ | refine (IX.out.drew.rinsides).mono ?_); rintro e wn ⟨ov, rfl, inn⟩; rw [← HJ.out.inside] at inn; have IX := Lib.hid inn; have r2 := (inn.var (by simp : (xb, #[Value.int .i64 kd, .int .i64 ra, .int .i64 id]) ∈ _)).2.2; clear inn) | (go_at_call 17; (first | refine (IX.out.same17).mono ?_ | refine (IX.out.drew.same17).mono ?_); rintro e wn ⟨rfl, inn⟩; have IX := Lib.hid inn; have r2 := (inn.var (by simp : (xb, #[Value.int .i64 kd, .int .i64 ra, .int .i64 id]) ∈ _)).2.2; clear inn) | (go_at_call 18; (first | refine (IX.out.blocks id).mono ?_ | refine (IX.out.drew.blocks id).mono ?_); rintro e wn ⟨ov, rfl, inn⟩; have IX := Lib.hid inn; have r2 := (inn.var (by simp : (xb, #[Value.int .i64 kd, .int .i64 ra, .int .i64 id]) ∈ _)).2.2; clear inn) | (go_at_call 27; (first | refine (IX.out.rblocks id).mono ?_ | refine (IX.out.drew.rblocks id).mono ?_); rintro e wn ⟨ov, rfl, inn⟩; rw [← HJ.out.blocks id] at inn; have IX := Lib.hid inn; have r2 := (inn.var (by simp : (xb, #[Value.int .i64 kd, .int .i64 ra, .int .i64 id]) ∈ _)).2.2; clear inn))
        all_goals
          go_wp2_with fail
          go_roundw
          case rel => exact ⟨i + 1, v, u, s, t, by omega, by omega, by go_num, HJ, Lib.hid (by first | exact IX.out.bare | exact IX.out.drew.bare)⟩
          case measure => simp [intOf]; omega
    · by_cases hin2 : i < n1
      · have f1 : (i : Int) < (n1 : Int) := by omega
        have f2 : ¬ (i : Int) < 150 := by omega
        go_upto_region 27 with fail
        clear f1 f2 hin hin2
        go_wp2_with fail
        go_loopw [16] (fun iv wr => ∃ k : Nat, k ≤ n2 ∧ k ≤ 20 ∧ iv = .int .i64 k ∧ Hid (Tw w wr base g rb v s gb ib u t [] [])) (fun iv _ => n2 - (intOf iv).toNat)
        case atStart => exact ⟨0, by omega, by omega, rfl, HT⟩
        case round =>
          clear HT
          obtain ⟨k, hk0, hk1, rfl, HT⟩ := hrel
          by_cases hin : k < n2 ∧ k < 20
          · obtain ⟨hlt, hlt2⟩ := hin
            have hk2 : (k : Int) < (n2 : Int) := by omega
            have hk3 : (0 : Int) ≤ (k : Int) := by omega
            have hk4 : (k : Int) < 20 := by omega
            obtain ⟨rb2, ro, rfl, hrl, hrc⟩ : ∃ b off, a2 = some ⟨b, off, none⟩ ∧ b < w.heap.size ∧ w.cell? ⟨b, off + k, none⟩ = some (.int .i64 (F k)) := by
              rcases HR.out with h | ⟨b, off, h1, h2, h3⟩
              · omega
              · exact ⟨b, off, h1, h2, (h3 k hlt).1⟩
            obtain ⟨z, hz⟩ : ∃ z, F k = z := ⟨_, rfl⟩
            rw [hz] at hrc
            clear hz
            have c5 := (HT.out.bel.cell (p := ⟨rb2, ro + k, none⟩) hrl).trans hrc
            have IX := HT
            go_wp2_with fail
            go_region_held3 (fun w' => w'.cell? ⟨rb2, ro + k, none⟩ = some (.int .i64 z)) (first | exact c5) (first | (go_at_call 18; (first | refine (IX.out.blocks z).mono ?_ | refine (IX.out.drew.blocks z).mono ?_); rintro e wn ⟨ov, rfl, inn⟩; have IX := Lib.hid inn; have c5 := (inn.bel.cell (p := ⟨rb2, ro + k, none⟩) hrl).trans hrc; clear inn) | (go_at_call 27; (first | refine (IX.out.rblocks z).mono ?_ | refine (IX.out.drew.rblocks z).mono ?_); rintro e wn ⟨ov, rfl, inn⟩; rw [← HJ.out.blocks z] at inn; have IX := Lib.hid inn; have c5 := (inn.bel.cell (p := ⟨rb2, ro + k, none⟩) hrl).trans hrc; clear inn) | (go_at_call 17; (first | refine (IX.out.same17).mono ?_ | refine (IX.out.drew.same17).mono ?_); rintro e wn ⟨rfl, inn⟩; have IX := Lib.hid inn; have c5 := (inn.bel.cell (p := ⟨rb2, ro + k, none⟩) hrl).trans hrc; clear inn))
            all_goals
              go_wp2_with fail
              go_roundw
              case rel => exact ⟨k + 1, by omega, by omega, by go_num, Lib.hid (by first | exact IX.out | exact IX.out.drew)⟩
              case measure => simp [intOf]; omega
          · by_cases hin2 : k < n2
            · have f1 : (k : Int) < (n2 : Int) := by omega
              have f2 : ¬ (k : Int) < 20 := by omega
              go_wp2_with (first | (go_at_call 15; refine (HT.out.known).mono ?_; rintro e w11 ⟨rfl, inn⟩; have IX := Lib.hid inn; clear inn))
              go_ret
              exact ⟨rfl, IX.out.bel⟩
            · have f1 : ¬ (k : Int) < (n2 : Int) := by omega
              go_wp2_with (first | (go_at_call 15; refine (HT.out.known).mono ?_; rintro e w11 ⟨rfl, inn⟩; have IX := Lib.hid inn; clear inn))
              go_ret
              exact ⟨rfl, IX.out.bel⟩
      · have f1 : ¬ (i : Int) < (n1 : Int) := by omega
        go_upto_region 27 with fail
        clear f1 hin hin2
        go_wp2_with fail
        go_loopw [16] (fun iv wr => ∃ k : Nat, k ≤ n2 ∧ k ≤ 20 ∧ iv = .int .i64 k ∧ Hid (Tw w wr base g rb v s gb ib u t [] [])) (fun iv _ => n2 - (intOf iv).toNat)
        case atStart => exact ⟨0, by omega, by omega, rfl, HT⟩
        case round =>
          clear HT
          obtain ⟨k, hk0, hk1, rfl, HT⟩ := hrel
          by_cases hin : k < n2 ∧ k < 20
          · obtain ⟨hlt, hlt2⟩ := hin
            have hk2 : (k : Int) < (n2 : Int) := by omega
            have hk3 : (0 : Int) ≤ (k : Int) := by omega
            have hk4 : (k : Int) < 20 := by omega
            obtain ⟨rb2, ro, rfl, hrl, hrc⟩ : ∃ b off, a2 = some ⟨b, off, none⟩ ∧ b < w.heap.size ∧ w.cell? ⟨b, off + k, none⟩ = some (.int .i64 (F k)) := by
              rcases HR.out with h | ⟨b, off, h1, h2, h3⟩
              · omega
              · exact ⟨b, off, h1, h2, (h3 k hlt).1⟩
            obtain ⟨z, hz⟩ : ∃ z, F k = z := ⟨_, rfl⟩
            rw [hz] at hrc
            clear hz
            have c5 := (HT.out.bel.cell (p := ⟨rb2, ro + k, none⟩) hrl).trans hrc
            have IX := HT
            go_wp2_with fail
            go_region_held3 (fun w' => w'.cell? ⟨rb2, ro + k, none⟩ = some (.int .i64 z)) (first | exact c5) (first | (go_at_call 18; (first | refine (IX.out.blocks z).mono ?_ | refine (IX.out.drew.blocks z).mono ?_); rintro e wn ⟨ov, rfl, inn⟩; have IX := Lib.hid inn; have c5 := (inn.bel.cell (p := ⟨rb2, ro + k, none⟩) hrl).trans hrc; clear inn) | (go_at_call 27; (first | refine (IX.out.rblocks z).mono ?_ | refine (IX.out.drew.rblocks z).mono ?_); rintro e wn ⟨ov, rfl, inn⟩; rw [← HJ.out.blocks z] at inn; have IX := Lib.hid inn; have c5 := (inn.bel.cell (p := ⟨rb2, ro + k, none⟩) hrl).trans hrc; clear inn) | (go_at_call 17; (first | refine (IX.out.same17).mono ?_ | refine (IX.out.drew.same17).mono ?_); rintro e wn ⟨rfl, inn⟩; have IX := Lib.hid inn; have c5 := (inn.bel.cell (p := ⟨rb2, ro + k, none⟩) hrl).trans hrc; clear inn))
            all_goals
              go_wp2_with fail
              go_roundw
              case rel => exact ⟨k + 1, by omega, by omega, by go_num, Lib.hid (by first | exact IX.out | exact IX.out.drew)⟩
              case measure => simp [intOf]; omega
          · by_cases hin2 : k < n2
            · have f1 : (k : Int) < (n2 : Int) := by omega
              have f2 : ¬ (k : Int) < 20 := by omega
              go_wp2_with (first | (go_at_call 15; refine (HT.out.known).mono ?_; rintro e w11 ⟨rfl, inn⟩; have IX := Lib.hid inn; clear inn))
              go_ret
              exact ⟨rfl, IX.out.bel⟩
            · have f1 : ¬ (k : Int) < (n2 : Int) := by omega
              go_wp2_with (first | (go_at_call 15; refine (HT.out.known).mono ?_; rintro e w11 ⟨rfl, inn⟩; have IX := Lib.hid inn; clear inn))
              go_ret
              exact ⟨rfl, IX.out.bel⟩
end Go.Proofs.Ytedfegbafjmkgaa
