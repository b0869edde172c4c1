/- The walk of SpinPairs. -/
import Derived.Test.YtmhmgenchpemkaaFair
import Derived.BigQuiet
namespace Go.Proofs.Ytmhmgenchpemkaa
open Go.RowKit

theorem below_draws {B : Nat} {a w : World} (h : Below B a w) (n : Nat) : Below B a (w.drewN n) := h.trans ⟨rfl, rfl, rfl, Nat.le_refl _, fun _ _ => rfl⟩
set_option maxRecDepth 100000 in
set_option maxHeartbeats 4000000 in
theorem pairs_any (n m k : Int) (a : Option Addr) (len cap : Nat) (fp : Nat → Int) (w : World) (h1 : -9223372036854775808 ≤ n) (h2 : n ≤ 9223372036854775807) (h3 : -9223372036854775808 ≤ m) (h4 : m ≤ 9223372036854775807) (h5 : -9223372036854775808 ≤ k) (h6 : k ≤ 9223372036854775807) (hr : RowB w a len fp) (_hlen : len ≤ 9223372036854775807) :
    Calls Try.prog 8 #[.int .i64 n, .int .i64 m, .int .i64 k, .slice a len cap] w fun e w' => e = .returned (.bool true) ∧ Below w.heap.size w w' := by
  obtain ⟨A, hA, hA0⟩ := within_nat (lo := 0) (hi := 4) (n := n) (by decide) rfl
  obtain ⟨R, hR, hR0⟩ := within_nat (lo := 0) (hi := 3) (n := m) (by decide) rfl
  obtain ⟨K, hK, hK0⟩ := within_nat (lo := 0) (hi := 5) (n := k) (by decide) rfl
  have E1 := Lib.hid (within_any n 0 4 w h1 h2 (by omega) (by omega) (by omega))
  have E2 := Lib.hid (within_any m 0 3 w h3 h4 (by omega) (by omega) (by omega))
  have E3 : Hid (∀ W : World, Calls Try.prog 9 #[.int .i64 k, .int .i64 0, .int .i64 5] W fun e w' => e = .returned (.int .i64 K) ∧ W = w') := Lib.hid (fun W => by
    have := within_any k 0 5 W h5 h6 (by omega) (by omega) (by omega)
    rwa [hK] at this)
  rw [hA] at E1
  rw [hR] at E2
  have HR := Lib.hid hr
  clear hA hK hR h1 h2 h3 h4 h5 h6 hr
  go_enter Try.func8, Try.ntmps8
  go_upto_region 2 with (first | (go_at_call 9; refine E1.out.mono ?_; rintro e w1 ⟨rfl, rfl⟩))
  go_upto_region 3 with (first | (go_at_call 9; refine E2.out.mono ?_; rintro e w1 ⟨rfl, rfl⟩))
  go_upto_region 4 with (first | (go_at_call 10; refine (new_int 3 w (by omega) (by omega)).mono ?_; rintro e w1 ⟨rfl, m1, B1⟩))
  have M1 : Hid (IsMem w1 (w.heap.size + 1) w.heap.size (MS.new 3)) := Lib.hid m1
  have HB1 := Lib.hid B1
  obtain ⟨b, hb⟩ : ∃ b, w.heap.size + 1 = b := ⟨_, rfl⟩
  obtain ⟨c, hc⟩ : ∃ c, w.heap.size = c := ⟨_, rfl⟩
  rw [hb, hc] at M1
  rw [hb]
  have HL : Hid (w.heap.size ≤ b ∧ w.heap.size ≤ c ∧ b < w1.heap.size ∧ c < w1.heap.size) := Lib.hid ⟨by omega, by omega, M1.out.hb.lt, M1.out.hc.lt⟩
  clear m1 B1 hb hc E1 E2
  obtain ⟨i29, hi, hz0, hz1, hz2⟩ := info_parts info29
  go_wp2_with fail
  go_loopw [11, 12] (fun jv iv wr => ∃ m : Nat, m ≤ A + R ∧ iv = .int .i64 m ∧ Hid (Win wr w1.heap.size 29 5 jv m (jcells ((List.range m).map (pjob A K)))) ∧ Hid (Below w.heap.size w wr) ∧ Hid (IsMem wr b c (MS.new 3)) ∧ Hid (w1.heap.size ≤ wr.heap.size)) (fun _ iv _ => A + R - (intOf iv).toNat)
  case atStart => exact ⟨0, by omega, rfl, Lib.hid (by simpa [jcells] using Win.nil _ _ 29 5), HB1, M1, Lib.hid (Nat.le_refl _)⟩
  case round =>
    obtain ⟨m, hm, rfl, HW, HB, HM, HS⟩ := hrel
    by_cases hlt : m < A + R
    · have hlt' : (m : Int) < (A : Int) + (R : Int) := by omega
      by_cases hmA : m < A
      · have hmA' : (m : Int) < (A : Int) := by omega
        have HJ : Hid (pjob A K m = ⟨2, 0, K, 10 + m, 110 + m⟩) := Lib.hid (by rw [pjob, if_pos hmA]; simp)
        go_upto_region 11 with (first | (go_at_call 9; refine (E3.out _).mono ?_; rintro e w2 ⟨rfl, rfl⟩))
        go_upto_region 13 with (first | (go_at_call 9; refine (E3.out _).mono ?_; rintro e w2 ⟨rfl, rfl⟩))
        obtain ⟨w3, hw3⟩ : ∃ w3, wr.alloc (.cells #[.int .i64 2, .int .i64 0, .int .i64 K, .int .i64 (10 + (m : Int)), .int .i64 (110 + (m : Int))] 29) = w3 := ⟨_, rfl⟩
        rw [hw3]
        have B3 : Below wr.heap.size wr w3 := by rw [← hw3]; exact (Below.refl _ _).alloc (Nat.le_refl _) _
        have HW3 := Lib.hid (HW.out.below B3)
        have HB3 := Lib.hid (HB.out.trans (B3.mono HB.out.size))
        have HM3 := Lib.hid (HM.out.frm (l := []) (.of_below B3) (by simp) (by simp))
        have hs := HS.out
        have hs3 : w1.heap.size ≤ w3.heap.size := Nat.le_trans hs B3.size
        have j0 : w3.cell? ⟨wr.heap.size, 0, none⟩ = some (.int .i64 2) := by rw [← hw3]; simp
        have j1 : w3.cell? ⟨wr.heap.size, 1, none⟩ = some (.int .i64 0) := by rw [← hw3]; simp
        have j2 : w3.cell? ⟨wr.heap.size, 2, none⟩ = some (.int .i64 K) := by rw [← hw3]; simp
        have j3 : w3.cell? ⟨wr.heap.size, 3, none⟩ = some (.int .i64 (10 + (m : Int))) := by rw [← hw3]; simp
        have j4 : w3.cell? ⟨wr.heap.size, 4, none⟩ = some (.int .i64 (110 + (m : Int))) := by rw [← hw3]; simp
        obtain ⟨J, hJ⟩ : ∃ J, wr.heap.size = J := ⟨_, rfl⟩
        rw [hJ] at j0 j1 j2 j3 j4 ⊢
        clear hw3 B3 hJ HW HB HM HS hs
        go_wp2_with (first | (at_builtin; go_must (refine wpList_append_win _ rfl (.tmp 53) (.tmp 55) 27 rfl w1.heap.size 29 i29 _ 5 40 Try.underlying27 hi hz0 hz1 hz2 rfl (by decide) u11 m (jcells ((List.range m).map (pjob A K))) (by simp [Act.eval]) (HW3.out.alloc _) ⟨w3.heap.size, 0, none⟩ 1 1 [.int .i64 2, .int .i64 0, .int .i64 K, .int .i64 (10 + (m : Int)), .int .i64 (110 + (m : Int))] (by simp [Act.eval]) rfl (new_cells w3 [.int .i64 2, .int .i64 0, .int .i64 K, .int .i64 (10 + (m : Int)), .int .i64 (110 + (m : Int))] _) (by simp [Value.oneCell']) (by decide) (by unfold maxLen; omega) (by omega) (by simp; omega) ?_); intro f' o' cap' w4 hown hgrow hat; have HO := Lib.hid hown; have HG := Lib.hid hgrow; clear hown hgrow hat))
        go_roundw
        case rel =>
          refine ⟨m + 1, by omega, by go_num, Lib.hid ?_, Lib.hid ?_, Lib.hid ?_, Lib.hid ?_⟩
          · rw [List.range_succ, List.map_append, List.map_singleton, jcells_snoc, HJ.out]; exact HO.out
          · have := HL.out
            exact grown_below HB3.out HB3.out.size (HW3.out.of_base (by omega)) HG.out
          · exact mem_grown HM3.out HW3.out HL.out.2.2.1 HL.out.2.2.2 HG.out
          · have := HG.out.size
            simp at this; omega
        case measure => simp [intOf]; omega
      · have hmA' : ¬ (m : Int) < (A : Int) := by omega
        have HJ : Hid (pjob A K m = ⟨3, 0, K, 0, 0⟩) := Lib.hid (by rw [pjob, if_neg hmA])
        go_upto_region 11 with (first | (go_at_call 9; refine (E3.out _).mono ?_; rintro e w2 ⟨rfl, rfl⟩))
        go_upto_region 13 with fail
        obtain ⟨w3, hw3⟩ : ∃ w3, wr.alloc (.cells #[.int .i64 3, .int .i64 0, .int .i64 K, .int .i64 0, .int .i64 0] 29) = w3 := ⟨_, rfl⟩
        rw [hw3]
        have B3 : Below wr.heap.size wr w3 := by rw [← hw3]; exact (Below.refl _ _).alloc (Nat.le_refl _) _
        have HW3 := Lib.hid (HW.out.below B3)
        have HB3 := Lib.hid (HB.out.trans (B3.mono HB.out.size))
        have HM3 := Lib.hid (HM.out.frm (l := []) (.of_below B3) (by simp) (by simp))
        have hs := HS.out
        have hs3 : w1.heap.size ≤ w3.heap.size := Nat.le_trans hs B3.size
        have j0 : w3.cell? ⟨wr.heap.size, 0, none⟩ = some (.int .i64 3) := by rw [← hw3]; simp
        have j1 : w3.cell? ⟨wr.heap.size, 1, none⟩ = some (.int .i64 0) := by rw [← hw3]; simp
        have j2 : w3.cell? ⟨wr.heap.size, 2, none⟩ = some (.int .i64 K) := by rw [← hw3]; simp
        have j3 : w3.cell? ⟨wr.heap.size, 3, none⟩ = some (.int .i64 0) := by rw [← hw3]; simp
        have j4 : w3.cell? ⟨wr.heap.size, 4, none⟩ = some (.int .i64 0) := by rw [← hw3]; simp
        obtain ⟨J, hJ⟩ : ∃ J, wr.heap.size = J := ⟨_, rfl⟩
        rw [hJ] at j0 j1 j2 j3 j4 ⊢
        clear hw3 B3 hJ HW HB HM HS hs
        go_wp2_with (first | (at_builtin; go_must (refine wpList_append_win _ rfl (.tmp 53) (.tmp 55) 27 rfl w1.heap.size 29 i29 _ 5 40 Try.underlying27 hi hz0 hz1 hz2 rfl (by decide) u11 m (jcells ((List.range m).map (pjob A K))) (by simp [Act.eval]) (HW3.out.alloc _) ⟨w3.heap.size, 0, none⟩ 1 1 [.int .i64 3, .int .i64 0, .int .i64 K, .int .i64 0, .int .i64 0] (by simp [Act.eval]) rfl (new_cells w3 [.int .i64 3, .int .i64 0, .int .i64 K, .int .i64 0, .int .i64 0] _) (by simp [Value.oneCell']) (by decide) (by unfold maxLen; omega) (by omega) (by simp; omega) ?_); intro f' o' cap' w4 hown hgrow hat; have HO := Lib.hid hown; have HG := Lib.hid hgrow; clear hown hgrow hat))
        go_roundw
        case rel =>
          refine ⟨m + 1, by omega, by go_num, Lib.hid ?_, Lib.hid ?_, Lib.hid ?_, Lib.hid ?_⟩
          · rw [List.range_succ, List.map_append, List.map_singleton, jcells_snoc, HJ.out]; exact HO.out
          · have := HL.out
            exact grown_below HB3.out HB3.out.size (HW3.out.of_base (by omega)) HG.out
          · exact mem_grown HM3.out HW3.out HL.out.2.2.1 HL.out.2.2.2 HG.out
          · have := HG.out.size
            simp at this; omega
        case measure => simp [intOf]; omega
    · obtain rfl : m = A + R := by omega
      have hlt' : ¬ ((A + R : Nat) : Int) < (A : Int) + (R : Int) := by omega
      have hst : Hid (((MS.new 3).store 2 100).1 = 0 ∧ ((MS.new 3).store 2 100).2.ws = [0, 0, 100]) := Lib.hid (by decide +kernel)
      go_upto_region 15 with (first | (go_at_call 26; refine (store_any _ _ _ _ _ _ HM.out).mono ?_; rintro e w2 ⟨rfl, m2, f2⟩; have M2 := Lib.hid m2; have B2 := Lib.hid (HB.out.trans (f2.below HB.out.size (by have := HL.out; simp; omega))); have HW2 := Lib.hid (HW.out.frm f2 (by have := HL.out; intro q hq hown; have := (HW.out.lt q hown).1; simp at hq; omega)); clear m2 f2))
      have hsys := sys_new (js := (List.range (A + R)).map (pjob A K)) (s := ((MS.new 3).store 2 100).2) (v := u11) M2.out (HW2.out.jobs (by simp)) B2.out HL.out.1 HL.out.2.1 (by simp; omega) (by
        rw [hst.out.2, List.any_eq_false]
        intro j hj
        obtain ⟨q, _, rfl⟩ := List.mem_map.1 hj
        have e1' : wrap64 1 = 1 := by unfold wrap64; omega
        have e2' : wrap64 2 = 2 := by unfold wrap64; omega
        unfold pjob
        split <;> simp [Jb.ok, hasI, e1', e2'] <;> omega)
      have HY := Lib.hid hsys
      clear hsys HW HM M1 HB1 HB HW2 B2 M2 HS
      go_wp2_with (first | (go_at_call 11; refine HY.out.mono ?_; rintro e w3 ⟨r, f, o, cap', v', rfl, y1⟩; have Y1 := Lib.hid y1; clear y1))
      have FS0 : Hid (PState A K 0 ((List.range (A + R)).map fun i => (pjob A K i).mch) ((MS.new 3).store 2 100).2) := Lib.hid (pair_start hst.out.2 (by omega) (by omega) (by omega))
      rw [List.map_map] at Y1
      clear HY
      go_loopw [16] (fun iv wr => ∃ (i : Nat) (L : List Mch) (s : MS), i ≤ 2000 ∧ iv = .int .i64 i ∧ Hid (PState A K i L s) ∧ Hid (L.length = A + R) ∧ Hid (SysB w wr r b c f o cap' v' L s)) (fun iv _ => 2000 - (intOf iv).toNat)
      case atStart => exact ⟨0, _, _, by omega, rfl, FS0, Lib.hid (by simp), Y1⟩
      case round =>
        obtain ⟨i, L, s, hi1, rfl, HFS, HLl, HSY⟩ := hrel
        clear FS0 Y1
        by_cases hlt : i < 2000
        · have hlt' : (i : Int) < 2000 := by omega
          have hi0 : (0 : Int) ≤ (i : Int) := by omega
          by_cases hlen' : i < len
          · have hl1 : (i : Int) < (len : Int) := by omega
            by_cases h300 : i < 300
            · have hl2 : (i : Int) < 300 := by omega
              obtain ⟨nn, hnn, hn0, hn1⟩ : ∃ nn, fp i = nn ∧ -9223372036854775808 ≤ nn ∧ nn ≤ 9223372036854775807 := ⟨_, rfl, by
                rcases HR.out with h | ⟨_, _, _, _, h⟩
                · omega
                · exact (h i hlen').2⟩
              obtain ⟨pb, po, hpa, hpl, hpc⟩ : ∃ pb po, a = some ⟨pb, po, none⟩ ∧ pb < wr.heap.size ∧ wr.cell? ⟨pb, po + i, none⟩ = some (.int .i64 nn) := by
                rcases HR.out with h | ⟨pb, po, h1, h2, h3⟩
                · omega
                · exact ⟨pb, po, h1, Nat.lt_of_lt_of_le h2 HSY.out.bel.size, by rw [← hnn]; exact (HSY.out.bel.cell (p := ⟨pb, po + i, none⟩) h2).trans (h3 i hlen').1⟩
              subst hpa
              have hn3 : Hid (300 ≤ i → nn = (i : Int)) := Lib.hid (fun h => by omega)
              clear hnn
              go_upto_region 24 with fail
              obtain ⟨ka, ok, hpk⟩ : ∃ ka ok, pickOf L nn = (ka, ok) := ⟨_, _, rfl⟩
              have PK : Hid (Calls Try.prog 12 #[.pointer (some ⟨r, 0, none⟩), .int .i64 nn] wr fun e w' => e = .returned (.tuple #[.int .i64 ka, .bool ok]) ∧ SysB w w' r b c f o cap' v' L s ∧ Below wr.heap.size wr w') := Lib.hid (by
                have := HSY.out.pick (n := nn) hn0 hn1
                rwa [hpk] at this)
              have HPK := Lib.hid hpk
              clear hpk
              cases ok
              · obtain ⟨hu, P, hws, hdone⟩ := pair_end HFS.out (.inr (pick_no HPK.out))
                have HD : Hid (∀ (q : Nat) (x : Mch), L[q]? = some x → x.done = true ∧ (A ≤ q → x.sb = wrap64 (x.sa + 100))) := Lib.hid (fun q x hx => ⟨(hdone q x hx).1, fun h => (hdone q x hx).2 h⟩)
                have HWS : Hid (s.ws = [2 * (A : Int), P, wrap64 (P + 100)]) := Lib.hid (hws)
                clear hu hws hdone HFS
                go_upto_region 27 with (first | (go_at_call 12; refine PK.out.mono ?_; rintro e w4 ⟨rfl, y3, b3⟩; have Y3 := Lib.hid y3; clear y3 b3))
                clear PK HSY
                go_upto_region 29 with (first | (go_at_call 15; refine Y3.out.all.mono ?_; rintro e w7 ⟨v7, rfl, hw7, y7, b7⟩; obtain ⟨a7, cap7, rfl⟩ := hw7.value; rw [HLl.out] at hw7 ⊢; have HW7 := Lib.hid hw7; have Y7 := Lib.hid y7; clear hw7 y7 b7))
                clear Y3
                have hcell : Hid (∀ q : Nat, q < A + R → ∃ g7 o7, a7 = some ⟨g7, o7, none⟩ ∧ g7 < w7.heap.size ∧ ∃ sa sb : Int, w7.cell? ⟨g7, o7 + q * 4, none⟩ = some (.bool true) ∧ w7.cell? ⟨g7, o7 + q * 4 + 1, none⟩ = some (.int .i64 sa) ∧ w7.cell? ⟨g7, o7 + q * 4 + 2, none⟩ = some (.int .i64 sb) ∧ (A ≤ q → sb = wrap64 (sa + 100))) := Lib.hid (fun q hq => by
                  obtain ⟨g7, o7, cp7, hv7⟩ := HW7.out.form (by omega)
                  cases hv7
                  obtain ⟨x, hx⟩ : ∃ x, L[q]? = some x := ⟨_, List.getElem?_eq_getElem (by rw [HLl.out]; exact hq)⟩
                  obtain ⟨hxd, hxs⟩ := HD.out q x hx
                  refine ⟨g7, o7, rfl, (HW7.out.lt g7 rfl).2, x.sa, x.sb, ?_, ?_, ?_, fun h => ?_⟩
                  · have h1 := HW7.out.cells (q * 4) (by omega)
                    have h2 := states_at L q x hx 0 (.bool x.done) rfl
                    rw [h1, ← hxd]; exact h2
                  · have h1 := HW7.out.cells (q * 4 + 1) (by omega)
                    have h2 := states_at L q x hx 1 (.int .i64 x.sa) rfl
                    rw [Nat.add_assoc, h1]; exact h2
                  · have h1 := HW7.out.cells (q * 4 + 2) (by omega)
                    have h2 := states_at L q x hx 2 (.int .i64 x.sb) rfl
                    rw [Nat.add_assoc, h1]; exact h2
                  · exact hxs h)
                go_loopw [21] (fun qv wr7 => ∃ q : Nat, q ≤ A + R ∧ qv = .int .i64 q ∧ Hid (SysB w wr7 r b c f o cap' v' L s) ∧ Hid (Below w7.heap.size w7 wr7)) (fun qv _ => A + R - (intOf qv).toNat)
                case atStart => exact ⟨0, by omega, rfl, Y7, Lib.hid (Below.refl _ _)⟩
                case round =>
                  obtain ⟨q, hq, rfl, Z7, ZB⟩ := hrel
                  by_cases hql : q < A + R
                  · obtain ⟨g7, o7, rfl, hg7, sa, sb, e0, e1, e2, e3⟩ := hcell.out q hql
                    have f0 := (ZB.out.cell (p := ⟨g7, o7 + q * 4, none⟩) hg7).trans e0
                    have f1 := (ZB.out.cell (p := ⟨g7, o7 + q * 4 + 1, none⟩) hg7).trans e1
                    have f2 := (ZB.out.cell (p := ⟨g7, o7 + q * 4 + 2, none⟩) hg7).trans e2
                    have hg8 : g7 < wr.heap.size := Nat.lt_of_lt_of_le hg7 ZB.out.size
                    have hq0 : (0 : Int) ≤ (q : Int) := by omega
                    have hq1 : (q : Int) < ((A + R : Nat) : Int) := by omega
                    clear e0 e1 e2
                    by_cases hA : A ≤ q
                    · have hs' := e3 hA
                      have d2 : (sb != wrap64 (sa + 100)) = false := by simp [hs']
                      have d3 : decide ((q : Int) ≥ (A : Int)) = true := by simpa using hA
                      clear e3 hs'
                      go_upto_region 31 with fail
                      go_quiet (fail)
                      go_wp2_with fail
                      go_roundw
                      case rel => exact ⟨q + 1, by omega, by go_num, Lib.hid (Z7.out.on (below_draws (Below.refl _ _) _)), Lib.hid (below_draws ZB.out _)⟩
                      case measure => simp [intOf]; omega
                    · have d3 : decide ((q : Int) ≥ (A : Int)) = false := by simp; omega
                      clear e3
                      go_upto_region 31 with fail
                      go_quiet (fail)
                      go_wp2_with fail
                      go_roundw
                      case rel => exact ⟨q + 1, by omega, by go_num, Lib.hid (Z7.out.on (below_draws (Below.refl _ _) _)), Lib.hid (below_draws ZB.out _)⟩
                      case measure => simp [intOf]; omega
                  · obtain rfl : q = A + R := by omega
                    go_upto_region 34 with (first | (go_at_call 13; refine (Z7.out.words (by rw [HWS.out]; simp)).mono ?_; rintro e w8 ⟨g, rfl, hg, ⟨cs, hcs, hcv⟩, y8, b8⟩; have Y8 := Lib.hid y8; have CS := Lib.hid hcs; have CV := Lib.hid hcv; rw [HWS.out]; clear y8 b8 hcs hcv hg))
                    have c0 : w8.cell? ⟨g, 0, none⟩ = some (.int .i64 (2 * (A : Int))) := by
                      have := CV.out 0 (by rw [HWS.out]; simp)
                      rw [CS.out.cell 0, this, HWS.out]; rfl
                    have c1 : w8.cell? ⟨g, 1, none⟩ = some (.int .i64 P) := by
                      have := CV.out 1 (by rw [HWS.out]; simp)
                      rw [CS.out.cell 1, this, HWS.out]; rfl
                    have c2 : w8.cell? ⟨g, 2, none⟩ = some (.int .i64 (wrap64 (P + 100))) := by
                      have := CV.out 2 (by rw [HWS.out]; simp)
                      rw [CS.out.cell 2, this, HWS.out]; rfl
                    have gl := CS.out.lt
                    clear CS CV hcell HW7 Z7 ZB Y7
                    have d4 : (wrap64 (P + 100) == wrap64 (P + 100)) = true := by simp
                    have gm : (2 : Int) * (A : Int) ≤ 100 := by omega
                    refine wp_region_graft (by kernel_rfl) (by kernel_rfl) ?_
                    repeat (go_big_quiet_step ((go_at_call 16; exact calls_graft (known_any _))))
                    refine wpQuiet_nil ?_
                    intro w9 b9
                    go_wp2_with fail
                    go_ret
                    exact ⟨rfl, Y8.out.bel.trans (b9.mono Y8.out.bel.size)⟩
              · obtain ⟨j, x, rfl, hx, hd, hst', hF'⟩ := pair_round HFS.out (by omega) hn3.out HPK.out
                have HX := Lib.hid hx
                have HD := Lib.hid hd
                have HST := Lib.hid hst'
                have HF' := Lib.hid hF'
                clear hx hd hst' hF' HFS
                go_wp2_with (first | (go_at_call 12; refine PK.out.mono ?_; rintro e w4 ⟨rfl, y3, b3⟩; have Y3 := Lib.hid y3; clear y3 b3) | (go_at_call 14; refine (Y3.out.step HX.out HD.out).mono ?_; rintro e w5 ⟨rfl, y5, f5⟩; rw [HST.out] at y5; have Y5 := Lib.hid y5; clear y5 f5))
                go_roundw
                case rel => exact ⟨i + 1, _, _, by omega, by go_num, HF', Lib.hid (by rw [List.length_set]; exact HLl.out), Y5⟩
                case measure => simp [intOf]; omega
            · have hl2 : ¬ (i : Int) < 300 := by omega
              have hn0 : -9223372036854775808 ≤ (i : Int) := by omega
              have hn1 : (i : Int) ≤ 9223372036854775807 := by omega
              have hn3 : Hid (300 ≤ i → (i : Int) = (i : Int)) := Lib.hid (fun h => rfl)
              go_upto_region 24 with fail
              obtain ⟨ka, ok, hpk⟩ : ∃ ka ok, pickOf L (i : Int) = (ka, ok) := ⟨_, _, rfl⟩
              have PK : Hid (Calls Try.prog 12 #[.pointer (some ⟨r, 0, none⟩), .int .i64 (i : Int)] wr fun e w' => e = .returned (.tuple #[.int .i64 ka, .bool ok]) ∧ SysB w w' r b c f o cap' v' L s ∧ Below wr.heap.size wr w') := Lib.hid (by
                have := HSY.out.pick (n := (i : Int)) hn0 hn1
                rwa [hpk] at this)
              have HPK := Lib.hid hpk
              clear hpk
              cases ok
              · obtain ⟨hu, P, hws, hdone⟩ := pair_end HFS.out (.inr (pick_no HPK.out))
                have HD : Hid (∀ (q : Nat) (x : Mch), L[q]? = some x → x.done = true ∧ (A ≤ q → x.sb = wrap64 (x.sa + 100))) := Lib.hid (fun q x hx => ⟨(hdone q x hx).1, fun h => (hdone q x hx).2 h⟩)
                have HWS : Hid (s.ws = [2 * (A : Int), P, wrap64 (P + 100)]) := Lib.hid (hws)
                clear hu hws hdone HFS
                go_upto_region 27 with (first | (go_at_call 12; refine PK.out.mono ?_; rintro e w4 ⟨rfl, y3, b3⟩; have Y3 := Lib.hid y3; clear y3 b3))
                clear PK HSY
                go_upto_region 29 with (first | (go_at_call 15; refine Y3.out.all.mono ?_; rintro e w7 ⟨v7, rfl, hw7, y7, b7⟩; obtain ⟨a7, cap7, rfl⟩ := hw7.value; rw [HLl.out] at hw7 ⊢; have HW7 := Lib.hid hw7; have Y7 := Lib.hid y7; clear hw7 y7 b7))
                clear Y3
                have hcell : Hid (∀ q : Nat, q < A + R → ∃ g7 o7, a7 = some ⟨g7, o7, none⟩ ∧ g7 < w7.heap.size ∧ ∃ sa sb : Int, w7.cell? ⟨g7, o7 + q * 4, none⟩ = some (.bool true) ∧ w7.cell? ⟨g7, o7 + q * 4 + 1, none⟩ = some (.int .i64 sa) ∧ w7.cell? ⟨g7, o7 + q * 4 + 2, none⟩ = some (.int .i64 sb) ∧ (A ≤ q → sb = wrap64 (sa + 100))) := Lib.hid (fun q hq => by
                  obtain ⟨g7, o7, cp7, hv7⟩ := HW7.out.form (by omega)
                  cases hv7
                  obtain ⟨x, hx⟩ : ∃ x, L[q]? = some x := ⟨_, List.getElem?_eq_getElem (by rw [HLl.out]; exact hq)⟩
                  obtain ⟨hxd, hxs⟩ := HD.out q x hx
                  refine ⟨g7, o7, rfl, (HW7.out.lt g7 rfl).2, x.sa, x.sb, ?_, ?_, ?_, fun h => ?_⟩
                  · have h1 := HW7.out.cells (q * 4) (by omega)
                    have h2 := states_at L q x hx 0 (.bool x.done) rfl
                    rw [h1, ← hxd]; exact h2
                  · have h1 := HW7.out.cells (q * 4 + 1) (by omega)
                    have h2 := states_at L q x hx 1 (.int .i64 x.sa) rfl
                    rw [Nat.add_assoc, h1]; exact h2
                  · have h1 := HW7.out.cells (q * 4 + 2) (by omega)
                    have h2 := states_at L q x hx 2 (.int .i64 x.sb) rfl
                    rw [Nat.add_assoc, h1]; exact h2
                  · exact hxs h)
                go_loopw [21] (fun qv wr7 => ∃ q : Nat, q ≤ A + R ∧ qv = .int .i64 q ∧ Hid (SysB w wr7 r b c f o cap' v' L s) ∧ Hid (Below w7.heap.size w7 wr7)) (fun qv _ => A + R - (intOf qv).toNat)
                case atStart => exact ⟨0, by omega, rfl, Y7, Lib.hid (Below.refl _ _)⟩
                case round =>
                  obtain ⟨q, hq, rfl, Z7, ZB⟩ := hrel
                  by_cases hql : q < A + R
                  · obtain ⟨g7, o7, rfl, hg7, sa, sb, e0, e1, e2, e3⟩ := hcell.out q hql
                    have f0 := (ZB.out.cell (p := ⟨g7, o7 + q * 4, none⟩) hg7).trans e0
                    have f1 := (ZB.out.cell (p := ⟨g7, o7 + q * 4 + 1, none⟩) hg7).trans e1
                    have f2 := (ZB.out.cell (p := ⟨g7, o7 + q * 4 + 2, none⟩) hg7).trans e2
                    have hg8 : g7 < wr.heap.size := Nat.lt_of_lt_of_le hg7 ZB.out.size
                    have hq0 : (0 : Int) ≤ (q : Int) := by omega
                    have hq1 : (q : Int) < ((A + R : Nat) : Int) := by omega
                    clear e0 e1 e2
                    by_cases hA : A ≤ q
                    · have hs' := e3 hA
                      have d2 : (sb != wrap64 (sa + 100)) = false := by simp [hs']
                      have d3 : decide ((q : Int) ≥ (A : Int)) = true := by simpa using hA
                      clear e3 hs'
                      go_upto_region 31 with fail
                      go_quiet (fail)
                      go_wp2_with fail
                      go_roundw
                      case rel => exact ⟨q + 1, by omega, by go_num, Lib.hid (Z7.out.on (below_draws (Below.refl _ _) _)), Lib.hid (below_draws ZB.out _)⟩
                      case measure => simp [intOf]; omega
                    · have d3 : decide ((q : Int) ≥ (A : Int)) = false := by simp; omega
                      clear e3
                      go_upto_region 31 with fail
                      go_quiet (fail)
                      go_wp2_with fail
                      go_roundw
                      case rel => exact ⟨q + 1, by omega, by go_num, Lib.hid (Z7.out.on (below_draws (Below.refl _ _) _)), Lib.hid (below_draws ZB.out _)⟩
                      case measure => simp [intOf]; omega
                  · obtain rfl : q = A + R := by omega
                    go_upto_region 34 with (first | (go_at_call 13; refine (Z7.out.words (by rw [HWS.out]; simp)).mono ?_; rintro e w8 ⟨g, rfl, hg, ⟨cs, hcs, hcv⟩, y8, b8⟩; have Y8 := Lib.hid y8; have CS := Lib.hid hcs; have CV := Lib.hid hcv; rw [HWS.out]; clear y8 b8 hcs hcv hg))
                    have c0 : w8.cell? ⟨g, 0, none⟩ = some (.int .i64 (2 * (A : Int))) := by
                      have := CV.out 0 (by rw [HWS.out]; simp)
                      rw [CS.out.cell 0, this, HWS.out]; rfl
                    have c1 : w8.cell? ⟨g, 1, none⟩ = some (.int .i64 P) := by
                      have := CV.out 1 (by rw [HWS.out]; simp)
                      rw [CS.out.cell 1, this, HWS.out]; rfl
                    have c2 : w8.cell? ⟨g, 2, none⟩ = some (.int .i64 (wrap64 (P + 100))) := by
                      have := CV.out 2 (by rw [HWS.out]; simp)
                      rw [CS.out.cell 2, this, HWS.out]; rfl
                    have gl := CS.out.lt
                    clear CS CV hcell HW7 Z7 ZB Y7
                    have d4 : (wrap64 (P + 100) == wrap64 (P + 100)) = true := by simp
                    have gm : (2 : Int) * (A : Int) ≤ 100 := by omega
                    refine wp_region_graft (by kernel_rfl) (by kernel_rfl) ?_
                    repeat (go_big_quiet_step ((go_at_call 16; exact calls_graft (known_any _))))
                    refine wpQuiet_nil ?_
                    intro w9 b9
                    go_wp2_with fail
                    go_ret
                    exact ⟨rfl, Y8.out.bel.trans (b9.mono Y8.out.bel.size)⟩
              · obtain ⟨j, x, rfl, hx, hd, hst', hF'⟩ := pair_round HFS.out (by omega) hn3.out HPK.out
                have HX := Lib.hid hx
                have HD := Lib.hid hd
                have HST := Lib.hid hst'
                have HF' := Lib.hid hF'
                clear hx hd hst' hF' HFS
                go_wp2_with (first | (go_at_call 12; refine PK.out.mono ?_; rintro e w4 ⟨rfl, y3, b3⟩; have Y3 := Lib.hid y3; clear y3 b3) | (go_at_call 14; refine (Y3.out.step HX.out HD.out).mono ?_; rintro e w5 ⟨rfl, y5, f5⟩; rw [HST.out] at y5; have Y5 := Lib.hid y5; clear y5 f5))
                go_roundw
                case rel => exact ⟨i + 1, _, _, by omega, by go_num, HF', Lib.hid (by rw [List.length_set]; exact HLl.out), Y5⟩
                case measure => simp [intOf]; omega
          · have hl1 : ¬ (i : Int) < (len : Int) := by omega
            have hn0 : -9223372036854775808 ≤ (i : Int) := by omega
            have hn1 : (i : Int) ≤ 9223372036854775807 := by omega
            have hn3 : Hid (300 ≤ i → (i : Int) = (i : Int)) := Lib.hid (fun h => rfl)
            go_upto_region 24 with fail
            obtain ⟨ka, ok, hpk⟩ : ∃ ka ok, pickOf L (i : Int) = (ka, ok) := ⟨_, _, rfl⟩
            have PK : Hid (Calls Try.prog 12 #[.pointer (some ⟨r, 0, none⟩), .int .i64 (i : Int)] wr fun e w' => e = .returned (.tuple #[.int .i64 ka, .bool ok]) ∧ SysB w w' r b c f o cap' v' L s ∧ Below wr.heap.size wr w') := Lib.hid (by
              have := HSY.out.pick (n := (i : Int)) hn0 hn1
              rwa [hpk] at this)
            have HPK := Lib.hid hpk
            clear hpk
            cases ok
            · obtain ⟨hu, P, hws, hdone⟩ := pair_end HFS.out (.inr (pick_no HPK.out))
              have HD : Hid (∀ (q : Nat) (x : Mch), L[q]? = some x → x.done = true ∧ (A ≤ q → x.sb = wrap64 (x.sa + 100))) := Lib.hid (fun q x hx => ⟨(hdone q x hx).1, fun h => (hdone q x hx).2 h⟩)
              have HWS : Hid (s.ws = [2 * (A : Int), P, wrap64 (P + 100)]) := Lib.hid (hws)
              clear hu hws hdone HFS
              go_upto_region 27 with (first | (go_at_call 12; refine PK.out.mono ?_; rintro e w4 ⟨rfl, y3, b3⟩; have Y3 := Lib.hid y3; clear y3 b3))
              clear PK HSY
              go_upto_region 29 with (first | (go_at_call 15; refine Y3.out.all.mono ?_; rintro e w7 ⟨v7, rfl, hw7, y7, b7⟩; obtain ⟨a7, cap7, rfl⟩ := hw7.value; rw [HLl.out] at hw7 ⊢; have HW7 := Lib.hid hw7; have Y7 := Lib.hid y7; clear hw7 y7 b7))
              clear Y3
              have hcell : Hid (∀ q : Nat, q < A + R → ∃ g7 o7, a7 = some ⟨g7, o7, none⟩ ∧ g7 < w7.heap.size ∧ ∃ sa sb : Int, w7.cell? ⟨g7, o7 + q * 4, none⟩ = some (.bool true) ∧ w7.cell? ⟨g7, o7 + q * 4 + 1, none⟩ = some (.int .i64 sa) ∧ w7.cell? ⟨g7, o7 + q * 4 + 2, none⟩ = some (.int .i64 sb) ∧ (A ≤ q → sb = wrap64 (sa + 100))) := Lib.hid (fun q hq => by
                obtain ⟨g7, o7, cp7, hv7⟩ := HW7.out.form (by omega)
                cases hv7
                obtain ⟨x, hx⟩ : ∃ x, L[q]? = some x := ⟨_, List.getElem?_eq_getElem (by rw [HLl.out]; exact hq)⟩
                obtain ⟨hxd, hxs⟩ := HD.out q x hx
                refine ⟨g7, o7, rfl, (HW7.out.lt g7 rfl).2, x.sa, x.sb, ?_, ?_, ?_, fun h => ?_⟩
                · have h1 := HW7.out.cells (q * 4) (by omega)
                  have h2 := states_at L q x hx 0 (.bool x.done) rfl
                  rw [h1, ← hxd]; exact h2
                · have h1 := HW7.out.cells (q * 4 + 1) (by omega)
                  have h2 := states_at L q x hx 1 (.int .i64 x.sa) rfl
                  rw [Nat.add_assoc, h1]; exact h2
                · have h1 := HW7.out.cells (q * 4 + 2) (by omega)
                  have h2 := states_at L q x hx 2 (.int .i64 x.sb) rfl
                  rw [Nat.add_assoc, h1]; exact h2
                · exact hxs h)
              go_loopw [21] (fun qv wr7 => ∃ q : Nat, q ≤ A + R ∧ qv = .int .i64 q ∧ Hid (SysB w wr7 r b c f o cap' v' L s) ∧ Hid (Below w7.heap.size w7 wr7)) (fun qv _ => A + R - (intOf qv).toNat)
              case atStart => exact ⟨0, by omega, rfl, Y7, Lib.hid (Below.refl _ _)⟩
              case round =>
                obtain ⟨q, hq, rfl, Z7, ZB⟩ := hrel
                by_cases hql : q < A + R
                · obtain ⟨g7, o7, rfl, hg7, sa, sb, e0, e1, e2, e3⟩ := hcell.out q hql
                  have f0 := (ZB.out.cell (p := ⟨g7, o7 + q * 4, none⟩) hg7).trans e0
                  have f1 := (ZB.out.cell (p := ⟨g7, o7 + q * 4 + 1, none⟩) hg7).trans e1
                  have f2 := (ZB.out.cell (p := ⟨g7, o7 + q * 4 + 2, none⟩) hg7).trans e2
                  have hg8 : g7 < wr.heap.size := Nat.lt_of_lt_of_le hg7 ZB.out.size
                  have hq0 : (0 : Int) ≤ (q : Int) := by omega
                  have hq1 : (q : Int) < ((A + R : Nat) : Int) := by omega
                  clear e0 e1 e2
                  by_cases hA : A ≤ q
                  · have hs' := e3 hA
                    have d2 : (sb != wrap64 (sa + 100)) = false := by simp [hs']
                    have d3 : decide ((q : Int) ≥ (A : Int)) = true := by simpa using hA
                    clear e3 hs'
                    go_upto_region 31 with fail
                    go_quiet (fail)
                    go_wp2_with fail
                    go_roundw
                    case rel => exact ⟨q + 1, by omega, by go_num, Lib.hid (Z7.out.on (below_draws (Below.refl _ _) _)), Lib.hid (below_draws ZB.out _)⟩
                    case measure => simp [intOf]; omega
                  · have d3 : decide ((q : Int) ≥ (A : Int)) = false := by simp; omega
                    clear e3
                    go_upto_region 31 with fail
                    go_quiet (fail)
                    go_wp2_with fail
                    go_roundw
                    case rel => exact ⟨q + 1, by omega, by go_num, Lib.hid (Z7.out.on (below_draws (Below.refl _ _) _)), Lib.hid (below_draws ZB.out _)⟩
                    case measure => simp [intOf]; omega
                · obtain rfl : q = A + R := by omega
                  go_upto_region 34 with (first | (go_at_call 13; refine (Z7.out.words (by rw [HWS.out]; simp)).mono ?_; rintro e w8 ⟨g, rfl, hg, ⟨cs, hcs, hcv⟩, y8, b8⟩; have Y8 := Lib.hid y8; have CS := Lib.hid hcs; have CV := Lib.hid hcv; rw [HWS.out]; clear y8 b8 hcs hcv hg))
                  have c0 : w8.cell? ⟨g, 0, none⟩ = some (.int .i64 (2 * (A : Int))) := by
                    have := CV.out 0 (by rw [HWS.out]; simp)
                    rw [CS.out.cell 0, this, HWS.out]; rfl
                  have c1 : w8.cell? ⟨g, 1, none⟩ = some (.int .i64 P) := by
                    have := CV.out 1 (by rw [HWS.out]; simp)
                    rw [CS.out.cell 1, this, HWS.out]; rfl
                  have c2 : w8.cell? ⟨g, 2, none⟩ = some (.int .i64 (wrap64 (P + 100))) := by
                    have := CV.out 2 (by rw [HWS.out]; simp)
                    rw [CS.out.cell 2, this, HWS.out]; rfl
                  have gl := CS.out.lt
                  clear CS CV hcell HW7 Z7 ZB Y7
                  have d4 : (wrap64 (P + 100) == wrap64 (P + 100)) = true := by simp
                  have gm : (2 : Int) * (A : Int) ≤ 100 := by omega
                  refine wp_region_graft (by kernel_rfl) (by kernel_rfl) ?_
                  repeat (go_big_quiet_step ((go_at_call 16; exact calls_graft (known_any _))))
                  refine wpQuiet_nil ?_
                  intro w9 b9
                  go_wp2_with fail
                  go_ret
                  exact ⟨rfl, Y8.out.bel.trans (b9.mono Y8.out.bel.size)⟩
            · obtain ⟨j, x, rfl, hx, hd, hst', hF'⟩ := pair_round HFS.out (by omega) hn3.out HPK.out
              have HX := Lib.hid hx
              have HD := Lib.hid hd
              have HST := Lib.hid hst'
              have HF' := Lib.hid hF'
              clear hx hd hst' hF' HFS
              go_wp2_with (first | (go_at_call 12; refine PK.out.mono ?_; rintro e w4 ⟨rfl, y3, b3⟩; have Y3 := Lib.hid y3; clear y3 b3) | (go_at_call 14; refine (Y3.out.step HX.out HD.out).mono ?_; rintro e w5 ⟨rfl, y5, f5⟩; rw [HST.out] at y5; have Y5 := Lib.hid y5; clear y5 f5))
              go_roundw
              case rel => exact ⟨i + 1, _, _, by omega, by go_num, HF', Lib.hid (by rw [List.length_set]; exact HLl.out), Y5⟩
              case measure => simp [intOf]; omega
        · obtain rfl : i = 2000 := by omega
          obtain ⟨hu, P, hws, hdone⟩ := pair_end HFS.out (.inl (Nat.le_refl _))
          have HD : Hid (∀ (q : Nat) (x : Mch), L[q]? = some x → x.done = true ∧ (A ≤ q → x.sb = wrap64 (x.sa + 100))) := Lib.hid (fun q x hx => ⟨(hdone q x hx).1, fun h => (hdone q x hx).2 h⟩)
          have HWS : Hid (s.ws = [2 * (A : Int), P, wrap64 (P + 100)]) := Lib.hid (hws)
          have Y3 := HSY
          clear hu hws hdone HFS HSY
          go_upto_region 29 with (first | (go_at_call 15; refine Y3.out.all.mono ?_; rintro e w7 ⟨v7, rfl, hw7, y7, b7⟩; obtain ⟨a7, cap7, rfl⟩ := hw7.value; rw [HLl.out] at hw7 ⊢; have HW7 := Lib.hid hw7; have Y7 := Lib.hid y7; clear hw7 y7 b7))
          clear Y3
          have hcell : Hid (∀ q : Nat, q < A + R → ∃ g7 o7, a7 = some ⟨g7, o7, none⟩ ∧ g7 < w7.heap.size ∧ ∃ sa sb : Int, w7.cell? ⟨g7, o7 + q * 4, none⟩ = some (.bool true) ∧ w7.cell? ⟨g7, o7 + q * 4 + 1, none⟩ = some (.int .i64 sa) ∧ w7.cell? ⟨g7, o7 + q * 4 + 2, none⟩ = some (.int .i64 sb) ∧ (A ≤ q → sb = wrap64 (sa + 100))) := Lib.hid (fun q hq => by
            obtain ⟨g7, o7, cp7, hv7⟩ := HW7.out.form (by omega)
            cases hv7
            obtain ⟨x, hx⟩ : ∃ x, L[q]? = some x := ⟨_, List.getElem?_eq_getElem (by rw [HLl.out]; exact hq)⟩
            obtain ⟨hxd, hxs⟩ := HD.out q x hx
            refine ⟨g7, o7, rfl, (HW7.out.lt g7 rfl).2, x.sa, x.sb, ?_, ?_, ?_, fun h => ?_⟩
            · have h1 := HW7.out.cells (q * 4) (by omega)
              have h2 := states_at L q x hx 0 (.bool x.done) rfl
              rw [h1, ← hxd]; exact h2
            · have h1 := HW7.out.cells (q * 4 + 1) (by omega)
              have h2 := states_at L q x hx 1 (.int .i64 x.sa) rfl
              rw [Nat.add_assoc, h1]; exact h2
            · have h1 := HW7.out.cells (q * 4 + 2) (by omega)
              have h2 := states_at L q x hx 2 (.int .i64 x.sb) rfl
              rw [Nat.add_assoc, h1]; exact h2
            · exact hxs h)
          go_loopw [21] (fun qv wr7 => ∃ q : Nat, q ≤ A + R ∧ qv = .int .i64 q ∧ Hid (SysB w wr7 r b c f o cap' v' L s) ∧ Hid (Below w7.heap.size w7 wr7)) (fun qv _ => A + R - (intOf qv).toNat)
          case atStart => exact ⟨0, by omega, rfl, Y7, Lib.hid (Below.refl _ _)⟩
          case round =>
            obtain ⟨q, hq, rfl, Z7, ZB⟩ := hrel
            by_cases hql : q < A + R
            · obtain ⟨g7, o7, rfl, hg7, sa, sb, e0, e1, e2, e3⟩ := hcell.out q hql
              have f0 := (ZB.out.cell (p := ⟨g7, o7 + q * 4, none⟩) hg7).trans e0
              have f1 := (ZB.out.cell (p := ⟨g7, o7 + q * 4 + 1, none⟩) hg7).trans e1
              have f2 := (ZB.out.cell (p := ⟨g7, o7 + q * 4 + 2, none⟩) hg7).trans e2
              have hg8 : g7 < wr.heap.size := Nat.lt_of_lt_of_le hg7 ZB.out.size
              have hq0 : (0 : Int) ≤ (q : Int) := by omega
              have hq1 : (q : Int) < ((A + R : Nat) : Int) := by omega
              clear e0 e1 e2
              by_cases hA : A ≤ q
              · have hs' := e3 hA
                have d2 : (sb != wrap64 (sa + 100)) = false := by simp [hs']
                have d3 : decide ((q : Int) ≥ (A : Int)) = true := by simpa using hA
                clear e3 hs'
                go_upto_region 31 with fail
                go_quiet (fail)
                go_wp2_with fail
                go_roundw
                case rel => exact ⟨q + 1, by omega, by go_num, Lib.hid (Z7.out.on (below_draws (Below.refl _ _) _)), Lib.hid (below_draws ZB.out _)⟩
                case measure => simp [intOf]; omega
              · have d3 : decide ((q : Int) ≥ (A : Int)) = false := by simp; omega
                clear e3
                go_upto_region 31 with fail
                go_quiet (fail)
                go_wp2_with fail
                go_roundw
                case rel => exact ⟨q + 1, by omega, by go_num, Lib.hid (Z7.out.on (below_draws (Below.refl _ _) _)), Lib.hid (below_draws ZB.out _)⟩
                case measure => simp [intOf]; omega
            · obtain rfl : q = A + R := by omega
              go_upto_region 34 with (first | (go_at_call 13; refine (Z7.out.words (by rw [HWS.out]; simp)).mono ?_; rintro e w8 ⟨g, rfl, hg, ⟨cs, hcs, hcv⟩, y8, b8⟩; have Y8 := Lib.hid y8; have CS := Lib.hid hcs; have CV := Lib.hid hcv; rw [HWS.out]; clear y8 b8 hcs hcv hg))
              have c0 : w8.cell? ⟨g, 0, none⟩ = some (.int .i64 (2 * (A : Int))) := by
                have := CV.out 0 (by rw [HWS.out]; simp)
                rw [CS.out.cell 0, this, HWS.out]; rfl
              have c1 : w8.cell? ⟨g, 1, none⟩ = some (.int .i64 P) := by
                have := CV.out 1 (by rw [HWS.out]; simp)
                rw [CS.out.cell 1, this, HWS.out]; rfl
              have c2 : w8.cell? ⟨g, 2, none⟩ = some (.int .i64 (wrap64 (P + 100))) := by
                have := CV.out 2 (by rw [HWS.out]; simp)
                rw [CS.out.cell 2, this, HWS.out]; rfl
              have gl := CS.out.lt
              clear CS CV hcell HW7 Z7 ZB Y7
              have d4 : (wrap64 (P + 100) == wrap64 (P + 100)) = true := by simp
              have gm : (2 : Int) * (A : Int) ≤ 100 := by omega
              refine wp_region_graft (by kernel_rfl) (by kernel_rfl) ?_
              repeat (go_big_quiet_step ((go_at_call 16; exact calls_graft (known_any _))))
              refine wpQuiet_nil ?_
              intro w9 b9
              go_wp2_with fail
              go_ret
              exact ⟨rfl, Y8.out.bel.trans (b9.mono Y8.out.bel.size)⟩
end Go.Proofs.Ytmhmgenchpemkaa
