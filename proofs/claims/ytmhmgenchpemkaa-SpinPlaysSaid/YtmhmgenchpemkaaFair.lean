/- The walk of SpinFair. -/
import Derived.Test.YtmhmgenchpemkaaShared
namespace Go.Proofs.Ytmhmgenchpemkaa
open Go.RowKit

theorem within_nat {lo hi n : Int} (h : 0 ≤ hi) (h0 : lo = 0) : ∃ N : Nat, lo + n % (hi - lo + 1) = (N : Int) ∧ (N : Int) ≤ hi := by
  subst h0
  have h1 := Int.emod_nonneg n (show hi - 0 + 1 ≠ 0 by omega)
  have h2 := Int.emod_lt_of_pos n (show 0 < hi - 0 + 1 by omega)
  generalize n % (hi - 0 + 1) = r at h1 h2
  exact ⟨r.toNat, by omega, by omega⟩

set_option maxRecDepth 100000 in
set_option maxHeartbeats 800000 in
theorem fair_any (n k fr : Int) (w : World) (h1 : -9223372036854775808 ≤ n) (h2 : n ≤ 9223372036854775807) (h3 : -9223372036854775808 ≤ k) (h4 : k ≤ 9223372036854775807) (h5 : -9223372036854775808 ≤ fr) (h6 : fr ≤ 9223372036854775807) :
    Calls Try.prog 3 #[.int .i64 n, .int .i64 k, .int .i64 fr] w fun e w' => e = .returned (.bool true) ∧ Below w.heap.size w w' := by
  obtain ⟨N, hN, hN0⟩ := within_nat (lo := 0) (hi := 7) (n := n) (by decide) rfl
  obtain ⟨K, hK, hK0⟩ := within_nat (lo := 0) (hi := 6) (n := k) (by decide) rfl
  obtain ⟨F, hF, hF0⟩ := within_nat (lo := 0) (hi := 20) (n := fr) (by decide) rfl
  have E1 := Lib.hid (within_any n 0 7 w h1 h2 (by omega) (by omega) (by omega))
  have E2 := Lib.hid (within_any k 0 6 w h3 h4 (by omega) (by omega) (by omega))
  have E3 := Lib.hid (within_any fr 0 20 w h5 h6 (by omega) (by omega) (by omega))
  rw [hN] at E1
  rw [hK] at E2
  rw [hF] at E3
  clear hN hK hF h1 h2 h3 h4 h5 h6
  go_enter Try.func3, Try.ntmps3
  go_upto_region 2 with (first | (go_at_call 9; refine E1.out.mono ?_; rintro e w1 ⟨rfl, rfl⟩))
  go_upto_region 3 with (first | (go_at_call 9; refine E2.out.mono ?_; rintro e w1 ⟨rfl, rfl⟩))
  go_upto_region 4 with (first | (go_at_call 9; refine E3.out.mono ?_; rintro e w1 ⟨rfl, rfl⟩))
  go_upto_region 5 with (first | (go_at_call 10; refine (new_int 2 w (by omega) (by omega)).mono ?_; rintro e w1 ⟨rfl, m1, B1⟩))
  have M1 : Hid (IsMem w1 (w.heap.size + 1) w.heap.size (MS.new 2)) := Lib.hid m1
  have HB1 := Lib.hid B1
  obtain ⟨b, hb⟩ : ∃ b, w.heap.size + 1 = b := ⟨_, rfl⟩
  obtain ⟨c, hc⟩ : ∃ c, w.heap.size = c := ⟨_, rfl⟩
  rw [hb, hc] at M1
  rw [hb]
  have HL : Hid (w.heap.size ≤ b ∧ w.heap.size ≤ c ∧ b < w1.heap.size ∧ c < w1.heap.size) := Lib.hid ⟨by omega, by omega, M1.out.hb.lt, M1.out.hc.lt⟩
  clear m1 B1 hb hc E1 E2 E3
  obtain ⟨i29, hi, hz0, hz1, hz2⟩ := info_parts info29
  go_wp2_with fail
  go_loopw [9, 10] (fun jv iv wr => ∃ m : Nat, m ≤ 1 + N ∧ iv = .int .i64 m ∧ Hid (Win wr w1.heap.size 29 5 jv m (jcells (List.replicate m (hjob 1 K)))) ∧ Hid (Below w.heap.size w wr) ∧ Hid (IsMem wr b c (MS.new 2)) ∧ Hid (w1.heap.size ≤ wr.heap.size)) (fun _ iv _ => 1 + N - (intOf iv).toNat)
  case atStart => exact ⟨0, by omega, rfl, Lib.hid (by simpa [jcells] using Win.nil _ _ 29 5), HB1, M1, Lib.hid (Nat.le_refl _)⟩
  case round =>
    obtain ⟨m, hm, rfl, HW, HB, HM, HS⟩ := hrel
    by_cases hlt : m < 1 + N
    · have hs := HS.out
      have hlt' : (m : Int) < 1 + (N : Int) := by omega
      go_wp2_with (first | (at_builtin; go_must (refine wpList_append_win _ rfl (.tmp 39) (.tmp 42) 27 rfl w1.heap.size 29 i29 _ 5 40 Try.underlying27 hi hz0 hz1 hz2 rfl (by decide) u9 m (jcells (List.replicate m (hjob 1 K))) (by simp [Act.eval]) (HW.out.alloc _) ⟨wr.heap.size, 0, none⟩ 1 1 (hjob 1 K).cells (by simp [Act.eval]) rfl (new_cells wr (hjob 1 K).cells _) (by simp [hjob, Jb.cells, Value.oneCell']) (by decide) (by unfold maxLen; omega) (by omega) (by simp; omega) ?_); intro f' o' cap' w4 hown hgrow hat; have HO := Lib.hid hown; have HG := Lib.hid hgrow; clear hown hgrow hat))
      go_roundw
      case rel => 
        refine ⟨m + 1, by omega, by go_num, Lib.hid ?_, Lib.hid ?_, Lib.hid ?_, Lib.hid ?_⟩
        · rw [List.replicate_succ', jcells_snoc]; exact HO.out
        · have := HL.out
          exact grown_below HB.out HB.out.size (HW.out.of_base (by omega)) HG.out
        · exact mem_grown HM.out HW.out HL.out.2.2.1 HL.out.2.2.2 HG.out
        · have := HG.out.size
          simp at this; omega
      case measure => simp [intOf]; omega
    · obtain rfl : m = 1 + N := by omega
      have hsys := sys_new (js := List.replicate (1 + N) (hjob 1 K)) (s := MS.new 2) (v := u9) HM.out (HW.out.jobs (by simp)) HB.out HL.out.1 HL.out.2.1 (by simp; omega) (by
        rw [List.any_eq_false]
        intro j hj
        rw [(List.mem_replicate.1 hj).2]
        simp [hjob, Jb.ok, hasI, MS.new]; omega)
      have HY := Lib.hid hsys
      clear hsys HW HM M1 HB1
      go_wp2_with (first | (go_at_call 11; refine HY.out.mono ?_; rintro e w2 ⟨r, f, o, cap, v', rfl, y1⟩; have Y1 := Lib.hid y1; clear y1))
      have FS0 : Hid (FState (1 + N) K F F ((List.replicate (1 + N) (hjob 1 K)).map Jb.mch) (MS.new 2) 0) := Lib.hid (fair_start rfl (by omega) (by omega))
      clear HY HB HS
      go_loopw [13, 14] (fun hv iv wr => ∃ (i held : Nat) (L : List Mch) (s : MS), F ≤ i ∧ i ≤ F + 1000 ∧ hv = .int .i64 held ∧ iv = .int .i64 i ∧ Hid (FState (1 + N) K F i L s held) ∧ Hid (SysB w wr r b c f o cap v' L s)) (fun _ iv _ => F + 1000 - (intOf iv).toNat)
      case atStart => exact ⟨F, 0, _, _, by omega, by omega, rfl, rfl, FS0, Y1⟩
      case round =>
        obtain ⟨i, held, L, s, hi0, hi1, rfl, rfl, HFS, HSY⟩ := hrel
        clear FS0 Y1
        have PK : Hid (Calls Try.prog 12 #[.pointer (some ⟨r, 0, none⟩), .int .i64 i] wr fun e w' => e = .returned (.tuple #[.int .i64 (pickOf L i).1, .bool (pickOf L i).2]) ∧ SysB w w' r b c f o cap v' L s ∧ Below wr.heap.size wr w') := Lib.hid (HSY.out.pick (n := (i : Int)) (by omega) (by omega))
        obtain ⟨ka, ok, hpk⟩ : ∃ ka ok, pickOf L i = (ka, ok) := ⟨_, _, rfl⟩
        have HPK := Lib.hid hpk
        rw [hpk] at PK
        by_cases hgo : i < F + 1000 ∧ ok = true
        · obtain ⟨hlt, rfl⟩ := hgo
          obtain ⟨j, x, c0, c1, rfl, hx, hd, hst, hs0, hs1, hF'⟩ := fair_round HFS.out (by omega) hpk
          have HX := Lib.hid hx
          have HD := Lib.hid hd
          have HST := Lib.hid hst
          have HS0 := Lib.hid hs0
          have HS1 := Lib.hid hs1
          have HF' := Lib.hid hF'
          have hlt' : (i : Int) < (F : Int) + 1000 := by omega
          clear hpk hx hd hst hs0 hs1 hF' HFS HPK
          go_upto_region 21 with (first | (go_at_call 12; refine PK.out.mono ?_; rintro e w3 ⟨rfl, y3, b3⟩; have Y3 := Lib.hid y3; clear y3 b3))
          go_upto_region 22 with (first | (go_at_call 13; refine (Y3.out.words (by rw [HS0.out]; simp)).mono ?_; rintro e w4 ⟨g, rfl, hg, ⟨cs, hcs, hcv⟩, y4, b4⟩; have Y4 := Lib.hid y4; have CS := Lib.hid hcs; have CV := Lib.hid hcv; have NG : Hid (g ∉ [f, b, c]) := (Lib.hid (by have q1 := Y3.out.sys.hm.hb.lt; have q2 := Y3.out.sys.hm.hc.lt; have q3 := (Y3.out.sys.rows (by have := (List.getElem?_eq_some_iff.1 HX.out).1; omega)).2.1; simp; omega)); rw [HS0.out]; clear y4 b4 hcs hcv hg))
          clear Y3 PK
          go_upto_region 23 with (first | (go_at_call 14; refine (Y4.out.step HX.out HD.out).mono ?_; rintro e w5 ⟨rfl, y5, f5⟩; rw [HST.out] at y5; have Y5 := Lib.hid y5; have CS5 := Lib.hid (CS.out.frm f5 NG.out); clear y5 f5))
          clear Y4 CS NG
          go_upto_region 24 with (first | (go_at_call 13; refine (Y5.out.words (by rw [HS1.out]; simp)).mono ?_; rintro e w6 ⟨g2, rfl, hg2, ⟨cs2, hcs2, hcv2⟩, y6, b6⟩; have Y6 := Lib.hid y6; have CS6 := Lib.hid (CS5.out.below b6); have CS2 := Lib.hid hcs2; have CV2 := Lib.hid hcv2; rw [HS1.out]; clear y6 b6 hcs2 hcv2 hg2))
          have q0 : w6.cell? ⟨g, 1, none⟩ = some (.int .i64 c0) := by
            have := CV.out 1 (by rw [HS0.out]; simp)
            rw [CS6.out.cell 1, this, HS0.out]; rfl
          have q1 : w6.cell? ⟨g2, 0, none⟩ = some (.int .i64 0) := by
            have := CV2.out 0 (by rw [HS1.out]; simp)
            rw [CS2.out.cell 0, this, HS1.out]; rfl
          have q2 : w6.cell? ⟨g2, 1, none⟩ = some (.int .i64 c1) := by
            have := CV2.out 1 (by rw [HS1.out]; simp)
            rw [CS2.out.cell 1, this, HS1.out]; rfl
          clear Y5 CS5 CS6 CS2 CV CV2
          by_cases hc0 : c0 = 0
          · by_cases hc1 : c1 = 0
            · have HE : Hid (FState (1 + N) K F (i + 1) (L.set j (holdM s x (j + 1)).1) (holdM s x (j + 1)).2 held) := Lib.hid (by have := HF'.out; rwa [if_neg (by simp [hc1])] at this)
              subst hc0 hc1
              clear HF'
              go_wp2_with fail
              go_roundw
              case rel => exact ⟨i + 1, _, _, _, by omega, by omega, rfl, by go_num, HE, Y6⟩
              case measure => simp [intOf]; omega
            · have HE : Hid (FState (1 + N) K F (i + 1) (L.set j (holdM s x (j + 1)).1) (holdM s x (j + 1)).2 (held + 1)) := Lib.hid (by have := HF'.out; rwa [if_pos ⟨hc0, hc1⟩] at this)
              have d1 : (c1 != 0) = true := by simpa using hc1
              have hh : held ≤ 100 := by
                obtain ⟨_, h8, h, _, _, hcnt, _⟩ := HE.out
                split at hcnt <;> omega
              subst hc0
              clear HF' hc1
              go_wp2_with fail
              go_roundw
              case rel => exact ⟨i + 1, held + 1, _, _, by omega, by omega, by go_num, by go_num, HE, Y6⟩
              case measure => simp [intOf]; omega
          · have HE : Hid (FState (1 + N) K F (i + 1) (L.set j (holdM s x (j + 1)).1) (holdM s x (j + 1)).2 held) := Lib.hid (by have := HF'.out; rwa [if_neg (by simp [hc0])] at this)
            have d1 : (c0 == 0) = false := by simpa using hc0
            clear HF' hc0
            go_wp2_with fail
            go_roundw
            case rel => exact ⟨i + 1, _, _, _, by omega, by omega, rfl, by go_num, HE, Y6⟩
            case measure => simp [intOf]; omega
        · have hend := fair_end HFS.out (by
            rcases Nat.lt_or_ge i (F + 1000) with h | h
            · right
              have : ok = false := by simpa [h] using hgo
              subst this
              exact pick_no hpk
            · exact .inl h)
          obtain ⟨rfl, hdone⟩ := hend
          have hLl := HFS.out.len
          have HD := Lib.hid hdone
          have HLl := Lib.hid hLl
          clear hdone hLl HFS
          by_cases hlt : i < F + 1000
          · have : ok = false := by simpa [hlt] using hgo
            subst this
            have hlt' : (i : Int) < (F : Int) + 1000 := by omega
            clear hgo hpk HPK
            go_upto_region 28 with (first | (go_at_call 12; refine PK.out.mono ?_; rintro e w3 ⟨rfl, y3, b3⟩; have Y3 := Lib.hid y3; clear y3 b3))
            go_upto_region 30 with (first | (go_at_call 15; refine Y3.out.all.mono ?_; rintro e w7 ⟨v7, rfl, hw7, y7, b7⟩; obtain ⟨g7, o7, cap7, rfl⟩ := hw7.form (by rw [HLl.out]; omega); rw [HLl.out] at hw7 ⊢; have HW7 := Lib.hid hw7; have Y7 := Lib.hid y7; clear hw7 y7 b7))
            clear Y3
            have hcell : Hid (∀ q : Nat, q < 1 + N → w7.cell? ⟨g7, o7 + q * 4, none⟩ = some (.bool true)) := Lib.hid (fun q hq => by
              obtain ⟨x, hx⟩ : ∃ x, L[q]? = some x := ⟨_, List.getElem?_eq_getElem (by rw [HLl.out]; exact hq)⟩
              have h1 := HW7.out.cells (q * 4) (by omega)
              have h2 := states_at L q x hx 0 (.bool x.done) rfl
              rw [h1, ← HD.out q x hx]; exact h2)
            have hgs := (HW7.out.lt g7 rfl).2
            go_loopw [20] (fun qv wr7 => ∃ q : Nat, q ≤ 1 + N ∧ qv = .int .i64 q ∧ wr7 = w7) (fun qv _ => 1 + N - (intOf qv).toNat)
            case atStart => exact ⟨0, by omega, rfl, rfl⟩
            case round =>
              obtain ⟨q, hq, rfl, rfl⟩ := hrel
              by_cases hql : q < 1 + N
              · have hc := hcell.out q hql
                have hq0 : (0 : Int) ≤ (q : Int) := by omega
                have hq1 : (q : Int) < ((1 + N : Nat) : Int) := by omega
                go_wp2_with fail
                go_roundw
                case rel => first | exact ⟨q + 1, by omega, by go_num, rfl⟩ | exact ⟨q + 1, by omega, by go_num, trivial⟩
                case measure => simp [intOf]; omega
              · obtain rfl : q = 1 + N := by omega
                go_wp2_with (first | (go_at_call 16; refine (known_any _).mono ?_; rintro e w9 ⟨rfl, b9⟩))
                go_ret
                exact ⟨rfl, Y7.out.bel.trans (b9.mono Y7.out.bel.size)⟩
          · have hlt' : ¬ (i : Int) < (F : Int) + 1000 := by omega
            have Y3 := HSY
            clear hgo hpk HPK PK
            go_upto_region 28 with fail
            go_upto_region 30 with (first | (go_at_call 15; refine Y3.out.all.mono ?_; rintro e w7 ⟨v7, rfl, hw7, y7, b7⟩; obtain ⟨g7, o7, cap7, rfl⟩ := hw7.form (by rw [HLl.out]; omega); rw [HLl.out] at hw7 ⊢; have HW7 := Lib.hid hw7; have Y7 := Lib.hid y7; clear hw7 y7 b7))
            clear Y3
            have hcell : Hid (∀ q : Nat, q < 1 + N → w7.cell? ⟨g7, o7 + q * 4, none⟩ = some (.bool true)) := Lib.hid (fun q hq => by
              obtain ⟨x, hx⟩ : ∃ x, L[q]? = some x := ⟨_, List.getElem?_eq_getElem (by rw [HLl.out]; exact hq)⟩
              have h1 := HW7.out.cells (q * 4) (by omega)
              have h2 := states_at L q x hx 0 (.bool x.done) rfl
              rw [h1, ← HD.out q x hx]; exact h2)
            have hgs := (HW7.out.lt g7 rfl).2
            go_loopw [20] (fun qv wr7 => ∃ q : Nat, q ≤ 1 + N ∧ qv = .int .i64 q ∧ wr7 = w7) (fun qv _ => 1 + N - (intOf qv).toNat)
            case atStart => exact ⟨0, by omega, rfl, rfl⟩
            case round =>
              obtain ⟨q, hq, rfl, rfl⟩ := hrel
              by_cases hql : q < 1 + N
              · have hc := hcell.out q hql
                have hq0 : (0 : Int) ≤ (q : Int) := by omega
                have hq1 : (q : Int) < ((1 + N : Nat) : Int) := by omega
                go_wp2_with fail
                go_roundw
                case rel => first | exact ⟨q + 1, by omega, by go_num, rfl⟩ | exact ⟨q + 1, by omega, by go_num, trivial⟩
                case measure => simp [intOf]; omega
              · obtain rfl : q = 1 + N := by omega
                go_wp2_with (first | (go_at_call 16; refine (known_any _).mono ?_; rintro e w9 ⟨rfl, b9⟩))
                go_ret
                exact ⟨rfl, Y7.out.bel.trans (b9.mono Y7.out.bel.size)⟩
end Go.Proofs.Ytmhmgenchpemkaa
