/- The walk of SpinLocks. -/
import Derived.Test.YtmhmgenchpemkaaLockLaw
namespace Go.Proofs.Ytmhmgenchpemkaa
open Go.RowKit

theorem wj {j : Nat} (h : j < 8) : wrap64 (j : Int) = (j : Int) := by unfold wrap64; omega
theorem wj0 {j : Nat} (h : j < 8) : (0 : Int) ≤ wrap64 (j : Int) := by rw [wj h]; omega
set_option maxRecDepth 100000 in
set_option maxHeartbeats 8000000 in
theorem locks_any (n k z : Int) (a : Option Addr) (len cap : Nat) (fp : Nat → Int) (w : World) (h1 : -9223372036854775808 ≤ n) (h2 : n ≤ 9223372036854775807) (h3 : -9223372036854775808 ≤ k) (h4 : k ≤ 9223372036854775807) (hz0 : -9223372036854775808 ≤ z) (hz1 : z ≤ 9223372036854775807) (hr : RowB w a len fp) (_hlen : len ≤ 9223372036854775807) :
    Calls Try.prog 7 #[.int .i64 n, .int .i64 k, .slice a len cap, .int .i64 z] w fun e w' => e = .returned (.bool true) ∧ Below w.heap.size w w' := by
  obtain ⟨N, hN, hN0⟩ := within_nat (lo := 0) (hi := 6) (n := n) (by decide) rfl
  obtain ⟨K, hK, hK0⟩ := within_nat (lo := 0) (hi := 8) (n := k) (by decide) rfl
  have E1 := Lib.hid (within_any n 0 6 w h1 h2 (by omega) (by omega) (by omega))
  have E2 := Lib.hid (within_any k 0 8 w h3 h4 (by omega) (by omega) (by omega))
  rw [hN] at E1
  rw [hK] at E2
  have HR := Lib.hid hr
  clear hN hK h1 h2 h3 h4 hr
  go_enter Try.func7, Try.ntmps7
  go_upto_region 2 with (first | (go_at_call 9; refine E1.out.mono ?_; rintro e w1 ⟨rfl, rfl⟩))
  go_upto_region 3 with (first | (go_at_call 9; refine E2.out.mono ?_; rintro e w1 ⟨rfl, rfl⟩))
  go_upto_region 4 with (first | (go_at_call 10; refine (new_int 1 w (by omega) (by omega)).mono ?_; rintro e w1 ⟨rfl, m1, B1⟩))
  have M1 : Hid (IsMem w1 (w.heap.size + 1) w.heap.size (MS.new 1)) := Lib.hid m1
  have HB1 := Lib.hid B1
  obtain ⟨b, hb⟩ : ∃ b, w.heap.size + 1 = b := ⟨_, rfl⟩
  obtain ⟨c, hc⟩ : ∃ c, w.heap.size = c := ⟨_, rfl⟩
  rw [hb, hc] at M1
  rw [hb]
  have HL : Hid (w.heap.size ≤ b ∧ w.heap.size ≤ c ∧ b < w1.heap.size ∧ c < w1.heap.size) := Lib.hid ⟨by omega, by omega, M1.out.hb.lt, M1.out.hc.lt⟩
  clear m1 B1 hb hc E1 E2
  obtain ⟨i29, hi, hz0', hz1', hz2'⟩ := info_parts info29
  go_wp2_with fail
  go_loopw [11, 12] (fun jv iv wr => ∃ m : Nat, m ≤ 1 + N ∧ iv = .int .i64 m ∧ Hid (Win wr w1.heap.size 29 5 jv m (jcells (List.replicate m (hjob 0 K)))) ∧ Hid (Below w.heap.size w wr) ∧ Hid (IsMem wr b c (MS.new 1)) ∧ Hid (w1.heap.size ≤ wr.heap.size)) (fun _ iv _ => 1 + N - (intOf iv).toNat)
  case atStart => exact ⟨0, by omega, rfl, Lib.hid (by simpa [jcells] using Win.nil _ _ 29 5), HB1, M1, Lib.hid (Nat.le_refl _)⟩
  case round =>
    obtain ⟨m, hm, rfl, HW, HB, HM, HS⟩ := hrel
    by_cases hlt : m < 1 + N
    · have hs := HS.out
      have hlt' : (m : Int) < 1 + (N : Int) := by omega
      go_wp2_with (first | (at_builtin; go_must (refine wpList_append_win _ rfl (.tmp 45) (.tmp 48) 27 rfl w1.heap.size 29 i29 _ 5 40 Try.underlying27 hi hz0' hz1' hz2' rfl (by decide) u11 m (jcells (List.replicate m (hjob 0 K))) (by simp [Act.eval]) (HW.out.alloc _) ⟨wr.heap.size, 0, none⟩ 1 1 (hjob 0 K).cells (by simp [Act.eval]) rfl (new_cells wr (hjob 0 K).cells _) (by simp [hjob, Jb.cells, Value.oneCell']) (by decide) (by unfold maxLen; omega) (by omega) (by simp; omega) ?_); intro f' o' cap' w4 hown hgrow hat; have HO := Lib.hid hown; have HG := Lib.hid hgrow; clear hown hgrow hat))
      go_roundw
      case rel =>
        refine ⟨m + 1, by omega, by go_num, Lib.hid ?_, Lib.hid ?_, Lib.hid ?_, Lib.hid ?_⟩
        · rw [List.replicate_succ', jcells_snoc]; exact HO.out
        · have := HL.out
          exact grown_below HB.out HB.out.size (HW.out.of_base (by omega)) HG.out
        · exact mem_grown HM.out HW.out HL.out.2.2.1 HL.out.2.2.2 HG.out
        · have := HG.out.size
          simp at this; omega
      case measure => simp [intOf]; omega
    · obtain rfl : m = 1 + N := by omega
      have hsys := sys_new (js := List.replicate (1 + N) (hjob 0 K)) (s := MS.new 1) (v := u11) HM.out (HW.out.jobs (by simp)) HB.out HL.out.1 HL.out.2.1 (by simp; omega) (by
        rw [List.any_eq_false]
        intro j hj
        rw [(List.mem_replicate.1 hj).2]
        simp [hjob, Jb.ok, hasI, MS.new]; omega)
      have HY := Lib.hid hsys
      clear hsys HW HM M1 HB1
      go_wp2_with (first | (go_at_call 11; refine HY.out.mono ?_; rintro e w2 ⟨r, f, o, cap', v', rfl, y1⟩; have Y1 := Lib.hid y1; clear y1))
      have LS0 : Hid (LState (1 + N) K ((List.replicate (1 + N) (hjob 0 K)).map Jb.mch) (MS.new 1) none) := Lib.hid ⟨by simp, rfl, hold_start 0 K (1 + N)⟩
      clear HY HB HS
      go_loopw [15] (fun iv wr => ∃ (i : Nat) (L : List Mch) (s : MS) (h : Option Nat), i ≤ 150 ∧ iv = .int .i64 i ∧ Hid (LState (1 + N) K L s h) ∧ Hid (SysB w wr r b c f o cap' v' L s)) (fun iv _ => 150 - (intOf iv).toNat)
      case atStart => exact ⟨0, _, _, _, by omega, rfl, LS0, Y1⟩
      case round =>
        obtain ⟨i, L, s, h, hi1, rfl, HLS, HSY⟩ := hrel
        clear LS0 Y1
        by_cases hlt : i < len
        · have hl1 : (i : Int) < (len : Int) := by omega
          have hi0 : (0 : Int) ≤ (i : Int) := by omega
          by_cases h150 : i < 150
          · have hl2 : (i : Int) < 150 := by omega
            obtain ⟨nn, hnn, hn0, hn1⟩ : ∃ nn, fp i = nn ∧ -9223372036854775808 ≤ nn ∧ nn ≤ 9223372036854775807 := ⟨_, rfl, by
              rcases HR.out with h | ⟨_, _, _, _, h⟩
              · omega
              · exact (h i hlt).2⟩
            obtain ⟨pb, po, hpa, hpl, hpc⟩ : ∃ pb po, a = some ⟨pb, po, none⟩ ∧ pb < wr.heap.size ∧ wr.cell? ⟨pb, po + i, none⟩ = some (.int .i64 nn) := by
              rcases HR.out with h | ⟨pb, po, h1, h2, h3⟩
              · omega
              · exact ⟨pb, po, h1, Nat.lt_of_lt_of_le h2 HSY.out.bel.size, by rw [← hnn]; exact (HSY.out.bel.cell (p := ⟨pb, po + i, none⟩) h2).trans (h3 i hlt).1⟩
            subst hpa
            clear hnn
            obtain ⟨ka, ok, hpk⟩ : ∃ ka ok, pickOf L nn = (ka, ok) := ⟨_, _, rfl⟩
            have PK : Hid (Calls Try.prog 12 #[.pointer (some ⟨r, 0, none⟩), .int .i64 nn] wr fun e w' => e = .returned (.tuple #[.int .i64 ka, .bool ok]) ∧ SysB w w' r b c f o cap' v' L s ∧ Below wr.heap.size wr w') := Lib.hid (by
              have := HSY.out.pick (n := nn) hn0 hn1
              rwa [hpk] at this)
            have HPK := Lib.hid hpk
            clear hpk
            go_upto_region 18 with (first | (go_at_call 12; refine PK.out.mono ?_; rintro e w4 ⟨rfl, y3, b3⟩; have Y3 := Lib.hid y3; clear y3 b3))
            clear PK HSY hpc
            cases ok
            · go_upto_region 24 with fail
              cases h with
              | none =>
                go_upto_region 25 with (first | (go_at_call 13; refine (Y3.out.words (by rw [HLS.out.ws]; simp)).mono ?_; rintro e w4 ⟨g4, rfl, hg, ⟨cs, hcs, hcv⟩, y4, b4⟩; have Y4 := Lib.hid y4; have q4 : w4.cell? ⟨g4, 0, none⟩ = some (.int .i64 0) := (by have := hcv 0 (by rw [HLS.out.ws]; simp); rw [hcs.cell 0, this, HLS.out.ws]; rfl); have gl4 := hcs.lt; rw [HLS.out.ws]; clear y4 b4 hcs hcv hg))
                clear Y3
                go_upto_region 31 with (first | (go_at_call 12; refine (Y4.out.pick (n := z) hz0 hz1).mono ?_; rintro e w6 ⟨rfl, y6, b6⟩; have Y6 := Lib.hid y6; clear y6 b6))
                obtain ⟨ka, ok, hpk⟩ : ∃ ka ok, pickOf L z = (ka, ok) := ⟨_, _, rfl⟩
                rw [hpk]
                have HPK := Lib.hid hpk
                clear hpk
                cases ok
                · go_wp2_with (first | (go_at_call 16; refine (known_any _).mono ?_; rintro e w9 ⟨rfl, b9⟩))
                  go_ret
                  exact ⟨rfl, Y6.out.bel.trans (b9.mono Y6.out.bel.size)⟩
                · obtain ⟨a1, x1, rfl, hx1, hd1, _⟩ := pick_yes HPK.out
                  have HA := Lib.hid (alone_start HLS.out hx1 hd1)
                  clear hx1 hd1
                  go_wp2_with fail
                  go_loopw [26] (fun iv wr => ∃ (t : Nat) (L : List Mch) (s : MS) (h : Option Nat), t ≤ K + 1 ∧ iv = .int .i64 t ∧ Hid (LState (1 + N) K L s h) ∧ Hid (Alone K L h a1 t) ∧ Hid (SysB w wr r b c f o cap' v' L s)) (fun iv _ => K + 1 - (intOf iv).toNat)
                  case atStart => exact ⟨0, _, _, _, by omega, rfl, HLS, HA, Y6⟩
                  case round =>
                    obtain ⟨t, L, s, h, ht, rfl, HLS, HA, HSY⟩ := hrel
                    clear Y6
                    obtain ⟨x, h', hx, hd, hst, hls, hgo, hfin⟩ := alone_go HLS.out (by omega) HA.out ht
                    have HX := Lib.hid hx
                    have HD := Lib.hid hd
                    have HST := Lib.hid hst
                    have HLS' := Lib.hid hls
                    have HGO := Lib.hid hgo
                    have HFIN := Lib.hid hfin
                    clear hx hd hst hls hgo hfin HLS
                    by_cases htk : t < K + 1
                    · have htk' : (t : Int) < (K : Int) + 1 := by omega
                      go_wp2_with (first | (go_at_call 14; refine (HSY.out.step HX.out HD.out).mono ?_; rintro e w5 ⟨rfl, y5, f5⟩; rw [HST.out] at y5; have Y5 := Lib.hid y5; clear y5 f5))
                      go_roundw
                      case rel => exact ⟨t + 1, _, _, _, by omega, by go_num, HLS', Lib.hid (HGO.out (by omega)), Y5⟩
                      case measure => simp [intOf]; omega
                    · have htk' : ¬ (t : Int) < (K : Int) + 1 := by omega
                      obtain ⟨hxd, rfl⟩ := HFIN.out (by omega)
                      go_upto_region 38 with (first | (go_at_call 14; refine (HSY.out.step HX.out HD.out).mono ?_; rintro e w5 ⟨rfl, y5, f5⟩; rw [HST.out] at y5 ⊢; have Y5 := Lib.hid y5; rw [state_done hxd]; clear y5 f5))
                      have B5 := (Below.refl w5.heap.size w5).alloc (Nat.le_refl _) (.cells #[.bool true, .int .i64 (holdM s x ((a1 : Int) + 1)).1.sa, .int .i64 (holdM s x ((a1 : Int) + 1)).1.sb, .int .i64 (holdM s x ((a1 : Int) + 1)).1.tries] 38)
                      have Y6 := Lib.hid (Y5.out.on B5)
                      clear B5 Y5
                      go_wp2_with (first | (go_at_call 13; refine (Y6.out.words (by rw [HLS'.out.ws]; simp)).mono ?_; rintro e w7 ⟨g7, rfl, hg, ⟨cs, hcs, hcv⟩, y4, b4⟩; have Y7 := Lib.hid y4; have q7 : w7.cell? ⟨g7, 0, none⟩ = some (.int .i64 0) := (by have := hcv 0 (by rw [HLS'.out.ws]; simp); rw [hcs.cell 0, this, HLS'.out.ws]; rfl); have gl7 := hcs.lt; rw [HLS'.out.ws]; clear y4 b4 hcs hcv hg) | (go_at_call 16; refine (known_any _).mono ?_; rintro e w9 ⟨rfl, b9⟩))
                      go_ret
                      exact ⟨rfl, Y7.out.bel.trans (b9.mono Y7.out.bel.size)⟩
              | some j =>
                go_upto_region 25 with (first | (go_at_call 13; refine (Y3.out.words (by rw [HLS.out.ws]; simp)).mono ?_; rintro e w4 ⟨g4, rfl, hg, ⟨cs, hcs, hcv⟩, y4, b4⟩; have Y4 := Lib.hid y4; have q4 : w4.cell? ⟨g4, 0, none⟩ = some (.int .i64 ((j : Int) + 1)) := (by have := hcv 0 (by rw [HLS.out.ws]; simp); rw [hcs.cell 0, this, HLS.out.ws]; rfl); have gl4 := hcs.lt; rw [HLS.out.ws]; clear y4 b4 hcs hcv hg))
                clear Y3
                have HE := Lib.hid (ends_start HLS.out)
                have j0 : (0 : Int) ≤ (j : Int) + 1 - 1 := by omega
                have hjn : j < 8 := by have := HLS.out.hi.hold j rfl; have := HLS.out.len; omega
                have jw := wj hjn
                have j1 := wj0 hjn
                go_wp2_with fail
                rw [jw]
                go_loopw [23] (fun iv wr => ∃ (t : Nat) (L : List Mch) (s : MS) (h : Option Nat), t ≤ K + 1 ∧ iv = .int .i64 t ∧ Hid (LState (1 + N) K L s h) ∧ Hid (Ends K L h j (K + 1 - t)) ∧ Hid (SysB w wr r b c f o cap' v' L s)) (fun iv _ => K + 1 - (intOf iv).toNat)
                case atStart => exact ⟨0, _, _, _, by omega, rfl, HLS, HE, Y4⟩
                case round =>
                  obtain ⟨t, L, s, h, ht, rfl, HLS, HE, HSY⟩ := hrel
                  clear Y4
                  by_cases htk : t < K + 1
                  · have htk' : (t : Int) < (K : Int) + 1 := by omega
                    obtain ⟨x, hx, hE⟩ := HE.out
                    have HX := Lib.hid hx
                    cases hd : x.done
                    · have HD := Lib.hid hd
                      obtain ⟨h', hst, hls, hen⟩ := ends_go HLS.out hx hd (by omega) (show Ends K L h j ((K - t) + 1) from by rw [show K - t + 1 = K + 1 - t from by omega]; exact HE.out)
                      have HST := Lib.hid hst
                      have HLS' := Lib.hid hls
                      have HEN := Lib.hid hen
                      clear hst hls hen hE hd hx
                      go_wp2_with (first | (go_at_call 14; refine (HSY.out.step HX.out HD.out).mono ?_; rintro e w5 ⟨rfl, y5, f5⟩; rw [HST.out] at y5; have Y5 := Lib.hid y5; clear y5 f5))
                      go_roundw
                      case rel => exact ⟨t + 1, _, _, _, by omega, by go_num, HLS', Lib.hid (by rw [show K + 1 - (t + 1) = K - t from by omega]; exact HEN.out), Y5⟩
                      case measure => simp [intOf]; omega
                    · have HD := Lib.hid hd
                      have hen : Ends K L h j (K - t) := ⟨x, hx, by
                        rcases hE with ⟨e, _⟩ | e
                        · rw [hd] at e; cases e
                        · exact .inr e⟩
                      have HEN := Lib.hid hen
                      clear hen hE hd hx
                      go_wp2_with (first | (go_at_call 14; refine (HSY.out.past HX.out HD.out).mono ?_; rintro e w5 ⟨rfl, y5, f5⟩; have Y5 := Lib.hid y5; clear y5 f5))
                      go_roundw
                      case rel => exact ⟨t + 1, _, _, _, by omega, by go_num, HLS, Lib.hid (by rw [show K + 1 - (t + 1) = K - t from by omega]; exact HEN.out), Y5⟩
                      case measure => simp [intOf]; omega
                  · have htk' : ¬ (t : Int) < (K : Int) + 1 := by omega
                    obtain rfl : h = none := ends_zero HLS.out (by have := HE.out; rwa [show K + 1 - t = 0 from by omega] at this)
                    have Y4 := HSY
                    clear HSY HE
                    go_upto_region 31 with (first | (go_at_call 12; refine (Y4.out.pick (n := z) hz0 hz1).mono ?_; rintro e w6 ⟨rfl, y6, b6⟩; have Y6 := Lib.hid y6; clear y6 b6))
                    obtain ⟨ka, ok, hpk⟩ : ∃ ka ok, pickOf L z = (ka, ok) := ⟨_, _, rfl⟩
                    rw [hpk]
                    have HPK := Lib.hid hpk
                    clear hpk
                    cases ok
                    · go_wp2_with (first | (go_at_call 16; refine (known_any _).mono ?_; rintro e w9 ⟨rfl, b9⟩))
                      go_ret
                      exact ⟨rfl, Y6.out.bel.trans (b9.mono Y6.out.bel.size)⟩
                    · obtain ⟨a1, x1, rfl, hx1, hd1, _⟩ := pick_yes HPK.out
                      have HA := Lib.hid (alone_start HLS.out hx1 hd1)
                      clear hx1 hd1
                      go_wp2_with fail
                      go_loopw [26] (fun iv wr => ∃ (t : Nat) (L : List Mch) (s : MS) (h : Option Nat), t ≤ K + 1 ∧ iv = .int .i64 t ∧ Hid (LState (1 + N) K L s h) ∧ Hid (Alone K L h a1 t) ∧ Hid (SysB w wr r b c f o cap' v' L s)) (fun iv _ => K + 1 - (intOf iv).toNat)
                      case atStart => exact ⟨0, _, _, _, by omega, rfl, HLS, HA, Y6⟩
                      case round =>
                        obtain ⟨t, L, s, h, ht, rfl, HLS, HA, HSY⟩ := hrel
                        clear Y6
                        obtain ⟨x, h', hx, hd, hst, hls, hgo, hfin⟩ := alone_go HLS.out (by omega) HA.out ht
                        have HX := Lib.hid hx
                        have HD := Lib.hid hd
                        have HST := Lib.hid hst
                        have HLS' := Lib.hid hls
                        have HGO := Lib.hid hgo
                        have HFIN := Lib.hid hfin
                        clear hx hd hst hls hgo hfin HLS
                        by_cases htk : t < K + 1
                        · have htk' : (t : Int) < (K : Int) + 1 := by omega
                          go_wp2_with (first | (go_at_call 14; refine (HSY.out.step HX.out HD.out).mono ?_; rintro e w5 ⟨rfl, y5, f5⟩; rw [HST.out] at y5; have Y5 := Lib.hid y5; clear y5 f5))
                          go_roundw
                          case rel => exact ⟨t + 1, _, _, _, by omega, by go_num, HLS', Lib.hid (HGO.out (by omega)), Y5⟩
                          case measure => simp [intOf]; omega
                        · have htk' : ¬ (t : Int) < (K : Int) + 1 := by omega
                          obtain ⟨hxd, rfl⟩ := HFIN.out (by omega)
                          go_upto_region 38 with (first | (go_at_call 14; refine (HSY.out.step HX.out HD.out).mono ?_; rintro e w5 ⟨rfl, y5, f5⟩; rw [HST.out] at y5 ⊢; have Y5 := Lib.hid y5; rw [state_done hxd]; clear y5 f5))
                          have B5 := (Below.refl w5.heap.size w5).alloc (Nat.le_refl _) (.cells #[.bool true, .int .i64 (holdM s x ((a1 : Int) + 1)).1.sa, .int .i64 (holdM s x ((a1 : Int) + 1)).1.sb, .int .i64 (holdM s x ((a1 : Int) + 1)).1.tries] 38)
                          have Y6 := Lib.hid (Y5.out.on B5)
                          clear B5 Y5
                          go_wp2_with (first | (go_at_call 13; refine (Y6.out.words (by rw [HLS'.out.ws]; simp)).mono ?_; rintro e w7 ⟨g7, rfl, hg, ⟨cs, hcs, hcv⟩, y4, b4⟩; have Y7 := Lib.hid y4; have q7 : w7.cell? ⟨g7, 0, none⟩ = some (.int .i64 0) := (by have := hcv 0 (by rw [HLS'.out.ws]; simp); rw [hcs.cell 0, this, HLS'.out.ws]; rfl); have gl7 := hcs.lt; rw [HLS'.out.ws]; clear y4 b4 hcs hcv hg) | (go_at_call 16; refine (known_any _).mono ?_; rintro e w9 ⟨rfl, b9⟩))
                          go_ret
                          exact ⟨rfl, Y7.out.bel.trans (b9.mono Y7.out.bel.size)⟩
            · obtain ⟨j, x, rfl, hx, hd, _⟩ := pick_yes HPK.out
              obtain ⟨h', hst, hls, hgo⟩ := HLS.out.go hx hd (by omega)
              have HX := Lib.hid hx
              have HD := Lib.hid hd
              have HST := Lib.hid hst
              have HLS' := Lib.hid hls
              have HT := turn_of hgo
              have hj8 : j < 8 := by have := (List.getElem?_eq_some_iff.1 hx).1; have := HLS.out.len; omega
              clear hx hd hst hls hgo HPK
              go_upto_region 20 with (first | (go_at_call 13; refine (Y3.out.words (by rw [HLS.out.ws]; simp)).mono ?_; rintro e w5 ⟨g4, rfl, hg, ⟨cs, hcs, hcv⟩, y4, b4⟩; have Y4 := Lib.hid y4; have q4 : w5.cell? ⟨g4, 0, none⟩ = some (.int .i64 (cOf h)) := (by have := hcv 0 (by rw [HLS.out.ws]; simp); rw [hcs.cell 0, this, HLS.out.ws]; rfl); have gl4 := hcs.lt; rw [HLS.out.ws]; clear y4 b4 hcs hcv hg))
              clear Y3
              clear q4 gl4
              go_upto_region 21 with (first | (go_at_call 14; refine (Y4.out.step HX.out HD.out).mono ?_; rintro e w6 ⟨rfl, y5, f5⟩; rw [HST.out] at y5 ⊢; simp only [Mch.state]; have Y5 := Lib.hid y5; clear y5 f5))
              have B5 := (Below.refl w6.heap.size w6).alloc (Nat.le_refl _) (.cells #[.bool (holdM s x ((j : Int) + 1)).1.done, .int .i64 (holdM s x ((j : Int) + 1)).1.sa, .int .i64 (holdM s x ((j : Int) + 1)).1.sb, .int .i64 (holdM s x ((j : Int) + 1)).1.tries] 38)
              have Y6 := Lib.hid (Y5.out.on B5)
              clear B5 Y5 Y4
              go_upto_region 22 with (first | (go_at_call 13; refine (Y6.out.words (by rw [HLS'.out.ws]; simp)).mono ?_; rintro e w7 ⟨g7, rfl, hg, ⟨cs, hcs, hcv⟩, y4, b4⟩; have Y7 := Lib.hid y4; have q7 : w7.cell? ⟨g7, 0, none⟩ = some (.int .i64 (cOf h')) := (by have := hcv 0 (by rw [HLS'.out.ws]; simp); rw [hcs.cell 0, this, HLS'.out.ws]; rfl); have gl7 := hcs.lt; rw [HLS'.out.ws]; have DB := Lib.hid b4; clear y4 b4 hcs hcv hg))
              have q8 : w7.cell? ⟨w6.heap.size, 0, none⟩ = some (.bool (holdM s x ((j : Int) + 1)).1.done) := (DB.out.cell (p := ⟨w6.heap.size, 0, none⟩) (by simp)).trans (World.cell?_alloc_new _ _ _ _)
              have ld8 : w6.heap.size < w7.heap.size := Nat.lt_of_lt_of_le (by simp) DB.out.size
              clear Y6 DB
              have T0 : ¬ ((j : Int) + 1 = 0) := by omega
              have T1 : ¬ (0 = (j : Int) + 1) := by omega
              obtain ⟨c0, hc0⟩ : ∃ c0, cOf h = c0 := ⟨_, rfl⟩
              obtain ⟨c1, hc1⟩ : ∃ c1, cOf h' = c1 := ⟨_, rfl⟩
              obtain ⟨dn, hdn⟩ : ∃ dn, (holdM s x ((j : Int) + 1)).1.done = dn := ⟨_, rfl⟩
              obtain ⟨db, hdb⟩ : ∃ db, w6.heap.size = db := ⟨_, rfl⟩
              rw [hc0, hc1, hdn] at HT
              rw [hc1] at q7
              rw [hdn, hdb] at q8
              rw [hdb] at ld8
              rw [hc0, hc1, hdb]
              clear hc0 hc1 hdn hdb
              cases HT with
              | same e hd =>
                subst e hd
                by_cases z0 : c1 = 0
                · subst z0
                  go_wp2_with fail
                  go_roundw
                  case rel => exact ⟨i + 1, _, _, _, by omega, by go_num, HLS', Y7⟩
                  case measure => simp [intOf]; omega
                · go_wp2_with fail
                  go_roundw
                  case rel => exact ⟨i + 1, _, _, _, by omega, by go_num, HLS', Y7⟩
                  case measure => simp [intOf]; omega
              | take e e' hd =>
                subst e e' hd
                go_wp2_with fail
                go_roundw
                case rel => exact ⟨i + 1, _, _, _, by omega, by go_num, HLS', Y7⟩
                case measure => simp [intOf]; omega
              | give e e' =>
                subst e e'
                cases dn
                · go_wp2_with fail
                  go_roundw
                  case rel => exact ⟨i + 1, _, _, _, by omega, by go_num, HLS', Y7⟩
                  case measure => simp [intOf]; omega
                · go_wp2_with fail
                  go_roundw
                  case rel => exact ⟨i + 1, _, _, _, by omega, by go_num, HLS', Y7⟩
                  case measure => simp [intOf]; omega
          · have hl2 : ¬ (i : Int) < 150 := by omega
            have Y3 := HSY
            clear HSY
            go_upto_region 24 with fail
            cases h with
            | none =>
              go_upto_region 25 with (first | (go_at_call 13; refine (Y3.out.words (by rw [HLS.out.ws]; simp)).mono ?_; rintro e w4 ⟨g4, rfl, hg, ⟨cs, hcs, hcv⟩, y4, b4⟩; have Y4 := Lib.hid y4; have q4 : w4.cell? ⟨g4, 0, none⟩ = some (.int .i64 0) := (by have := hcv 0 (by rw [HLS.out.ws]; simp); rw [hcs.cell 0, this, HLS.out.ws]; rfl); have gl4 := hcs.lt; rw [HLS.out.ws]; clear y4 b4 hcs hcv hg))
              clear Y3
              go_upto_region 31 with (first | (go_at_call 12; refine (Y4.out.pick (n := z) hz0 hz1).mono ?_; rintro e w6 ⟨rfl, y6, b6⟩; have Y6 := Lib.hid y6; clear y6 b6))
              obtain ⟨ka, ok, hpk⟩ : ∃ ka ok, pickOf L z = (ka, ok) := ⟨_, _, rfl⟩
              rw [hpk]
              have HPK := Lib.hid hpk
              clear hpk
              cases ok
              · go_wp2_with (first | (go_at_call 16; refine (known_any _).mono ?_; rintro e w9 ⟨rfl, b9⟩))
                go_ret
                exact ⟨rfl, Y6.out.bel.trans (b9.mono Y6.out.bel.size)⟩
              · obtain ⟨a1, x1, rfl, hx1, hd1, _⟩ := pick_yes HPK.out
                have HA := Lib.hid (alone_start HLS.out hx1 hd1)
                clear hx1 hd1
                go_wp2_with fail
                go_loopw [26] (fun iv wr => ∃ (t : Nat) (L : List Mch) (s : MS) (h : Option Nat), t ≤ K + 1 ∧ iv = .int .i64 t ∧ Hid (LState (1 + N) K L s h) ∧ Hid (Alone K L h a1 t) ∧ Hid (SysB w wr r b c f o cap' v' L s)) (fun iv _ => K + 1 - (intOf iv).toNat)
                case atStart => exact ⟨0, _, _, _, by omega, rfl, HLS, HA, Y6⟩
                case round =>
                  obtain ⟨t, L, s, h, ht, rfl, HLS, HA, HSY⟩ := hrel
                  clear Y6
                  obtain ⟨x, h', hx, hd, hst, hls, hgo, hfin⟩ := alone_go HLS.out (by omega) HA.out ht
                  have HX := Lib.hid hx
                  have HD := Lib.hid hd
                  have HST := Lib.hid hst
                  have HLS' := Lib.hid hls
                  have HGO := Lib.hid hgo
                  have HFIN := Lib.hid hfin
                  clear hx hd hst hls hgo hfin HLS
                  by_cases htk : t < K + 1
                  · have htk' : (t : Int) < (K : Int) + 1 := by omega
                    go_wp2_with (first | (go_at_call 14; refine (HSY.out.step HX.out HD.out).mono ?_; rintro e w5 ⟨rfl, y5, f5⟩; rw [HST.out] at y5; have Y5 := Lib.hid y5; clear y5 f5))
                    go_roundw
                    case rel => exact ⟨t + 1, _, _, _, by omega, by go_num, HLS', Lib.hid (HGO.out (by omega)), Y5⟩
                    case measure => simp [intOf]; omega
                  · have htk' : ¬ (t : Int) < (K : Int) + 1 := by omega
                    obtain ⟨hxd, rfl⟩ := HFIN.out (by omega)
                    go_upto_region 38 with (first | (go_at_call 14; refine (HSY.out.step HX.out HD.out).mono ?_; rintro e w5 ⟨rfl, y5, f5⟩; rw [HST.out] at y5 ⊢; have Y5 := Lib.hid y5; rw [state_done hxd]; clear y5 f5))
                    have B5 := (Below.refl w5.heap.size w5).alloc (Nat.le_refl _) (.cells #[.bool true, .int .i64 (holdM s x ((a1 : Int) + 1)).1.sa, .int .i64 (holdM s x ((a1 : Int) + 1)).1.sb, .int .i64 (holdM s x ((a1 : Int) + 1)).1.tries] 38)
                    have Y6 := Lib.hid (Y5.out.on B5)
                    clear B5 Y5
                    go_wp2_with (first | (go_at_call 13; refine (Y6.out.words (by rw [HLS'.out.ws]; simp)).mono ?_; rintro e w7 ⟨g7, rfl, hg, ⟨cs, hcs, hcv⟩, y4, b4⟩; have Y7 := Lib.hid y4; have q7 : w7.cell? ⟨g7, 0, none⟩ = some (.int .i64 0) := (by have := hcv 0 (by rw [HLS'.out.ws]; simp); rw [hcs.cell 0, this, HLS'.out.ws]; rfl); have gl7 := hcs.lt; rw [HLS'.out.ws]; clear y4 b4 hcs hcv hg) | (go_at_call 16; refine (known_any _).mono ?_; rintro e w9 ⟨rfl, b9⟩))
                    go_ret
                    exact ⟨rfl, Y7.out.bel.trans (b9.mono Y7.out.bel.size)⟩
            | some j =>
              go_upto_region 25 with (first | (go_at_call 13; refine (Y3.out.words (by rw [HLS.out.ws]; simp)).mono ?_; rintro e w4 ⟨g4, rfl, hg, ⟨cs, hcs, hcv⟩, y4, b4⟩; have Y4 := Lib.hid y4; have q4 : w4.cell? ⟨g4, 0, none⟩ = some (.int .i64 ((j : Int) + 1)) := (by have := hcv 0 (by rw [HLS.out.ws]; simp); rw [hcs.cell 0, this, HLS.out.ws]; rfl); have gl4 := hcs.lt; rw [HLS.out.ws]; clear y4 b4 hcs hcv hg))
              clear Y3
              have HE := Lib.hid (ends_start HLS.out)
              have j0 : (0 : Int) ≤ (j : Int) + 1 - 1 := by omega
              have hjn : j < 8 := by have := HLS.out.hi.hold j rfl; have := HLS.out.len; omega
              have jw := wj hjn
              have j1 := wj0 hjn
              go_wp2_with fail
              rw [jw]
              go_loopw [23] (fun iv wr => ∃ (t : Nat) (L : List Mch) (s : MS) (h : Option Nat), t ≤ K + 1 ∧ iv = .int .i64 t ∧ Hid (LState (1 + N) K L s h) ∧ Hid (Ends K L h j (K + 1 - t)) ∧ Hid (SysB w wr r b c f o cap' v' L s)) (fun iv _ => K + 1 - (intOf iv).toNat)
              case atStart => exact ⟨0, _, _, _, by omega, rfl, HLS, HE, Y4⟩
              case round =>
                obtain ⟨t, L, s, h, ht, rfl, HLS, HE, HSY⟩ := hrel
                clear Y4
                by_cases htk : t < K + 1
                · have htk' : (t : Int) < (K : Int) + 1 := by omega
                  obtain ⟨x, hx, hE⟩ := HE.out
                  have HX := Lib.hid hx
                  cases hd : x.done
                  · have HD := Lib.hid hd
                    obtain ⟨h', hst, hls, hen⟩ := ends_go HLS.out hx hd (by omega) (show Ends K L h j ((K - t) + 1) from by rw [show K - t + 1 = K + 1 - t from by omega]; exact HE.out)
                    have HST := Lib.hid hst
                    have HLS' := Lib.hid hls
                    have HEN := Lib.hid hen
                    clear hst hls hen hE hd hx
                    go_wp2_with (first | (go_at_call 14; refine (HSY.out.step HX.out HD.out).mono ?_; rintro e w5 ⟨rfl, y5, f5⟩; rw [HST.out] at y5; have Y5 := Lib.hid y5; clear y5 f5))
                    go_roundw
                    case rel => exact ⟨t + 1, _, _, _, by omega, by go_num, HLS', Lib.hid (by rw [show K + 1 - (t + 1) = K - t from by omega]; exact HEN.out), Y5⟩
                    case measure => simp [intOf]; omega
                  · have HD := Lib.hid hd
                    have hen : Ends K L h j (K - t) := ⟨x, hx, by
                      rcases hE with ⟨e, _⟩ | e
                      · rw [hd] at e; cases e
                      · exact .inr e⟩
                    have HEN := Lib.hid hen
                    clear hen hE hd hx
                    go_wp2_with (first | (go_at_call 14; refine (HSY.out.past HX.out HD.out).mono ?_; rintro e w5 ⟨rfl, y5, f5⟩; have Y5 := Lib.hid y5; clear y5 f5))
                    go_roundw
                    case rel => exact ⟨t + 1, _, _, _, by omega, by go_num, HLS, Lib.hid (by rw [show K + 1 - (t + 1) = K - t from by omega]; exact HEN.out), Y5⟩
                    case measure => simp [intOf]; omega
                · have htk' : ¬ (t : Int) < (K : Int) + 1 := by omega
                  obtain rfl : h = none := ends_zero HLS.out (by have := HE.out; rwa [show K + 1 - t = 0 from by omega] at this)
                  have Y4 := HSY
                  clear HSY HE
                  go_upto_region 31 with (first | (go_at_call 12; refine (Y4.out.pick (n := z) hz0 hz1).mono ?_; rintro e w6 ⟨rfl, y6, b6⟩; have Y6 := Lib.hid y6; clear y6 b6))
                  obtain ⟨ka, ok, hpk⟩ : ∃ ka ok, pickOf L z = (ka, ok) := ⟨_, _, rfl⟩
                  rw [hpk]
                  have HPK := Lib.hid hpk
                  clear hpk
                  cases ok
                  · go_wp2_with (first | (go_at_call 16; refine (known_any _).mono ?_; rintro e w9 ⟨rfl, b9⟩))
                    go_ret
                    exact ⟨rfl, Y6.out.bel.trans (b9.mono Y6.out.bel.size)⟩
                  · obtain ⟨a1, x1, rfl, hx1, hd1, _⟩ := pick_yes HPK.out
                    have HA := Lib.hid (alone_start HLS.out hx1 hd1)
                    clear hx1 hd1
                    go_wp2_with fail
                    go_loopw [26] (fun iv wr => ∃ (t : Nat) (L : List Mch) (s : MS) (h : Option Nat), t ≤ K + 1 ∧ iv = .int .i64 t ∧ Hid (LState (1 + N) K L s h) ∧ Hid (Alone K L h a1 t) ∧ Hid (SysB w wr r b c f o cap' v' L s)) (fun iv _ => K + 1 - (intOf iv).toNat)
                    case atStart => exact ⟨0, _, _, _, by omega, rfl, HLS, HA, Y6⟩
                    case round =>
                      obtain ⟨t, L, s, h, ht, rfl, HLS, HA, HSY⟩ := hrel
                      clear Y6
                      obtain ⟨x, h', hx, hd, hst, hls, hgo, hfin⟩ := alone_go HLS.out (by omega) HA.out ht
                      have HX := Lib.hid hx
                      have HD := Lib.hid hd
                      have HST := Lib.hid hst
                      have HLS' := Lib.hid hls
                      have HGO := Lib.hid hgo
                      have HFIN := Lib.hid hfin
                      clear hx hd hst hls hgo hfin HLS
                      by_cases htk : t < K + 1
                      · have htk' : (t : Int) < (K : Int) + 1 := by omega
                        go_wp2_with (first | (go_at_call 14; refine (HSY.out.step HX.out HD.out).mono ?_; rintro e w5 ⟨rfl, y5, f5⟩; rw [HST.out] at y5; have Y5 := Lib.hid y5; clear y5 f5))
                        go_roundw
                        case rel => exact ⟨t + 1, _, _, _, by omega, by go_num, HLS', Lib.hid (HGO.out (by omega)), Y5⟩
                        case measure => simp [intOf]; omega
                      · have htk' : ¬ (t : Int) < (K : Int) + 1 := by omega
                        obtain ⟨hxd, rfl⟩ := HFIN.out (by omega)
                        go_upto_region 38 with (first | (go_at_call 14; refine (HSY.out.step HX.out HD.out).mono ?_; rintro e w5 ⟨rfl, y5, f5⟩; rw [HST.out] at y5 ⊢; have Y5 := Lib.hid y5; rw [state_done hxd]; clear y5 f5))
                        have B5 := (Below.refl w5.heap.size w5).alloc (Nat.le_refl _) (.cells #[.bool true, .int .i64 (holdM s x ((a1 : Int) + 1)).1.sa, .int .i64 (holdM s x ((a1 : Int) + 1)).1.sb, .int .i64 (holdM s x ((a1 : Int) + 1)).1.tries] 38)
                        have Y6 := Lib.hid (Y5.out.on B5)
                        clear B5 Y5
                        go_wp2_with (first | (go_at_call 13; refine (Y6.out.words (by rw [HLS'.out.ws]; simp)).mono ?_; rintro e w7 ⟨g7, rfl, hg, ⟨cs, hcs, hcv⟩, y4, b4⟩; have Y7 := Lib.hid y4; have q7 : w7.cell? ⟨g7, 0, none⟩ = some (.int .i64 0) := (by have := hcv 0 (by rw [HLS'.out.ws]; simp); rw [hcs.cell 0, this, HLS'.out.ws]; rfl); have gl7 := hcs.lt; rw [HLS'.out.ws]; clear y4 b4 hcs hcv hg) | (go_at_call 16; refine (known_any _).mono ?_; rintro e w9 ⟨rfl, b9⟩))
                        go_ret
                        exact ⟨rfl, Y7.out.bel.trans (b9.mono Y7.out.bel.size)⟩
        · have hl1 : ¬ (i : Int) < (len : Int) := by omega
          have Y3 := HSY
          clear HSY
          go_upto_region 24 with fail
          cases h with
          | none =>
            go_upto_region 25 with (first | (go_at_call 13; refine (Y3.out.words (by rw [HLS.out.ws]; simp)).mono ?_; rintro e w4 ⟨g4, rfl, hg, ⟨cs, hcs, hcv⟩, y4, b4⟩; have Y4 := Lib.hid y4; have q4 : w4.cell? ⟨g4, 0, none⟩ = some (.int .i64 0) := (by have := hcv 0 (by rw [HLS.out.ws]; simp); rw [hcs.cell 0, this, HLS.out.ws]; rfl); have gl4 := hcs.lt; rw [HLS.out.ws]; clear y4 b4 hcs hcv hg))
            clear Y3
            go_upto_region 31 with (first | (go_at_call 12; refine (Y4.out.pick (n := z) hz0 hz1).mono ?_; rintro e w6 ⟨rfl, y6, b6⟩; have Y6 := Lib.hid y6; clear y6 b6))
            obtain ⟨ka, ok, hpk⟩ : ∃ ka ok, pickOf L z = (ka, ok) := ⟨_, _, rfl⟩
            rw [hpk]
            have HPK := Lib.hid hpk
            clear hpk
            cases ok
            · go_wp2_with (first | (go_at_call 16; refine (known_any _).mono ?_; rintro e w9 ⟨rfl, b9⟩))
              go_ret
              exact ⟨rfl, Y6.out.bel.trans (b9.mono Y6.out.bel.size)⟩
            · obtain ⟨a1, x1, rfl, hx1, hd1, _⟩ := pick_yes HPK.out
              have HA := Lib.hid (alone_start HLS.out hx1 hd1)
              clear hx1 hd1
              go_wp2_with fail
              go_loopw [26] (fun iv wr => ∃ (t : Nat) (L : List Mch) (s : MS) (h : Option Nat), t ≤ K + 1 ∧ iv = .int .i64 t ∧ Hid (LState (1 + N) K L s h) ∧ Hid (Alone K L h a1 t) ∧ Hid (SysB w wr r b c f o cap' v' L s)) (fun iv _ => K + 1 - (intOf iv).toNat)
              case atStart => exact ⟨0, _, _, _, by omega, rfl, HLS, HA, Y6⟩
              case round =>
                obtain ⟨t, L, s, h, ht, rfl, HLS, HA, HSY⟩ := hrel
                clear Y6
                obtain ⟨x, h', hx, hd, hst, hls, hgo, hfin⟩ := alone_go HLS.out (by omega) HA.out ht
                have HX := Lib.hid hx
                have HD := Lib.hid hd
                have HST := Lib.hid hst
                have HLS' := Lib.hid hls
                have HGO := Lib.hid hgo
                have HFIN := Lib.hid hfin
                clear hx hd hst hls hgo hfin HLS
                by_cases htk : t < K + 1
                · have htk' : (t : Int) < (K : Int) + 1 := by omega
                  go_wp2_with (first | (go_at_call 14; refine (HSY.out.step HX.out HD.out).mono ?_; rintro e w5 ⟨rfl, y5, f5⟩; rw [HST.out] at y5; have Y5 := Lib.hid y5; clear y5 f5))
                  go_roundw
                  case rel => exact ⟨t + 1, _, _, _, by omega, by go_num, HLS', Lib.hid (HGO.out (by omega)), Y5⟩
                  case measure => simp [intOf]; omega
                · have htk' : ¬ (t : Int) < (K : Int) + 1 := by omega
                  obtain ⟨hxd, rfl⟩ := HFIN.out (by omega)
                  go_upto_region 38 with (first | (go_at_call 14; refine (HSY.out.step HX.out HD.out).mono ?_; rintro e w5 ⟨rfl, y5, f5⟩; rw [HST.out] at y5 ⊢; have Y5 := Lib.hid y5; rw [state_done hxd]; clear y5 f5))
                  have B5 := (Below.refl w5.heap.size w5).alloc (Nat.le_refl _) (.cells #[.bool true, .int .i64 (holdM s x ((a1 : Int) + 1)).1.sa, .int .i64 (holdM s x ((a1 : Int) + 1)).1.sb, .int .i64 (holdM s x ((a1 : Int) + 1)).1.tries] 38)
                  have Y6 := Lib.hid (Y5.out.on B5)
                  clear B5 Y5
                  go_wp2_with (first | (go_at_call 13; refine (Y6.out.words (by rw [HLS'.out.ws]; simp)).mono ?_; rintro e w7 ⟨g7, rfl, hg, ⟨cs, hcs, hcv⟩, y4, b4⟩; have Y7 := Lib.hid y4; have q7 : w7.cell? ⟨g7, 0, none⟩ = some (.int .i64 0) := (by have := hcv 0 (by rw [HLS'.out.ws]; simp); rw [hcs.cell 0, this, HLS'.out.ws]; rfl); have gl7 := hcs.lt; rw [HLS'.out.ws]; clear y4 b4 hcs hcv hg) | (go_at_call 16; refine (known_any _).mono ?_; rintro e w9 ⟨rfl, b9⟩))
                  go_ret
                  exact ⟨rfl, Y7.out.bel.trans (b9.mono Y7.out.bel.size)⟩
          | some j =>
            go_upto_region 25 with (first | (go_at_call 13; refine (Y3.out.words (by rw [HLS.out.ws]; simp)).mono ?_; rintro e w4 ⟨g4, rfl, hg, ⟨cs, hcs, hcv⟩, y4, b4⟩; have Y4 := Lib.hid y4; have q4 : w4.cell? ⟨g4, 0, none⟩ = some (.int .i64 ((j : Int) + 1)) := (by have := hcv 0 (by rw [HLS.out.ws]; simp); rw [hcs.cell 0, this, HLS.out.ws]; rfl); have gl4 := hcs.lt; rw [HLS.out.ws]; clear y4 b4 hcs hcv hg))
            clear Y3
            have HE := Lib.hid (ends_start HLS.out)
            have j0 : (0 : Int) ≤ (j : Int) + 1 - 1 := by omega
            have hjn : j < 8 := by have := HLS.out.hi.hold j rfl; have := HLS.out.len; omega
            have jw := wj hjn
            have j1 := wj0 hjn
            go_wp2_with fail
            rw [jw]
            go_loopw [23] (fun iv wr => ∃ (t : Nat) (L : List Mch) (s : MS) (h : Option Nat), t ≤ K + 1 ∧ iv = .int .i64 t ∧ Hid (LState (1 + N) K L s h) ∧ Hid (Ends K L h j (K + 1 - t)) ∧ Hid (SysB w wr r b c f o cap' v' L s)) (fun iv _ => K + 1 - (intOf iv).toNat)
            case atStart => exact ⟨0, _, _, _, by omega, rfl, HLS, HE, Y4⟩
            case round =>
              obtain ⟨t, L, s, h, ht, rfl, HLS, HE, HSY⟩ := hrel
              clear Y4
              by_cases htk : t < K + 1
              · have htk' : (t : Int) < (K : Int) + 1 := by omega
                obtain ⟨x, hx, hE⟩ := HE.out
                have HX := Lib.hid hx
                cases hd : x.done
                · have HD := Lib.hid hd
                  obtain ⟨h', hst, hls, hen⟩ := ends_go HLS.out hx hd (by omega) (show Ends K L h j ((K - t) + 1) from by rw [show K - t + 1 = K + 1 - t from by omega]; exact HE.out)
                  have HST := Lib.hid hst
                  have HLS' := Lib.hid hls
                  have HEN := Lib.hid hen
                  clear hst hls hen hE hd hx
                  go_wp2_with (first | (go_at_call 14; refine (HSY.out.step HX.out HD.out).mono ?_; rintro e w5 ⟨rfl, y5, f5⟩; rw [HST.out] at y5; have Y5 := Lib.hid y5; clear y5 f5))
                  go_roundw
                  case rel => exact ⟨t + 1, _, _, _, by omega, by go_num, HLS', Lib.hid (by rw [show K + 1 - (t + 1) = K - t from by omega]; exact HEN.out), Y5⟩
                  case measure => simp [intOf]; omega
                · have HD := Lib.hid hd
                  have hen : Ends K L h j (K - t) := ⟨x, hx, by
                    rcases hE with ⟨e, _⟩ | e
                    · rw [hd] at e; cases e
                    · exact .inr e⟩
                  have HEN := Lib.hid hen
                  clear hen hE hd hx
                  go_wp2_with (first | (go_at_call 14; refine (HSY.out.past HX.out HD.out).mono ?_; rintro e w5 ⟨rfl, y5, f5⟩; have Y5 := Lib.hid y5; clear y5 f5))
                  go_roundw
                  case rel => exact ⟨t + 1, _, _, _, by omega, by go_num, HLS, Lib.hid (by rw [show K + 1 - (t + 1) = K - t from by omega]; exact HEN.out), Y5⟩
                  case measure => simp [intOf]; omega
              · have htk' : ¬ (t : Int) < (K : Int) + 1 := by omega
                obtain rfl : h = none := ends_zero HLS.out (by have := HE.out; rwa [show K + 1 - t = 0 from by omega] at this)
                have Y4 := HSY
                clear HSY HE
                go_upto_region 31 with (first | (go_at_call 12; refine (Y4.out.pick (n := z) hz0 hz1).mono ?_; rintro e w6 ⟨rfl, y6, b6⟩; have Y6 := Lib.hid y6; clear y6 b6))
                obtain ⟨ka, ok, hpk⟩ : ∃ ka ok, pickOf L z = (ka, ok) := ⟨_, _, rfl⟩
                rw [hpk]
                have HPK := Lib.hid hpk
                clear hpk
                cases ok
                · go_wp2_with (first | (go_at_call 16; refine (known_any _).mono ?_; rintro e w9 ⟨rfl, b9⟩))
                  go_ret
                  exact ⟨rfl, Y6.out.bel.trans (b9.mono Y6.out.bel.size)⟩
                · obtain ⟨a1, x1, rfl, hx1, hd1, _⟩ := pick_yes HPK.out
                  have HA := Lib.hid (alone_start HLS.out hx1 hd1)
                  clear hx1 hd1
                  go_wp2_with fail
                  go_loopw [26] (fun iv wr => ∃ (t : Nat) (L : List Mch) (s : MS) (h : Option Nat), t ≤ K + 1 ∧ iv = .int .i64 t ∧ Hid (LState (1 + N) K L s h) ∧ Hid (Alone K L h a1 t) ∧ Hid (SysB w wr r b c f o cap' v' L s)) (fun iv _ => K + 1 - (intOf iv).toNat)
                  case atStart => exact ⟨0, _, _, _, by omega, rfl, HLS, HA, Y6⟩
                  case round =>
                    obtain ⟨t, L, s, h, ht, rfl, HLS, HA, HSY⟩ := hrel
                    clear Y6
                    obtain ⟨x, h', hx, hd, hst, hls, hgo, hfin⟩ := alone_go HLS.out (by omega) HA.out ht
                    have HX := Lib.hid hx
                    have HD := Lib.hid hd
                    have HST := Lib.hid hst
                    have HLS' := Lib.hid hls
                    have HGO := Lib.hid hgo
                    have HFIN := Lib.hid hfin
                    clear hx hd hst hls hgo hfin HLS
                    by_cases htk : t < K + 1
                    · have htk' : (t : Int) < (K : Int) + 1 := by omega
                      go_wp2_with (first | (go_at_call 14; refine (HSY.out.step HX.out HD.out).mono ?_; rintro e w5 ⟨rfl, y5, f5⟩; rw [HST.out] at y5; have Y5 := Lib.hid y5; clear y5 f5))
                      go_roundw
                      case rel => exact ⟨t + 1, _, _, _, by omega, by go_num, HLS', Lib.hid (HGO.out (by omega)), Y5⟩
                      case measure => simp [intOf]; omega
                    · have htk' : ¬ (t : Int) < (K : Int) + 1 := by omega
                      obtain ⟨hxd, rfl⟩ := HFIN.out (by omega)
                      go_upto_region 38 with (first | (go_at_call 14; refine (HSY.out.step HX.out HD.out).mono ?_; rintro e w5 ⟨rfl, y5, f5⟩; rw [HST.out] at y5 ⊢; have Y5 := Lib.hid y5; rw [state_done hxd]; clear y5 f5))
                      have B5 := (Below.refl w5.heap.size w5).alloc (Nat.le_refl _) (.cells #[.bool true, .int .i64 (holdM s x ((a1 : Int) + 1)).1.sa, .int .i64 (holdM s x ((a1 : Int) + 1)).1.sb, .int .i64 (holdM s x ((a1 : Int) + 1)).1.tries] 38)
                      have Y6 := Lib.hid (Y5.out.on B5)
                      clear B5 Y5
                      go_wp2_with (first | (go_at_call 13; refine (Y6.out.words (by rw [HLS'.out.ws]; simp)).mono ?_; rintro e w7 ⟨g7, rfl, hg, ⟨cs, hcs, hcv⟩, y4, b4⟩; have Y7 := Lib.hid y4; have q7 : w7.cell? ⟨g7, 0, none⟩ = some (.int .i64 0) := (by have := hcv 0 (by rw [HLS'.out.ws]; simp); rw [hcs.cell 0, this, HLS'.out.ws]; rfl); have gl7 := hcs.lt; rw [HLS'.out.ws]; clear y4 b4 hcs hcv hg) | (go_at_call 16; refine (known_any _).mono ?_; rintro e w9 ⟨rfl, b9⟩))
                      go_ret
                      exact ⟨rfl, Y7.out.bel.trans (b9.mono Y7.out.bel.size)⟩
end Go.Proofs.Ytmhmgenchpemkaa
