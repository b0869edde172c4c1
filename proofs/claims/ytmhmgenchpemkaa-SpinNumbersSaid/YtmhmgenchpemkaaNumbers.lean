/- The walk of SpinNumbers. -/
import Derived.Test.YtmhmgenchpemkaaNumLaw
namespace Go.Proofs.Ytmhmgenchpemkaa
open Go.RowKit

set_option maxRecDepth 100000 in
set_option maxHeartbeats 8000000 in
theorem numbers_any (w : World) : Calls Try.prog 6 #[] w fun e w' => e = .returned (.bool true) ∧ Below w.heap.size w w' := by
  go_enter Try.func6, Try.ntmps6
  go_upto_region 2 with (first | (go_at_call 11; refine (nil_new w).mono ?_; rintro e w0 ⟨rfl, b0⟩; have HB0 := Lib.hid b0; clear b0))
  go_upto_region 3 with (first | (go_at_call 10; refine (new_int 4 w0 (by omega) (by omega)).mono ?_; rintro e w1 ⟨rfl, m1, B1⟩))
  have M1 : Hid (IsMem w1 (w0.heap.size + 1) w0.heap.size (MS.new 4)) := Lib.hid m1
  have HB1 := Lib.hid (HB0.out.trans (B1.mono HB0.out.size))
  obtain ⟨b, hb⟩ : ∃ b, w0.heap.size + 1 = b := ⟨_, rfl⟩
  obtain ⟨c, hc⟩ : ∃ c, w0.heap.size = c := ⟨_, rfl⟩
  rw [hb, hc] at M1
  rw [hb]
  have HL : Hid (w.heap.size ≤ b ∧ w.heap.size ≤ c) := Lib.hid (by have := HB0.out.size; omega)
  clear m1 B1 hb hc HB0
  go_upto_region 4 with (first | (go_at_call 11; refine (bad_new M1.out _ (jobs_new w1 [⟨2, 2, 0, 0, 0⟩] 29 1) (by simp) nbad1).mono ?_; rintro e w2 ⟨rfl, m3, b3⟩; have M2 := Lib.hid m3; have HB2 := Lib.hid (HB1.out.trans (b3.mono HB1.out.size)); clear m3 b3))
  clear M1 HB1
  go_upto_region 5 with (first | (go_at_call 11; refine (bad_new M2.out _ (jobs_new w2 [⟨4, 0, 0, 0, 0⟩] 29 1) (by simp) nbad2).mono ?_; rintro e w3 ⟨rfl, m3, b3⟩; have M3 := Lib.hid m3; have HB3 := Lib.hid (HB2.out.trans (b3.mono HB2.out.size)); clear m3 b3))
  clear M2 HB2
  go_upto_region 6 with (first | (go_at_call 11; refine (bad_new M3.out _ (jobs_new w3 [⟨1, 0, 101, 0, 0⟩] 29 1) (by simp) nbad3).mono ?_; rintro e w4 ⟨rfl, m3, b3⟩; have M4 := Lib.hid m3; have HB4 := Lib.hid (HB3.out.trans (b3.mono HB3.out.size)); clear m3 b3))
  clear M3 HB3
  have hmk := make9
  go_upto_region 7 with (first | (go_at_call 11; refine (bad_new M4.out _ (jobs_new w4 nj9 29 9) (by simp [nj9]) nbad4).mono ?_; rintro e w5 ⟨rfl, m3, b3⟩; have M5 := Lib.hid m3; have HB5 := Lib.hid (HB4.out.trans (b3.mono HB4.out.size)); clear m3 b3))
  clear hmk M4 HB4
  have X : Hid (Calls Try.prog 11 #[.pointer (some ⟨b, 0, none⟩), .slice (some ⟨w5.heap.size, 0, none⟩) 2 2] (w5.alloc (.cells (nj.flatMap Jb.cells).toArray 29)) fun e w' => ∃ r f o cap v', e = .returned (.tuple #[.pointer (some ⟨r, 0, none⟩), .int .i64 0]) ∧ SysB w w' r b c f o cap v' (nrun 0).1 (nrun 0).2) := Lib.hid (by
    have B := HB5.out.alloc HB5.out.size (.cells (nj.flatMap Jb.cells).toArray 29)
    exact sys_new (js := nj) (s := MS.new 4) (M5.out.frm (l := []) (.of_below ((Below.refl _ _).alloc (Nat.le_refl _) _)) (by simp) (by simp)) (jobs_new w5 nj 29 2) B HL.out.1 HL.out.2 (by simp [nj]) nok)
  go_upto_region 8 with (first | (go_at_call 11; refine X.out.mono ?_; rintro e w6 ⟨r, f, o, cap, v', rfl, y1⟩; have Y1 := Lib.hid y1; clear y1))
  clear X M5 HB5
  obtain ⟨i29, hi, hz0, hz1, hz2⟩ := info_parts info29
  have hN : Hid (w.heap.size ≤ w6.heap.size) := Lib.hid Y1.out.bel.size
  go_wp2_with fail
  go_loopw [15, 16] (fun jv iv wr => ∃ m : Nat, m ≤ 9 ∧ iv = .int .i64 m ∧ Hid (Win wr w6.heap.size 29 5 jv m (jcells (List.replicate m (hjob 0 0)))) ∧ Hid (Below w6.heap.size w6 wr)) (fun _ iv _ => 9 - (intOf iv).toNat)
  case atStart => exact ⟨0, by omega, rfl, Lib.hid (by simpa [jcells] using Win.nil _ _ 29 5), Lib.hid (Below.refl _ _)⟩
  case round =>
    obtain ⟨m, hm, rfl, HW, HB⟩ := hrel
    by_cases hlt : m < 9
    · have hs := HB.out.size
      have hlt' : (m : Int) < 9 := by omega
      go_wp2_with (first | (at_builtin; go_must (refine wpList_append_win _ rfl (.tmp 72) (.tmp 74) 27 rfl w6.heap.size 29 i29 _ 5 40 Try.underlying27 hi hz0 hz1 hz2 rfl (by decide) u15 m (jcells (List.replicate m (hjob 0 0))) (by simp [Act.eval]) (HW.out.alloc _) ⟨wr.heap.size, 0, none⟩ 1 1 (hjob 0 0).cells (by simp [Act.eval]) rfl (new_cells wr (hjob 0 0).cells _) (by simp [hjob, Jb.cells, Value.oneCell']) (by decide) (by unfold maxLen; omega) (by omega) (by simp; omega) ?_); intro f' o' cap' w4 hown hgrow hat; have HO := Lib.hid hown; have HG := Lib.hid hgrow; clear hown hgrow hat))
      go_roundw
      case rel =>
        refine ⟨m + 1, by omega, by go_num, Lib.hid ?_, Lib.hid ?_⟩
        · rw [List.replicate_succ', jcells_snoc]; exact HO.out
        · exact grown_below HB.out HB.out.size HW.out HG.out
      case measure => simp [intOf]; omega
    · obtain rfl : m = 9 := by omega
      have Y2 := Lib.hid (Y1.out.on HB.out)
      have X : Hid (Calls Try.prog 11 #[.pointer (some ⟨b, 0, none⟩), u15] wr fun e w' => e = .returned (.tuple #[.pointer none, .int .i64 4]) ∧ SysB w w' r b c f o cap v' (nrun 0).1 (nrun 0).2) := Lib.hid ((run_many Y2.out.sys.hm (HW.out.jobs (by simp)) (by simp) nmany (by simp)).mono fun e w' ⟨h1, h2⟩ => ⟨h1, Y2.out.on h2⟩)
      clear Y1 HW HB hN
      go_upto_region 16 with (first | (go_at_call 11; refine X.out.mono ?_; rintro e w7 ⟨rfl, y3⟩; have Y3 := Lib.hid y3; clear y3))
      clear X Y2
      go_wp2_with fail
      go_loopw [19] (fun iv wr => ∃ m : Nat, m ≤ 40 ∧ iv = .int .i64 m ∧ Hid (SysB w wr r b c f o cap v' (nrun m).1 (nrun m).2)) (fun iv _ => 40 - (intOf iv).toNat)
      case atStart => exact ⟨0, by omega, rfl, Y3⟩
      case round =>
        obtain ⟨m, hm, rfl, HY⟩ := hrel
        by_cases hlt : m < 40
        · have hlt' : (m : Int) < 40 := by omega
          have ST := Lib.hid (nrun_step HY.out)
          go_wp2_with (first | (go_at_call 14; refine ST.out.mono ?_; rintro e w8 ⟨⟨v8, rfl⟩, y4⟩; have Y4 := Lib.hid y4; clear y4))
          go_roundw
          case rel => exact ⟨m + 1, by omega, by go_num, Y4⟩
          case measure => simp [intOf]; omega
        · obtain rfl : m = 40 := by omega
          have PA : Hid (Calls Try.prog 15 #[.pointer (some ⟨r, 0, none⟩)] wr fun e w' => ∃ g o2 cp2, e = .returned (.slice (some ⟨g, o2, none⟩) 2 cp2) ∧ Win w' wr.heap.size 38 4 (.slice (some ⟨g, o2, none⟩) 2 cp2) 2 nlast ∧ SysB w w' r b c f o cap v' (nrun 40).1 (nrun 40).2) := Lib.hid (by
            refine HY.out.all.mono ?_
            rintro e w' ⟨v2, rfl, h1, h2, _⟩
            rw [nrun_len, nfin] at h1
            obtain ⟨g, o2, cp2, rfl⟩ := h1.form (by omega)
            exact ⟨g, o2, cp2, rfl, h1, h2⟩)
          clear HY Y3
          go_upto_region 21 with (first | (go_at_call 15; refine PA.out.mono ?_; rintro e w8 ⟨g, o2, cp2, rfl, W8, y8⟩; have HW8 := Lib.hid W8; have Y8 := Lib.hid y8; clear W8 y8))
          have PK : Hid (Calls Try.prog 12 #[.pointer (some ⟨r, 0, none⟩), .int .i64 0] w8 fun e w' => e = .returned (.tuple #[.int .i64 0, .bool false]) ∧ SysB w w' r b c f o cap v' (nrun 40).1 (nrun 40).2 ∧ Below w8.heap.size w8 w') := Lib.hid (by
            have := Y8.out.pick (n := 0) (by omega) (by omega)
            rwa [npick] at this)
          clear PA
          go_upto_region 22 with (first | (go_at_call 12; refine PK.out.mono ?_; rintro e w9 ⟨rfl, y9, b9⟩; have HW9 := Lib.hid (HW8.out.below b9); have Y9 := Lib.hid y9; clear y9 b9))
          have PS : Hid (Calls Try.prog 14 #[.pointer (some ⟨r, 0, none⟩), .int .i64 2] w9 fun e w' => e = .returned (.tuple #[zstate, .int .i64 1]) ∧ Below w9.heap.size w9 w') := Lib.hid (step_arg Y9.out.sys (.inr (by rw [nrun_len]; simp)))
          clear PK HW8 Y8
          go_upto_region 23 with (first | (go_at_call 14; refine PS.out.mono ?_; rintro e w10 ⟨rfl, b10⟩; have HW10 := Lib.hid (HW9.out.below b10); have B10 := Lib.hid (Y9.out.bel.trans (b10.mono Y9.out.bel.size)); clear b10; simp only [zstate]))
          clear PS HW9 Y9
          obtain ⟨w12, hw12⟩ : ∃ w12, w10.alloc (.cells #[.bool false, .int .i64 0, .int .i64 0, .int .i64 0] 38) = w12 := ⟨_, rfl⟩
          rw [hw12]
          have HW12 := Lib.hid (HW10.out.alloc (.cells #[.bool false, .int .i64 0, .int .i64 0, .int .i64 0] 38))
          have B12 := Lib.hid (B10.out.alloc B10.out.size (.cells #[.bool false, .int .i64 0, .int .i64 0, .int .i64 0] 38))
          rw [hw12] at HW12 B12
          clear hw12 HW10 B10
          have c0 : w12.cell? ⟨g, o2, none⟩ = some (.bool true) := HW12.out.cells 0 (by omega)
          have c4 : w12.cell? ⟨g, o2 + 4, none⟩ = some (.bool true) := HW12.out.cells 4 (by omega)
          have c5 : w12.cell? ⟨g, o2 + 4 + 1, none⟩ = some (.int .i64 5) := HW12.out.cells 5 (by omega)
          have c6 : w12.cell? ⟨g, o2 + 4 + 2, none⟩ = some (.int .i64 6) := HW12.out.cells 6 (by omega)
          clear HW12
          go_wp2_with (first | (go_at_call 16; refine (known_any _).mono ?_; rintro e w11 ⟨rfl, b11⟩; have HB11 := Lib.hid b11; clear b11))
          go_ret
          exact ⟨rfl, B12.out.trans (HB11.out.mono B12.out.size)⟩
end Go.Proofs.Ytmhmgenchpemkaa
