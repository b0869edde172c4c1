/- The walk of SpinCounts. -/
import Derived.Test.YtmhmgenchpemkaaCountLaw
import Derived.Test.YtmhmgenchpemkaaFair
namespace Go.Proofs.Ytmhmgenchpemkaa
open Go.RowKit

theorem w64_1 : wrap64 1 = 1 := by decide +kernel
theorem w64_2 : wrap64 2 = 2 := by decide +kernel
theorem count_start {kind : Int} {k : Nat} (a b : Int) : CB kind k (⟨kind, 0, k, a, b⟩ : Jb).mch ∧ (⟨kind, 0, k, a, b⟩ : Jb).mch.done = false ∧ CI k (⟨kind, 0, k, a, b⟩ : Jb).mch (MS.new 3) 0 :=
  ⟨⟨rfl, rfl, rfl, rfl⟩, rfl, .a0 rfl rfl ⟨⟨0, 0, rfl⟩, rfl⟩⟩
set_option maxRecDepth 100000 in
set_option maxHeartbeats 4000000 in
theorem counts_any (n k a1 a2 : Int) (w : World) (h1 : -9223372036854775808 ≤ n) (h2 : n ≤ 9223372036854775807) (h3 : -9223372036854775808 ≤ k) (h4 : k ≤ 9223372036854775807) :
    Calls Try.prog 5 #[.int .i64 n, .int .i64 k, .int .i64 a1, .int .i64 a2] w fun e w' => e = .returned (.bool true) ∧ Below w.heap.size w w' := by
  obtain ⟨N, hN, hN0⟩ := within_nat (lo := 0) (hi := 2) (n := n) (by decide) rfl
  obtain ⟨K, hK, hK0⟩ := within_nat (lo := 0) (hi := 100) (n := k) (by decide) rfl
  have E1 := Lib.hid (within_any n 0 2 w h1 h2 (by omega) (by omega) (by omega))
  have E2 := Lib.hid (within_any k 0 100 w h3 h4 (by omega) (by omega) (by omega))
  rw [hN] at E1
  rw [hK] at E2
  clear hN hK h1 h2 h3 h4
  go_enter Try.func5, Try.ntmps5
  go_upto_region 2 with (first | (go_at_call 9; refine E1.out.mono ?_; rintro e w1 ⟨rfl, rfl⟩))
  go_upto_region 3 with (first | (go_at_call 9; refine E2.out.mono ?_; rintro e w1 ⟨rfl, rfl⟩))
  go_upto_region 4 with (first | (go_at_call 10; refine (new_int 3 w (by omega) (by omega)).mono ?_; rintro e w1 ⟨rfl, m1, B1⟩))
  have M1 : Hid (IsMem w1 (w.heap.size + 1) w.heap.size (MS.new 3)) := Lib.hid m1
  have HB1 := Lib.hid B1
  obtain ⟨b, hb⟩ : ∃ b, w.heap.size + 1 = b := ⟨_, rfl⟩
  obtain ⟨c, hc⟩ : ∃ c, w.heap.size = c := ⟨_, rfl⟩
  rw [hb, hc] at M1
  rw [hb]
  have HL : Hid (w.heap.size ≤ b ∧ w.heap.size ≤ c) := Lib.hid ⟨by omega, by omega⟩
  clear m1 B1 hb hc E1 E2
  obtain ⟨kind, hkind⟩ : ∃ kind : Int, 1 + (N : Int) = kind := ⟨_, rfl⟩
  rw [hkind]
  have X : Hid (Calls Try.prog 11 #[.pointer (some ⟨b, 0, none⟩), .slice (some ⟨w1.heap.size, 0, none⟩) 1 1] (w1.alloc (.cells #[.int .i64 kind, .int .i64 0, .int .i64 K, .int .i64 a1, .int .i64 a2] 29)) fun e w' => ∃ r f o cap v', e = .returned (.tuple #[.pointer (some ⟨r, 0, none⟩), .int .i64 0]) ∧ SysB w w' r b c f o cap v' [(⟨kind, 0, K, a1, a2⟩ : Jb).mch] (MS.new 3)) := Lib.hid (by
    have B := HB1.out.alloc HB1.out.size (.cells #[.int .i64 kind, .int .i64 0, .int .i64 K, .int .i64 a1, .int .i64 a2] 29)
    exact sys_new (js := [⟨kind, 0, K, a1, a2⟩]) (s := MS.new 3) (M1.out.frm (l := []) (.of_below ((Below.refl _ _).alloc (Nat.le_refl _) _)) (by simp) (by simp)) (jobs_new w1 [⟨kind, 0, K, a1, a2⟩] 29 1) B HL.out.1 HL.out.2 (by simp) (by
      simp [Jb.ok, hasI, MS.new, w64_1, w64_2]; omega))
  clear M1 HB1
  go_upto_region 9 with (first | (go_at_call 11; refine X.out.mono ?_; rintro e w2 ⟨r, f, o, cap, v', rfl, y1⟩; have Y1 := Lib.hid y1; clear y1))
  clear X
  have C0 := Lib.hid (count_start (kind := kind) (k := K) a1 a2)
  have hk3 : Hid (kind = 1 ∨ kind = 2 ∨ kind = 3) := Lib.hid (by omega)
  go_wp2_with fail
  go_loopw [13, 14] (fun nv iv wr => ∃ (i : Nat) (x : Mch) (s : MS), i < tot kind K ∧ nv = .int .i64 i ∧ iv = .int .i64 i ∧ Hid (CB kind K x ∧ x.done = false ∧ CI K x s i) ∧ Hid (SysB w wr r b c f o cap v' [x] s)) (fun _ iv _ => 300 - (intOf iv).toNat)
  case atStart => exact ⟨0, _, _, by unfold tot; split <;> (try split) <;> omega, rfl, rfl, C0, Y1⟩
  case round =>
    obtain ⟨i, x, s, hi, rfl, rfl, HC, HY⟩ := hrel
    clear C0 Y1
    have ht : tot kind K ≤ 105 := by unfold tot; split <;> (try split) <;> omega
    have hi3 : (i : Int) < 300 := by omega
    have HG := Lib.hid (count_go HC.out.1 HC.out.2.1 HC.out.2.2 (by omega) (by omega) hk3.out)
    go_upto_region 14 with (first | (go_at_call 14; refine (HY.out.step (i := 0) (x := x) rfl HC.out.2.1).mono ?_; rintro e w6 ⟨rfl, y5, f5⟩; simp only [Mch.state]; have Y5 := Lib.hid y5; clear y5 f5))
    obtain ⟨y, hy⟩ : ∃ y, stepM s x 0 = y := ⟨_, rfl⟩
    obtain ⟨x', s'⟩ := y
    rw [hy] at HG Y5 ⊢
    have HX := Lib.hid HG.out.hb.ht
    have HST := Lib.hid HG.out.st
    obtain ⟨w6', hw6⟩ : ∃ w6', w6.alloc (.cells #[.bool x'.done, .int .i64 x'.sa, .int .i64 x'.sb, .int .i64 x'.tries] 38) = w6' := ⟨_, rfl⟩
    obtain ⟨db, hdb⟩ : ∃ db, w6.heap.size = db := ⟨_, rfl⟩
    have Y6 : Hid (SysB w w6' r b c f o cap v' [x'] s') := Lib.hid (by rw [← hw6]; exact Y5.out.on ((Below.refl w6.heap.size w6).alloc (Nat.le_refl _) _))
    have q0 : w6'.cell? ⟨db, 0, none⟩ = some (.bool x'.done) := by rw [← hw6, ← hdb]; exact World.cell?_alloc_new _ _ _ _
    have q3 : w6'.cell? ⟨db, 3, none⟩ = some (.int .i64 0) := by rw [← hw6, ← hdb]; have := HX.out; simp only at this; rw [← this]; exact World.cell?_alloc_new _ _ _ _
    have hl : db < w6'.heap.size := by rw [← hw6, ← hdb]; simp
    simp only at hw6 ⊢
    rw [hw6, hdb]
    clear hw6 hdb Y5 HX hy HY HC
    have ST : Hid (Calls Try.prog 23 #[.pointer (some ⟨b, 0, none⟩)] w6' fun e w' => e = .returned (.int .i64 ((i : Int) + 1)) ∧ w6' = w') := Lib.hid (by
      have := steps_any b c s' w6' Y6.out.sys.hm
      rw [show s'.st = _ from HST.out] at this
      simpa using this)
    rcases HG.out.go with ⟨hd, hci, hlt⟩ | ⟨hd, hlt⟩
    · simp only at hd
      rw [hd] at q0
      have HC := Lib.hid (And.intro HG.out.hb (And.intro hd hci))
      clear HG hci hd HST
      go_wp2_with (first | (go_at_call 23; refine ST.out.mono ?_; rintro e w7 ⟨rfl, rfl⟩))
      go_roundw
      case rel => exact ⟨i + 1, x', s', by omega, by go_num, by go_num, HC, Y6⟩
      case measure => simp [intOf]; omega
    · simp only at hd
      rw [hd] at q0
      clear HG hd HST
      have hN3 : N = 0 ∨ N = 1 ∨ N = 2 := by omega
      go_upto_region 18 with (first | (go_at_call 23; refine ST.out.mono ?_; rintro e w7 ⟨rfl, rfl⟩))
      have hbel := Lib.hid Y6.out.bel
      clear ST Y6 q0 q3 HL hN3 hi
      rcases hk3.out with e | e | e
      · rw [e] at hlt ⊢
        have hE : (i : Int) + 1 = 2 + (K : Int) := by simp [tot] at hlt; omega
        rw [hE]
        clear hE hlt e hkind hk3
        go_wp2_with (first | (go_at_call 16; refine (known_any _).mono ?_; rintro e w9 ⟨rfl, b9⟩; have HB9 := Lib.hid b9; clear b9))
        go_ret
        have b0 := hbel.out.alloc hbel.out.size (.cells #[.int .i64 2, .int .i64 5, .int .i64 4] 3)
        exact ⟨rfl, b0.trans (HB9.out.mono b0.size)⟩
      · rw [e] at hlt ⊢
        have hE : (i : Int) + 1 = 5 + (K : Int) := by simp [tot] at hlt; omega
        rw [hE]
        clear hE hlt e hkind hk3
        go_wp2_with (first | (go_at_call 16; refine (known_any _).mono ?_; rintro e w9 ⟨rfl, b9⟩; have HB9 := Lib.hid b9; clear b9))
        go_ret
        have b0 := hbel.out.alloc hbel.out.size (.cells #[.int .i64 2, .int .i64 5, .int .i64 4] 3)
        exact ⟨rfl, b0.trans (HB9.out.mono b0.size)⟩
      · rw [e] at hlt ⊢
        have hE : (i : Int) + 1 = 4 + (K : Int) := by simp [tot] at hlt; omega
        rw [hE]
        clear hE hlt e hkind hk3
        go_wp2_with (first | (go_at_call 16; refine (known_any _).mono ?_; rintro e w9 ⟨rfl, b9⟩; have HB9 := Lib.hid b9; clear b9))
        go_ret
        have b0 := hbel.out.alloc hbel.out.size (.cells #[.int .i64 2, .int .i64 5, .int .i64 4] 3)
        exact ⟨rfl, b0.trans (HB9.out.mono b0.size)⟩
end Go.Proofs.Ytmhmgenchpemkaa
