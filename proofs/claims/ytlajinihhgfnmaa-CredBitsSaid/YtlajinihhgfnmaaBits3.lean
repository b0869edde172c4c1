/- The walk of CredBits, the other classes. -/
import Derived.Test.YtlajinihhgfnmaaBits2
namespace Go.Proofs.Ytlajinihhgfnmaa
open Go.RowKit

set_option maxRecDepth 100000 in
set_option maxHeartbeats 8000000 in
theorem bits_other (uid gid su sg bit : Int) (w : World) (h0 : uid ≠ 0) (hc1 : (gid == sg) = false) (hc2 : (uid == su) = false) (hm : ∀ r k : Nat, r < 9 → k < 3 → mayB uid gid (2 ^ r) su sg (2 ^ k) = decide (r = 0 + k)) (hb0 : -9223372036854775808 ≤ bit) (hb1 : bit ≤ 9223372036854775807) :
    Calls Try.prog 4 #[.agg #[.int .i64 uid, .int .i64 gid], .int .i64 su, .int .i64 sg, .int .i64 bit] w
      fun e w' => e = .returned (.bool true) ∧ Below w.heap.size w w' := by
  have HM := Lib.hid hm
  clear hm
  have hall := may_all uid gid su sg
  have h0' : (uid == 0) = false := by simpa using h0
  obtain ⟨n1, n2, n4⟩ := may_none uid gid su sg h0
  go_enter Try.func4, Try.ntmps4
  go_wp2_with fail
  refine (may_is hall _ _ _ _ _).mono ?_
  rintro e w1 ⟨rfl, hb1⟩
  have K1 := ((Holds.new w #[.int .i64 uid, .int .i64 gid] 23).alloc _).below hb1
  have M1 := (Holds.new (w.alloc (.cells #[.int .i64 uid, .int .i64 gid] 23)) #[.int .i64 0, .int .i64 0, .int .i64 511, .int .i64 su, .int .i64 sg, .int .i64 0, .int .i64 0] 25).below hb1
  rw [World.size_alloc] at M1
  have B1 : Below w.heap.size w w1 := (((Below.refl w.heap.size w).alloc (Nat.le_refl _) _).alloc (by simp) _).trans (hb1.mono (by simp; omega))
  clear hb1 hall
  have K1' := K1.other (a := ⟨w.heap.size + 1, 2, none⟩) (by simp) (.int .i64 0)
  have M1' := M1.set 2 (.int .i64 0) (by simp)
  have B1' := B1.setCell (p := ⟨w.heap.size + 1, 2, none⟩) (by simp) (.int .i64 0)
  simp only [List.setIfInBounds_toArray, List.set] at M1'
  obtain ⟨ka1, kb1, kc1⟩ := K1
  obtain ⟨mc1, md1, me1⟩ := M1
  go_wp2_with fail
  clear ka1 kb1 kc1 mc1 md1 me1
  refine (may_is n1 _ _ _ _ _).mono ?_
  rintro e w2 ⟨rfl, hb2⟩
  have K2 := K1'.below hb2
  have M2 := M1'.below hb2
  have B2 := B1'.trans (hb2.mono B1'.size)
  clear K1' M1' B1' hb2 B1 n1
  have KH := Lib.hid (And.intro K2 M2)
  obtain ⟨ka2, kb2, kc2⟩ := K2
  obtain ⟨mc2, md2, me2⟩ := M2
  go_wp2_with fail
  clear ka2 kb2 kc2 mc2 md2 me2
  refine (may_is n2 _ _ _ _ _).mono ?_
  rintro e w3 ⟨rfl, hb3⟩
  have K3 := KH.out.1.below hb3
  have M3 := KH.out.2.below hb3
  have B3 := B2.trans (hb3.mono B2.size)
  clear KH B2 hb3 n2
  have KH := Lib.hid (And.intro K3 M3)
  obtain ⟨ka3, kb3, kc3⟩ := K3
  obtain ⟨mc3, md3, me3⟩ := M3
  go_wp2_with fail
  clear ka3 kb3 kc3 mc3 md3 me3
  refine (may_is n4 _ _ _ _ _).mono ?_
  rintro e w4 ⟨rfl, hb4⟩
  have K4 := KH.out.1.below hb4
  have M4 := KH.out.2.below hb4
  have B4 := B3.trans (hb4.mono B3.size)
  clear KH B3 hb4 n4
  have KH := Lib.hid (And.intro K4 M4)
  obtain ⟨ka4, kb4, kc4⟩ := K4
  obtain ⟨mc4, md4, me4⟩ := M4
  by_cases hn : bit < 0
  · obtain ⟨r, hr, he⟩ := neg_bit bit hn
    have HE := Lib.hid he
    clear he
    go_wp2_with fail
    rw [HE.out]
    first | rw [pow_shl r hr] | rw [pow_shl' r hr]
    have hH := Head.start (r := r) KH.out.1 KH.out.2 B4
    clear KH ka4 kb4 kc4 mc4 md4 me4 B4
    go_loopw [13] (fun v wr => ∃ k : Nat, k ≤ 3 ∧ v = .int .i64 k ∧ Head w wr uid gid su sg r) (fun v _ => 3 - (intOf v).toNat)
    case atStart => exact ⟨0, by omega, rfl, hH⟩
    case round =>
      obtain ⟨k, hk, rfl, hHr⟩ := hrel
      have hHr' := Lib.hid hHr
      obtain ⟨⟨ka, kb, kc⟩, ⟨ma, mb, mc⟩, B⟩ := hHr
      rcases (by omega : k = 3 ∨ k = 0 ∨ k = 1 ∨ k = 2) with rfl | rfl | rfl | rfl
      · go_wp2_with (go_at_call 8; refine (known_any _).mono ?_; rintro e w3 ⟨rfl, hb3⟩)
        go_ret
        exact ⟨rfl, (Head.on hHr'.out hb3).2.2⟩
      · have q := HM.out r 0 hr (by omega)
        have t : ((r : Int) == 0) = decide (r = 0 + 0) := by rw [Bool.eq_iff_iff]; simp <;> omega
        rw [show 0 + 0 = 0 from rfl] at q t
        rw [show ((2 : Int) ^ 0) = 1 from rfl] at q
        generalize decide (r = 0) = b at q t
        cases b
        all_goals
          go_wp2_with (go_at_call 7; refine (may_is q _ _ _ _ _).mono ?_; rintro e w3 ⟨rfl, hb3⟩)
          go_roundw
          case rel => exact ⟨1, by omega, rfl, Head.on hHr'.out hb3⟩
          case measure => simp [intOf]
      · have q := HM.out r 1 hr (by omega)
        have t : ((r : Int) == 1) = decide (r = 0 + 1) := by rw [Bool.eq_iff_iff]; simp <;> omega
        rw [show 0 + 1 = 1 from rfl] at q t
        rw [show ((2 : Int) ^ 1) = 2 from rfl] at q
        generalize decide (r = 1) = b at q t
        cases b
        all_goals
          go_wp2_with (go_at_call 7; refine (may_is q _ _ _ _ _).mono ?_; rintro e w3 ⟨rfl, hb3⟩)
          go_roundw
          case rel => exact ⟨2, by omega, rfl, Head.on hHr'.out hb3⟩
          case measure => simp [intOf]
      · have q := HM.out r 2 hr (by omega)
        have t : ((r : Int) == 2) = decide (r = 0 + 2) := by rw [Bool.eq_iff_iff]; simp <;> omega
        rw [show 0 + 2 = 2 from rfl] at q t
        rw [show ((2 : Int) ^ 2) = 4 from rfl] at q
        generalize decide (r = 2) = b at q t
        cases b
        all_goals
          go_wp2_with (go_at_call 7; refine (may_is q _ _ _ _ _).mono ?_; rintro e w3 ⟨rfl, hb3⟩)
          go_roundw
          case rel => exact ⟨3, by omega, rfl, Head.on hHr'.out hb3⟩
          case measure => simp [intOf]
  · obtain ⟨r, hr, he⟩ := pos_bit bit hn
    have HE := Lib.hid he
    clear he
    go_wp2_with fail
    rw [HE.out]
    first | rw [pow_shl r hr] | rw [pow_shl' r hr]
    have hH := Head.start (r := r) KH.out.1 KH.out.2 B4
    clear KH ka4 kb4 kc4 mc4 md4 me4 B4
    go_loopw [13] (fun v wr => ∃ k : Nat, k ≤ 3 ∧ v = .int .i64 k ∧ Head w wr uid gid su sg r) (fun v _ => 3 - (intOf v).toNat)
    case atStart => exact ⟨0, by omega, rfl, hH⟩
    case round =>
      obtain ⟨k, hk, rfl, hHr⟩ := hrel
      have hHr' := Lib.hid hHr
      obtain ⟨⟨ka, kb, kc⟩, ⟨ma, mb, mc⟩, B⟩ := hHr
      rcases (by omega : k = 3 ∨ k = 0 ∨ k = 1 ∨ k = 2) with rfl | rfl | rfl | rfl
      · go_wp2_with (go_at_call 8; refine (known_any _).mono ?_; rintro e w3 ⟨rfl, hb3⟩)
        go_ret
        exact ⟨rfl, (Head.on hHr'.out hb3).2.2⟩
      · have q := HM.out r 0 hr (by omega)
        have t : ((r : Int) == 0) = decide (r = 0 + 0) := by rw [Bool.eq_iff_iff]; simp <;> omega
        rw [show 0 + 0 = 0 from rfl] at q t
        rw [show ((2 : Int) ^ 0) = 1 from rfl] at q
        generalize decide (r = 0) = b at q t
        cases b
        all_goals
          go_wp2_with (go_at_call 7; refine (may_is q _ _ _ _ _).mono ?_; rintro e w3 ⟨rfl, hb3⟩)
          go_roundw
          case rel => exact ⟨1, by omega, rfl, Head.on hHr'.out hb3⟩
          case measure => simp [intOf]
      · have q := HM.out r 1 hr (by omega)
        have t : ((r : Int) == 1) = decide (r = 0 + 1) := by rw [Bool.eq_iff_iff]; simp <;> omega
        rw [show 0 + 1 = 1 from rfl] at q t
        rw [show ((2 : Int) ^ 1) = 2 from rfl] at q
        generalize decide (r = 1) = b at q t
        cases b
        all_goals
          go_wp2_with (go_at_call 7; refine (may_is q _ _ _ _ _).mono ?_; rintro e w3 ⟨rfl, hb3⟩)
          go_roundw
          case rel => exact ⟨2, by omega, rfl, Head.on hHr'.out hb3⟩
          case measure => simp [intOf]
      · have q := HM.out r 2 hr (by omega)
        have t : ((r : Int) == 2) = decide (r = 0 + 2) := by rw [Bool.eq_iff_iff]; simp <;> omega
        rw [show 0 + 2 = 2 from rfl] at q t
        rw [show ((2 : Int) ^ 2) = 4 from rfl] at q
        generalize decide (r = 2) = b at q t
        cases b
        all_goals
          go_wp2_with (go_at_call 7; refine (may_is q _ _ _ _ _).mono ?_; rintro e w3 ⟨rfl, hb3⟩)
          go_roundw
          case rel => exact ⟨3, by omega, rfl, Head.on hHr'.out hb3⟩
          case measure => simp [intOf]

theorem bits_any (uid gid su sg bit : Int) (w : World) (hb0 : -9223372036854775808 ≤ bit) (hb1 : bit ≤ 9223372036854775807) :
    Calls Try.prog 4 #[.agg #[.int .i64 uid, .int .i64 gid], .int .i64 su, .int .i64 sg, .int .i64 bit] w
      fun e w' => e = .returned (.bool true) ∧ Below w.heap.size w w' := by
  by_cases h0 : uid = 0
  · subst h0
    exact bits_root gid su sg bit w hb0 hb1
  · by_cases h1 : uid = su
    · by_cases h2 : gid = sg
      · exact bits_own_a uid gid su sg bit w h0 (by simpa using h2) (by simpa using h1) (fun r k hr hk => by subst h1; exact may_bit2 gid uid sg r k h0 hr hk) hb0 hb1
      · exact bits_own_b uid gid su sg bit w h0 (by simpa using h2) (by simpa using h1) (fun r k hr hk => by subst h1; exact may_bit2 gid uid sg r k h0 hr hk) hb0 hb1
    · by_cases h2 : gid = sg
      · exact bits_group uid gid su sg bit w h0 (by simpa using h2) (by simpa using h1) (fun r k hr hk => by subst h2; exact may_bit1 uid su gid r k h0 h1 hr hk) hb0 hb1
      · exact bits_other uid gid su sg bit w h0 (by simpa using h2) (by simpa using h1) (fun r k hr hk => by rw [Nat.zero_add]; exact may_bit0 uid gid su sg r k h0 h1 h2 hr hk) hb0 hb1
end Go.Proofs.Ytlajinihhgfnmaa
