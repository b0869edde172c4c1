/- The walk of CredBits. -/
import Derived.Test.YtlajinihhgfnmaaWalks
import Derived.Test.YtlajinihhgfnmaaGraft
import Derived.Outline
import Derived.Lib.Hide
namespace Go.Proofs.Ytlajinihhgfnmaa
open Go.RowKit

theorem pow_shl (r : Nat) (hr : r < 9) : wrap64 (2 ^ min (IntKind.u64.wrap (r : Int)).toNat 64) = 2 ^ r := by
  rcases r with _ | _ | _ | _ | _ | _ | _ | _ | _ | r <;> first | omega | decide +kernel

theorem pow_shl' (r : Nat) (hr : r < 9) : wrap64 (2 ^ (r : Int).toNat) = 2 ^ r := by
  rcases r with _ | _ | _ | _ | _ | _ | _ | _ | _ | r <;> first | omega | decide +kernel

theorem neg_bit (bit : Int) (hn : bit < 0) : ∃ r : Nat, r < 9 ∧ -(bit + 1).tmod 9 = (r : Int) := by
  refine ⟨(-(bit + 1).tmod 9).toNat, ?_, ?_⟩ <;> rw [show (bit + 1).tmod 9 = -((-(bit + 1)) % 9) from by rw [← Int.tmod_eq_emod_of_nonneg (by omega), Int.neg_tmod]; omega] <;> omega
theorem pos_bit (bit : Int) (_hn : ¬ bit < 0) : ∃ r : Nat, r < 9 ∧ bit % 9 = (r : Int) := ⟨(bit % 9).toNat, by omega, by omega⟩

/-- What is known at the loop's head, and kept by its rounds. -/
def Head (w wr : World) (uid gid su sg : Int) (r : Nat) : Prop :=
  Holds wr w.heap.size #[.int .i64 uid, .int .i64 gid] ∧ Holds wr (w.heap.size + 1) #[.int .i64 0, .int .i64 0, .int .i64 (2 ^ r), .int .i64 su, .int .i64 sg, .int .i64 0, .int .i64 0] ∧ Below w.heap.size w wr

theorem Head.on {w wr w' : World} {uid gid su sg : Int} {r : Nat} (h : Head w wr uid gid su sg r) (hb : Below wr.heap.size wr w') : Head w w' uid gid su sg r :=
  ⟨h.1.below hb, h.2.1.below hb, h.2.2.trans (hb.mono h.2.2.size)⟩

theorem Head.start {w w2 : World} {uid gid su sg : Int} {r : Nat} (K2 : Holds w2 w.heap.size #[.int .i64 uid, .int .i64 gid]) (M2 : Holds w2 (w.heap.size + 1) #[.int .i64 0, .int .i64 0, .int .i64 0, .int .i64 su, .int .i64 sg, .int .i64 0, .int .i64 0]) (B2 : Below w.heap.size w w2) :
    Head w (w2.setCell ⟨w.heap.size + 1, 2, none⟩ (.int .i64 (2 ^ r))) uid gid su sg r :=
  ⟨K2.other (by simp) _, by simpa using M2.set 2 (.int .i64 (2 ^ r)) (by simp), B2.setCell (by simp) _⟩

set_option maxRecDepth 100000 in
set_option maxHeartbeats 8000000 in
theorem bits_root (gid su sg bit : Int) (w : World) (hb0 : -9223372036854775808 ≤ bit) (hb1 : bit ≤ 9223372036854775807) :
    Calls Try.prog 4 #[.agg #[.int .i64 0, .int .i64 gid], .int .i64 su, .int .i64 sg, .int .i64 bit] w
      fun e w' => e = .returned (.bool true) ∧ Below w.heap.size w w' := by
  have hall := may_all 0 gid su sg
  obtain ⟨c1, hc1⟩ : ∃ c, (gid == sg) = c := ⟨_, rfl⟩
  obtain ⟨c2, hc2⟩ : ∃ c, ((0 : Int) == su) = c := ⟨_, rfl⟩
  go_enter Try.func4, Try.ntmps4
  go_wp2_with fail
  refine (may_is hall _ _ _ _ _).mono ?_
  rintro e w1 ⟨rfl, hb1⟩
  have K1 := ((Holds.new w #[.int .i64 0, .int .i64 gid] 23).alloc _).below hb1
  have M1 := (Holds.new (w.alloc (.cells #[.int .i64 0, .int .i64 gid] 23)) #[.int .i64 0, .int .i64 0, .int .i64 511, .int .i64 su, .int .i64 sg, .int .i64 0, .int .i64 0] 25).below hb1
  rw [World.size_alloc] at M1
  have B1 : Below w.heap.size w w1 := (((Below.refl w.heap.size w).alloc (Nat.le_refl _) _).alloc (by simp) _).trans (hb1.mono (by simp; omega))
  clear hb1 hall
  have K1' := K1.other (a := ⟨w.heap.size + 1, 2, none⟩) (by simp) (.int .i64 0)
  have M1' := M1.set 2 (.int .i64 0) (by simp)
  have B1' := B1.setCell (p := ⟨w.heap.size + 1, 2, none⟩) (by simp) (.int .i64 0)
  obtain ⟨ka1, kb1, kc1⟩ := K1
  obtain ⟨mc1, md1, me1⟩ := M1
  have h1 := may_root gid 0 su sg 1
  go_wp2_with fail
  refine (may_is h1 _ _ _ _ _).mono ?_
  rintro e w2 ⟨rfl, hb2⟩
  have K2 := K1'.below hb2
  have M2 := M1'.below hb2
  have B2 := B1'.trans (hb2.mono B1'.size)
  clear K1' M1' B1' ka1 kb1 kc1 mc1 md1 me1 hb2 B1 h1
  simp only [List.setIfInBounds_toArray, List.set] at M2
  have KM := And.intro K2 M2
  have KH : Hid _ := KM
  clear KM
  obtain ⟨ka2, kb2, kc2⟩ := K2
  obtain ⟨mc2, md2, me2⟩ := M2
  by_cases hn : bit < 0
  · obtain ⟨r, hr, he⟩ := neg_bit bit hn
    have HE : Hid _ := he
    clear he
    cases c1 <;> cases c2
    all_goals
      go_wp2_with fail
      rw [HE.out]
      first | rw [pow_shl r hr] | rw [pow_shl' r hr]
      have hH := Head.start (r := r) KH.out.1 KH.out.2 B2
      clear KH ka2 kb2 kc2 mc2 md2 me2 B2
      go_loopw [13] (fun v wr => ∃ k : Nat, k ≤ 3 ∧ v = .int .i64 k ∧ Head w wr 0 gid su sg r) (fun v _ => 3 - (intOf v).toNat)
      case atStart => exact ⟨0, by omega, rfl, hH⟩
      case round =>
        obtain ⟨k, hk, rfl, hHr⟩ := hrel
        have hHr' := Lib.hid hHr
        obtain ⟨⟨ka, kb, kc⟩, ⟨ma, mb, mc⟩, B⟩ := hHr
        rcases (by omega : k = 0 ∨ k = 1 ∨ k = 2 ∨ k = 3) with rfl | rfl | rfl | rfl
        iterate 3
          · go_wp2_with (go_at_call 7; refine (may_is (may_root _ _ _ _ _) _ _ _ _ _).mono ?_; rintro e w3 ⟨rfl, hb3⟩)
            go_roundw
            case rel => first | exact ⟨1, by omega, rfl, Head.on hHr'.out hb3⟩ | exact ⟨2, by omega, rfl, Head.on hHr'.out hb3⟩ | exact ⟨3, by omega, rfl, Head.on hHr'.out hb3⟩
            case measure => simp [intOf]
        · go_wp2_with (go_at_call 8; refine (known_any _).mono ?_; rintro e w3 ⟨rfl, hb3⟩)
          go_ret
          exact ⟨rfl, (Head.on hHr'.out hb3).2.2⟩
  · obtain ⟨r, hr, he⟩ := pos_bit bit hn
    have HE : Hid _ := he
    clear he
    cases c1 <;> cases c2
    all_goals
      go_wp2_with fail
      rw [HE.out]
      first | rw [pow_shl r hr] | rw [pow_shl' r hr]
      have hH := Head.start (r := r) KH.out.1 KH.out.2 B2
      clear KH ka2 kb2 kc2 mc2 md2 me2 B2
      go_loopw [13] (fun v wr => ∃ k : Nat, k ≤ 3 ∧ v = .int .i64 k ∧ Head w wr 0 gid su sg r) (fun v _ => 3 - (intOf v).toNat)
      case atStart => exact ⟨0, by omega, rfl, hH⟩
      case round =>
        obtain ⟨k, hk, rfl, hHr⟩ := hrel
        have hHr' := Lib.hid hHr
        obtain ⟨⟨ka, kb, kc⟩, ⟨ma, mb, mc⟩, B⟩ := hHr
        rcases (by omega : k = 0 ∨ k = 1 ∨ k = 2 ∨ k = 3) with rfl | rfl | rfl | rfl
        iterate 3
          · go_wp2_with (go_at_call 7; refine (may_is (may_root _ _ _ _ _) _ _ _ _ _).mono ?_; rintro e w3 ⟨rfl, hb3⟩)
            go_roundw
            case rel => first | exact ⟨1, by omega, rfl, Head.on hHr'.out hb3⟩ | exact ⟨2, by omega, rfl, Head.on hHr'.out hb3⟩ | exact ⟨3, by omega, rfl, Head.on hHr'.out hb3⟩
            case measure => simp [intOf]
        · go_wp2_with (go_at_call 8; refine (known_any _).mono ?_; rintro e w3 ⟨rfl, hb3⟩)
          go_ret
          exact ⟨rfl, (Head.on hHr'.out hb3).2.2⟩
set_option maxRecDepth 100000 in
set_option maxHeartbeats 8000000 in
theorem bits_own_a (uid gid su sg bit : Int) (w : World) (h0 : uid ≠ 0) (hc1 : (gid == sg) = true) (hc2 : (uid == su) = true) (hm : ∀ r k : Nat, r < 9 → k < 3 → mayB uid gid (2 ^ r) su sg (2 ^ k) = decide (r = 6 + k)) (hb0 : -9223372036854775808 ≤ bit) (hb1 : bit ≤ 9223372036854775807) :
    Calls Try.prog 4 #[.agg #[.int .i64 uid, .int .i64 gid], .int .i64 su, .int .i64 sg, .int .i64 bit] w
      fun e w' => e = .returned (.bool true) ∧ Below w.heap.size w w' := by
  have HM := Lib.hid hm
  clear hm
  have hall := may_all uid gid su sg
  have h0' : (uid == 0) = false := by simpa using h0
  obtain ⟨n1, n2, n4⟩ := may_none uid gid su sg h0
  go_enter Try.func4, Try.ntmps4
  go_wp2_with fail
  refine (may_is hall _ _ _ _ _).mono ?_
  rintro e w1 ⟨rfl, hb1⟩
  have K1 := ((Holds.new w #[.int .i64 uid, .int .i64 gid] 23).alloc _).below hb1
  have M1 := (Holds.new (w.alloc (.cells #[.int .i64 uid, .int .i64 gid] 23)) #[.int .i64 0, .int .i64 0, .int .i64 511, .int .i64 su, .int .i64 sg, .int .i64 0, .int .i64 0] 25).below hb1
  rw [World.size_alloc] at M1
  have B1 : Below w.heap.size w w1 := (((Below.refl w.heap.size w).alloc (Nat.le_refl _) _).alloc (by simp) _).trans (hb1.mono (by simp; omega))
  clear hb1 hall
  have K1' := K1.other (a := ⟨w.heap.size + 1, 2, none⟩) (by simp) (.int .i64 0)
  have M1' := M1.set 2 (.int .i64 0) (by simp)
  have B1' := B1.setCell (p := ⟨w.heap.size + 1, 2, none⟩) (by simp) (.int .i64 0)
  simp only [List.setIfInBounds_toArray, List.set] at M1'
  obtain ⟨ka1, kb1, kc1⟩ := K1
  obtain ⟨mc1, md1, me1⟩ := M1
  go_wp2_with fail
  clear ka1 kb1 kc1 mc1 md1 me1
  refine (may_is n1 _ _ _ _ _).mono ?_
  rintro e w2 ⟨rfl, hb2⟩
  have K2 := K1'.below hb2
  have M2 := M1'.below hb2
  have B2 := B1'.trans (hb2.mono B1'.size)
  clear K1' M1' B1' hb2 B1 n1
  have KH := Lib.hid (And.intro K2 M2)
  obtain ⟨ka2, kb2, kc2⟩ := K2
  obtain ⟨mc2, md2, me2⟩ := M2
  go_wp2_with fail
  clear ka2 kb2 kc2 mc2 md2 me2
  refine (may_is n2 _ _ _ _ _).mono ?_
  rintro e w3 ⟨rfl, hb3⟩
  have K3 := KH.out.1.below hb3
  have M3 := KH.out.2.below hb3
  have B3 := B2.trans (hb3.mono B2.size)
  clear KH B2 hb3 n2
  have KH := Lib.hid (And.intro K3 M3)
  obtain ⟨ka3, kb3, kc3⟩ := K3
  obtain ⟨mc3, md3, me3⟩ := M3
  go_wp2_with fail
  clear ka3 kb3 kc3 mc3 md3 me3
  refine (may_is n4 _ _ _ _ _).mono ?_
  rintro e w4 ⟨rfl, hb4⟩
  have K4 := KH.out.1.below hb4
  have M4 := KH.out.2.below hb4
  have B4 := B3.trans (hb4.mono B3.size)
  clear KH B3 hb4 n4
  have KH := Lib.hid (And.intro K4 M4)
  obtain ⟨ka4, kb4, kc4⟩ := K4
  obtain ⟨mc4, md4, me4⟩ := M4
  by_cases hn : bit < 0
  · obtain ⟨r, hr, he⟩ := neg_bit bit hn
    have HE := Lib.hid he
    clear he
    go_wp2_with fail
    rw [HE.out]
    first | rw [pow_shl r hr] | rw [pow_shl' r hr]
    have hH := Head.start (r := r) KH.out.1 KH.out.2 B4
    clear KH ka4 kb4 kc4 mc4 md4 me4 B4
    go_loopw [13] (fun v wr => ∃ k : Nat, k ≤ 3 ∧ v = .int .i64 k ∧ Head w wr uid gid su sg r) (fun v _ => 3 - (intOf v).toNat)
    case atStart => exact ⟨0, by omega, rfl, hH⟩
    case round =>
      obtain ⟨k, hk, rfl, hHr⟩ := hrel
      have hHr' := Lib.hid hHr
      obtain ⟨⟨ka, kb, kc⟩, ⟨ma, mb, mc⟩, B⟩ := hHr
      rcases (by omega : k = 3 ∨ k = 0 ∨ k = 1 ∨ k = 2) with rfl | rfl | rfl | rfl
      · go_wp2_with (go_at_call 8; refine (known_any _).mono ?_; rintro e w3 ⟨rfl, hb3⟩)
        go_ret
        exact ⟨rfl, (Head.on hHr'.out hb3).2.2⟩
      · have q := HM.out r 0 hr (by omega)
        have t : ((r : Int) == 6) = decide (r = 6 + 0) := by rw [Bool.eq_iff_iff]; simp; omega
        rw [show 6 + 0 = 6 from rfl] at q t
        rw [show ((2 : Int) ^ 0) = 1 from rfl] at q
        generalize decide (r = 6) = b at q t
        cases b
        all_goals
          go_wp2_with (go_at_call 7; refine (may_is q _ _ _ _ _).mono ?_; rintro e w3 ⟨rfl, hb3⟩)
          go_roundw
          case rel => exact ⟨1, by omega, rfl, Head.on hHr'.out hb3⟩
          case measure => simp [intOf]
      · have q := HM.out r 1 hr (by omega)
        have t : ((r : Int) == 7) = decide (r = 6 + 1) := by rw [Bool.eq_iff_iff]; simp; omega
        rw [show 6 + 1 = 7 from rfl] at q t
        rw [show ((2 : Int) ^ 1) = 2 from rfl] at q
        generalize decide (r = 7) = b at q t
        cases b
        all_goals
          go_wp2_with (go_at_call 7; refine (may_is q _ _ _ _ _).mono ?_; rintro e w3 ⟨rfl, hb3⟩)
          go_roundw
          case rel => exact ⟨2, by omega, rfl, Head.on hHr'.out hb3⟩
          case measure => simp [intOf]
      · have q := HM.out r 2 hr (by omega)
        have t : ((r : Int) == 8) = decide (r = 6 + 2) := by rw [Bool.eq_iff_iff]; simp; omega
        rw [show 6 + 2 = 8 from rfl] at q t
        rw [show ((2 : Int) ^ 2) = 4 from rfl] at q
        generalize decide (r = 8) = b at q t
        cases b
        all_goals
          go_wp2_with (go_at_call 7; refine (may_is q _ _ _ _ _).mono ?_; rintro e w3 ⟨rfl, hb3⟩)
          go_roundw
          case rel => exact ⟨3, by omega, rfl, Head.on hHr'.out hb3⟩
          case measure => simp [intOf]
  · obtain ⟨r, hr, he⟩ := pos_bit bit hn
    have HE := Lib.hid he
    clear he
    go_wp2_with fail
    rw [HE.out]
    first | rw [pow_shl r hr] | rw [pow_shl' r hr]
    have hH := Head.start (r := r) KH.out.1 KH.out.2 B4
    clear KH ka4 kb4 kc4 mc4 md4 me4 B4
    go_loopw [13] (fun v wr => ∃ k : Nat, k ≤ 3 ∧ v = .int .i64 k ∧ Head w wr uid gid su sg r) (fun v _ => 3 - (intOf v).toNat)
    case atStart => exact ⟨0, by omega, rfl, hH⟩
    case round =>
      obtain ⟨k, hk, rfl, hHr⟩ := hrel
      have hHr' := Lib.hid hHr
      obtain ⟨⟨ka, kb, kc⟩, ⟨ma, mb, mc⟩, B⟩ := hHr
      rcases (by omega : k = 3 ∨ k = 0 ∨ k = 1 ∨ k = 2) with rfl | rfl | rfl | rfl
      · go_wp2_with (go_at_call 8; refine (known_any _).mono ?_; rintro e w3 ⟨rfl, hb3⟩)
        go_ret
        exact ⟨rfl, (Head.on hHr'.out hb3).2.2⟩
      · have q := HM.out r 0 hr (by omega)
        have t : ((r : Int) == 6) = decide (r = 6 + 0) := by rw [Bool.eq_iff_iff]; simp; omega
        rw [show 6 + 0 = 6 from rfl] at q t
        rw [show ((2 : Int) ^ 0) = 1 from rfl] at q
        generalize decide (r = 6) = b at q t
        cases b
        all_goals
          go_wp2_with (go_at_call 7; refine (may_is q _ _ _ _ _).mono ?_; rintro e w3 ⟨rfl, hb3⟩)
          go_roundw
          case rel => exact ⟨1, by omega, rfl, Head.on hHr'.out hb3⟩
          case measure => simp [intOf]
      · have q := HM.out r 1 hr (by omega)
        have t : ((r : Int) == 7) = decide (r = 6 + 1) := by rw [Bool.eq_iff_iff]; simp; omega
        rw [show 6 + 1 = 7 from rfl] at q t
        rw [show ((2 : Int) ^ 1) = 2 from rfl] at q
        generalize decide (r = 7) = b at q t
        cases b
        all_goals
          go_wp2_with (go_at_call 7; refine (may_is q _ _ _ _ _).mono ?_; rintro e w3 ⟨rfl, hb3⟩)
          go_roundw
          case rel => exact ⟨2, by omega, rfl, Head.on hHr'.out hb3⟩
          case measure => simp [intOf]
      · have q := HM.out r 2 hr (by omega)
        have t : ((r : Int) == 8) = decide (r = 6 + 2) := by rw [Bool.eq_iff_iff]; simp; omega
        rw [show 6 + 2 = 8 from rfl] at q t
        rw [show ((2 : Int) ^ 2) = 4 from rfl] at q
        generalize decide (r = 8) = b at q t
        cases b
        all_goals
          go_wp2_with (go_at_call 7; refine (may_is q _ _ _ _ _).mono ?_; rintro e w3 ⟨rfl, hb3⟩)
          go_roundw
          case rel => exact ⟨3, by omega, rfl, Head.on hHr'.out hb3⟩
          case measure => simp [intOf]

end Go.Proofs.Ytlajinihhgfnmaa
