/- HistNumbers. -/
import Derived.Test.YtidonelhapmceaaQuiet
namespace Go.Proofs.Ytidonelhapmceaa
open Go.RowKit

theorem ser0 : serI [] = true := rfl
theorem ser5 : serI [opz 0 0 1, opz 3 2 (-1)] = true := rfl
theorem bef01 : befI (opz 0 0 1) (opz 3 2 (-1)) = true := rfl
theorem bef10 : befI (opz 3 2 (-1)) (opz 0 0 1) = false := rfl
theorem bef00 : befI (opz 0 0 1) (opz 0 0 1) = false := rfl

set_option maxRecDepth 100000 in
set_option maxHeartbeats 8000000 in
theorem numbers_any (w : World) : Calls Try.prog 3 #[] w fun e w' => e = .returned (.bool true) ∧ Below w.heap.size w w' := by
  go_enter Try.func3, Try.ntmps3
  go_wp2_with fail
  refine (ops_any (E := []) rfl (.inl rfl) (by decide)).mono ?_
  rintro e w1 ⟨vl, rfl, o1, b1⟩
  rw [show listOf (ops []) = [] from rfl] at o1
  rw [show whyOf (ops []) = 0 from rfl, show atOf (ops []) = 0 from rfl]
  obtain ⟨al, cl, rfl⟩ := o1.value
  have OL := Lib.hid o1
  have B1 := Lib.hid b1
  clear o1 b1
  go_wp2_with fail
  refine (ops_new (E := [(3, 200), (1, 0), (1, 0)]) (l := []) (c := 12) (a := 2) rfl rfl (by decide) rfl rfl rfl).mono ?_
  rintro e w2 ⟨v2, _, _, rfl, _, b2⟩
  have OL := Lib.hid (OL.out.below b2)
  have B2 := Lib.hid (B1.out.trans (b2.mono B1.out.size))
  clear b2
  go_wp2_with fail
  refine (ops_new (E := [(1, 8)]) (l := []) (c := 12) (a := 0) rfl rfl (by decide) rfl rfl rfl).mono ?_
  rintro e w3 ⟨v3, _, _, rfl, _, b3⟩
  have OL := Lib.hid (OL.out.below b3)
  have B3 := Lib.hid (B2.out.trans (b3.mono B2.out.size))
  clear b3
  go_wp2_with fail
  refine (ops_new (E := [(0, 0)]) (l := []) (c := 12) (a := 0) rfl rfl (by decide) rfl rfl rfl).mono ?_
  rintro e w4 ⟨v4, _, _, rfl, _, b4⟩
  have OL := Lib.hid (OL.out.below b4)
  have B4 := Lib.hid (B3.out.trans (b4.mono B3.out.size))
  clear b4
  go_wp2_with fail
  refine (ops_new (E := [(1, 0), (2, 0), (1, 3)]) (l := [opz 0 0 1, opz 3 2 (-1)]) (c := 0) (a := 0) rfl rfl (by decide) rfl rfl rfl).mono ?_
  rintro e w5 ⟨v5, base, bo, rfl, o5, b5⟩
  have OM := Lib.hid o5
  have OL := Lib.hid (OL.out.below b5)
  have B9 := Lib.hid (B4.out.trans (b5.mono B4.out.size))
  clear b5 o5
  obtain ⟨f, o, cp, rfl⟩ : ∃ f o cp, v5 = .slice (some ⟨f, o, none⟩) 2 cp := by
    obtain ⟨_, _, hw, _⟩ := OM.out
    exact hw.form (by decide)
  obtain ⟨x, y, z, _, _, r0⟩ := OM.out.row (k := 0) rfl
  obtain ⟨x', y', z', _, _, r1⟩ := OM.out.row (k := 1) rfl
  have R0 : Hid (w5.rangeAt f o ((opz 0 0 1).cells x y z)) := Lib.hid (by simpa using r0)
  have R1 : Hid (w5.rangeAt f (o + 23) ((opz 3 2 (-1)).cells x' y' z')) := Lib.hid (by simpa using r1)
  have FW := Lib.hid ((OM.out.lt f rfl).2)
  clear r0 r1
  go_wp2_with fail
  simp only [List.append_eq, List.cons_append, List.nil_append]
  refine wp_region_graft (by kernel_rfl) (by kernel_rfl) ?_
  repeat (first | (go_big_quiet_want; refine quiet_load_mid 40 (.tmp 101) rfl f o rfl ((opz 0 0 1).cells x y z) _ Try.underlying40 rfl size40 R0.out FW.out ?_; simp only [Act.put, List.setIfInBounds_toArray, List.set_cons_zero, List.set_cons_succ]; go_big_quiet_on) | (go_big_quiet_want; refine quiet_load_mid 40 (.tmp 104) rfl f (o + 23) rfl ((opz 3 2 (-1)).cells x' y' z') _ Try.underlying40 rfl size40 R1.out FW.out ?_; simp only [Act.put, List.setIfInBounds_toArray, List.set_cons_zero, List.set_cons_succ]; go_big_quiet_on) | (go_big_quiet_want; refine quiet_load_mid 40 (.tmp 110) rfl f (o + 23) rfl ((opz 3 2 (-1)).cells x' y' z') _ Try.underlying40 rfl size40 R1.out FW.out ?_; simp only [Act.put, List.setIfInBounds_toArray, List.set_cons_zero, List.set_cons_succ]; go_big_quiet_on) | (go_big_quiet_want; refine quiet_load_mid 40 (.tmp 113) rfl f o rfl ((opz 0 0 1).cells x y z) _ Try.underlying40 rfl size40 R0.out FW.out ?_; simp only [Act.put, List.setIfInBounds_toArray, List.set_cons_zero, List.set_cons_succ]; go_big_quiet_on) | (go_big_quiet_want; refine quiet_load_mid 40 (.tmp 120) rfl f o rfl ((opz 0 0 1).cells x y z) _ Try.underlying40 rfl size40 R0.out FW.out ?_; simp only [Act.put, List.setIfInBounds_toArray, List.set_cons_zero, List.set_cons_succ]; go_big_quiet_on) | (go_big_quiet_want; refine quiet_load_mid 40 (.tmp 123) rfl f o rfl ((opz 0 0 1).cells x y z) _ Try.underlying40 rfl size40 R0.out FW.out ?_; simp only [Act.put, List.setIfInBounds_toArray, List.set_cons_zero, List.set_cons_succ]; go_big_quiet_on) | go_big_quiet_step ((first | (go_at_call 9; (first | with_reducible exact calls_graft (ser0 ▸ serial_any (OL.out.below (graft_below _ _)) (by decide)) | with_reducible exact calls_graft (ser5 ▸ serial_any (OM.out.below (graft_below _ _)) (by decide)))) | (go_at_call 10; (first | with_reducible exact calls_graft (bef01 ▸ before_any (opz 0 0 1) (opz 3 2 (-1)) x y z x' y' z' _) | with_reducible exact calls_graft (bef10 ▸ before_any (opz 3 2 (-1)) (opz 0 0 1) x' y' z' x y z _) | with_reducible exact calls_graft (bef00 ▸ before_any (opz 0 0 1) (opz 0 0 1) x y z x y z _))) | (go_at_call 11; exact calls_graft (known_any _)))))
  refine wpQuiet_nil ?_
  intro w6 b6
  go_wp2_with fail
  go_ret
  exact ⟨rfl, B9.out.trans (b6.mono B9.out.size)⟩
end Go.Proofs.Ytidonelhapmceaa
