/- The walk of CredParts. -/
import Derived.Test.YtlajinihhgfnmaaWalks
import Derived.Test.YtlajinihhgfnmaaGraft
namespace Go.Proofs.Ytlajinihhgfnmaa
open Go.RowKit

set_option maxRecDepth 100000 in
set_option maxHeartbeats 8000000 in
theorem parts_any (uid gid n k mode su sg l s a b : Int) (w : World) :
    Calls Try.prog 3 #[.agg #[.int .i64 uid, .int .i64 gid], .agg #[.int .i64 n, .int .i64 k, .int .i64 mode, .int .i64 su, .int .i64 sg, .int .i64 l, .int .i64 s], .int .i64 a, .int .i64 b] w
      fun e w' => e = .returned (.bool true) ∧ Below w.heap.size w w' := by
  have hA := may_and7 uid gid mode su sg a
  have hB := may_and7 uid gid mode su sg b
  have hAB := may_both uid gid mode su sg (bits .and .i64 a 7) (bits .and .i64 b 7)
  obtain ⟨ma, hma⟩ : ∃ x, mayB uid gid mode su sg a = x := ⟨_, rfl⟩
  obtain ⟨mb, hmb⟩ : ∃ x, mayB uid gid mode su sg b = x := ⟨_, rfl⟩
  rw [hma] at hA; rw [hmb] at hB; rw [hA, hB] at hAB
  go_enter Try.func3, Try.ntmps3
  go_wp2_with fail
  refine (may_any _ _ _ _ _ _ _ _ _ _ _).mono ?_
  rintro e w1 ⟨rfl, hb1⟩
  have K1 := ((Holds.new w #[.int .i64 uid, .int .i64 gid] 23).alloc _).below hb1
  have M1 := (Holds.new (w.alloc (.cells #[.int .i64 uid, .int .i64 gid] 23)) #[.int .i64 n, .int .i64 k, .int .i64 mode, .int .i64 su, .int .i64 sg, .int .i64 l, .int .i64 s] 25).below hb1
  rw [World.size_alloc] at M1
  have B1 : Below w.heap.size w w1 := (((Below.refl w.heap.size w).alloc (Nat.le_refl _) _).alloc (by simp) _).trans (hb1.mono (by simp; omega))
  clear hb1
  obtain ⟨ka1, kb1, kc1⟩ := K1
  obtain ⟨mc1, md1, me1⟩ := M1
  go_wp2_with fail
  rcases (by cases ma <;> cases mb <;> simp : ma = false ∨ (ma = true ∧ mb = false) ∨ (ma = true ∧ mb = true)) with rfl | ⟨rfl, rfl⟩ | ⟨rfl, rfl⟩
  all_goals
    refine wp_region_graft (by kernel_rfl) (by kernel_rfl) ?_
    repeat (go_big_quiet_step ((go_at_call 7; exact calls_graft (may_is (by assumption) _ _ _ _ _))))
    refine wpQuiet_nil ?_
    intro w2 hb2
    have K2 := (show Holds w1 _ _ from ⟨ka1, kb1, kc1⟩).below hb2
    have M2 := (show Holds w1 _ _ from ⟨mc1, md1, me1⟩).below hb2
    have B2 := B1.trans (hb2.mono B1.size)
    clear hb2 ka1 kb1 kc1 mc1 md1 me1 B1 hA hB hAB hmb
    obtain ⟨ka2, kb2, kc2⟩ := K2
    obtain ⟨mc2, md2, me2⟩ := M2
    by_cases h0 : uid = 0
    · subst h0
      have hm := hma
      rw [may_root] at hm
      first
      | exact absurd hm (by decide)
      | have hT := may_root gid 0 su sg a
        go_wp2_with fail
        refine wp_region_graft (by kernel_rfl) (by kernel_rfl) ?_
        repeat (go_big_quiet_step ((first | (go_at_call 7; exact calls_graft (may_is (by assumption) _ _ _ _ _)) | (go_at_call 8; exact calls_graft (known_any _)))))
        refine wpQuiet_nil ?_
        intro w3 hb3
        go_wp2_with fail
        go_ret
        exact ⟨rfl, Below.trans (by go_grown) (hb3.mono (by simp; have := B2.size; omega))⟩
    · by_cases h1 : uid = su
      · subst h1
        have hT := may_owner gid mode uid sg a
        rw [hma] at hT
        go_wp2_with fail
        refine wp_region_graft (by kernel_rfl) (by kernel_rfl) ?_
        repeat (go_big_quiet_step ((first | (go_at_call 7; exact calls_graft (may_is (by assumption) _ _ _ _ _)) | (go_at_call 8; exact calls_graft (known_any _)))))
        refine wpQuiet_nil ?_
        intro w3 hb3
        go_wp2_with fail
        go_ret
        exact ⟨rfl, Below.trans (by go_grown) (hb3.mono (by simp; have := B2.size; omega))⟩
      · by_cases h2 : gid = sg
        · subst h2
          have hT := may_group uid mode su gid a h1
          rw [hma] at hT
          go_wp2_with fail
          refine wp_region_graft (by kernel_rfl) (by kernel_rfl) ?_
          repeat (go_big_quiet_step ((first | (go_at_call 7; exact calls_graft (may_is (by assumption) _ _ _ _ _)) | (go_at_call 8; exact calls_graft (known_any _)))))
          refine wpQuiet_nil ?_
          intro w3 hb3
          go_wp2_with fail
          go_ret
          exact ⟨rfl, Below.trans (by go_grown) (hb3.mono (by simp; have := B2.size; omega))⟩
        · have hT := may_other uid gid mode su sg a h1 h2
          rw [hma] at hT
          go_wp2_with fail
          refine wp_region_graft (by kernel_rfl) (by kernel_rfl) ?_
          repeat (go_big_quiet_step ((first | (go_at_call 7; exact calls_graft (may_is (by assumption) _ _ _ _ _)) | (go_at_call 8; exact calls_graft (known_any _)))))
          refine wpQuiet_nil ?_
          intro w3 hb3
          go_wp2_with fail
          go_ret
          exact ⟨rfl, Below.trans (by go_grown) (hb3.mono (by simp; have := B2.size; omega))⟩
end Go.Proofs.Ytlajinihhgfnmaa
