/- The walks of CredTells and CredNumbers. -/
import Derived.Test.YtlajinihhgfnmaaTells
namespace Go.Proofs.Ytlajinihhgfnmaa
open Go.RowKit

theorem rsticky_any (uid gid n k mode su sg l s n' k' mode' su' sg' l' s' : Int) (w : World) :
    Calls Try.prog 14 #[.agg #[.int .i64 uid, .int .i64 gid], .agg #[.int .i64 n, .int .i64 k, .int .i64 mode, .int .i64 su, .int .i64 sg, .int .i64 l, .int .i64 s], .agg #[.int .i64 n', .int .i64 k', .int .i64 mode', .int .i64 su', .int .i64 sg', .int .i64 l', .int .i64 s']] w
      fun e w' => e = .returned (.bool (stickyB uid mode su su')) ∧ Below w.heap.size w w' := by
  rw [sticky_of]
  obtain ⟨g, hg⟩ : ∃ b, (bits .and .i64 mode 512 != 0) = b := ⟨_, rfl⟩
  obtain ⟨o1, h1⟩ : ∃ b, ownsB uid su = b := ⟨_, rfl⟩
  obtain ⟨o2, h2⟩ : ∃ b, ownsB uid su' = b := ⟨_, rfl⟩
  rw [hg, h1, h2]
  cases g <;> cases o1
  all_goals
    go_enter Try.func14, Try.ntmps14
    go_upto_region 1 with (fail)
    refine wp_region_graft_seq ?_
    repeat (go_big_quiet_step ((go_at_call 13; exact calls_graft (rowns_is (by assumption) _ _ _ _ _ _ _ _))))
    refine wpQuiet_nil ?_
    intro w2 hb2
    go_wp2_with fail
    go_ret
    exact ⟨by simp, Below.trans (by go_grown) (hb2.mono (by simp; omega))⟩

set_option maxRecDepth 100000 in
set_option maxHeartbeats 4000000 in
theorem tells_any (uid gid n k mode su sg l s n' k' mode' su' sg' l' s' want : Int) (w : World) :
    Calls Try.prog 6 #[.agg #[.int .i64 uid, .int .i64 gid], .agg #[.int .i64 n, .int .i64 k, .int .i64 mode, .int .i64 su, .int .i64 sg, .int .i64 l, .int .i64 s], .agg #[.int .i64 n', .int .i64 k', .int .i64 mode', .int .i64 su', .int .i64 sg', .int .i64 l', .int .i64 s'], .int .i64 want] w
      fun e w' => e = .returned (.bool true) ∧ Below w.heap.size w w' := by
  go_enter Try.func6, Try.ntmps6
  go_wp2_with fail
  refine wp_region_graft (by kernel_rfl) (by kernel_rfl) ?_
  repeat (go_big_quiet_step ((first
    | (go_at_call 7; exact calls_graft (may_any _ _ _ _ _ _ _ _ _ _ _)) | (go_at_call 12; exact calls_graft (rmay_any _ _ _ _ _ _ _ _ _ _ _))
    | (go_at_call 11; exact calls_graft (owns_any _ _ _ _ _ _ _ _ _ _)) | (go_at_call 13; exact calls_graft (rowns_any _ _ _ _ _ _ _ _ _ _))
    | (go_at_call 10; exact calls_graft (sticky_any _ _ _ _ _ _ _ _ _ _ _ _ _ _ _ _ _)) | (go_at_call 14; exact calls_graft (rsticky_any _ _ _ _ _ _ _ _ _ _ _ _ _ _ _ _ _))
    | (go_at_call 9; exact calls_graft (masked_any _ _)) | (go_at_call 15; exact calls_graft (rmasked_any _ _)) | (go_at_call 8; exact calls_graft (known_any _)))))
  refine wpQuiet_nil ?_
  intro w3 hb3
  go_wp2_with fail
  go_ret
  exact ⟨rfl, Below.trans (by go_grown) (hb3.mono (by simp; omega))⟩

theorem sticky_is {uid mode su su' : Int} {r : Bool} (h : stickyB uid mode su su' = r) (gid n k sg l s n' k' mode' sg' l' s' : Int) (w : World) :
    Calls Try.prog 10 #[.agg #[.int .i64 uid, .int .i64 gid], .agg #[.int .i64 n, .int .i64 k, .int .i64 mode, .int .i64 su, .int .i64 sg, .int .i64 l, .int .i64 s], .agg #[.int .i64 n', .int .i64 k', .int .i64 mode', .int .i64 su', .int .i64 sg', .int .i64 l', .int .i64 s']] w
      fun e w' => e = .returned (.bool r) ∧ Below w.heap.size w w' := h ▸ sticky_any uid gid n k mode su sg l s n' k' mode' su' sg' l' s' w
theorem masked_is {m r : Int} (h : bits .and .i64 m 4095 = r) (w : World) : Calls Try.prog 9 #[.int .i64 m] w fun e w' => e = .returned (.int .i64 r) ∧ Below w.heap.size w w' := h ▸ masked_any m w

set_option maxRecDepth 100000 in
set_option maxHeartbeats 4000000 in
theorem numbers_any (w : World) : Calls Try.prog 5 #[] w fun e w' => e = .returned (.bool true) ∧ Below w.heap.size w w' := by
  obtain ⟨f1, f2, f3, f4, f5, f6, f7, f8, f9⟩ := nums
  go_enter Try.func5, Try.ntmps5
  go_upto_region 2 with (fail)
  refine wp_region_graft_seq ?_
  repeat (go_big_quiet_step ((first
    | (go_at_call 9; exact calls_graft (masked_is f1 _)) | (go_at_call 7; exact calls_graft (may_is (by assumption) _ _ _ _ _))
    | (go_at_call 10; exact calls_graft (sticky_is (by assumption) _ _ _ _ _ _ _ _ _ _ _ _ _))
    | (go_at_call 11; exact calls_graft (owns_is (by assumption) _ _ _ _ _ _ _ _))
    | (go_at_call 8; exact calls_graft (known_any _)))))
  refine wpQuiet_nil ?_
  intro w3 hb3
  go_wp2_with fail
  go_ret
  exact ⟨rfl, Below.trans (by go_grown) (hb3.mono (by simp))⟩
end Go.Proofs.Ytlajinihhgfnmaa
