/- The walks of CredTells and CredNumbers, and of the small functions under them. -/
import Derived.Test.YtlajinihhgfnmaaWalks
import Derived.Test.YtlajinihhgfnmaaGraft
import Derived.Deep.Cut
import Derived.Deep.CutRange
import Derived.Outline
namespace Go.Proofs.Ytlajinihhgfnmaa
open Go.RowKit

theorem masked_any (m : Int) (w : World) : Calls Try.prog 9 #[.int .i64 m] w fun e w' => e = .returned (.int .i64 (bits .and .i64 m 4095)) ∧ Below w.heap.size w w' := by
  go_enter Try.func9, Try.ntmps9
  go_wp2
  go_ret
  exact ⟨rfl, Below.refl _ _⟩
theorem rmasked_any (m : Int) (w : World) : Calls Try.prog 15 #[.int .i64 m] w fun e w' => e = .returned (.int .i64 (bits .and .i64 m 4095)) ∧ Below w.heap.size w w' := by
  go_enter Try.func15, Try.ntmps15
  go_wp2
  go_ret
  exact ⟨rfl, Below.refl _ _⟩
theorem owns_any (uid gid n k mode su sg l s : Int) (w : World) :
    Calls Try.prog 11 #[.agg #[.int .i64 uid, .int .i64 gid], .agg #[.int .i64 n, .int .i64 k, .int .i64 mode, .int .i64 su, .int .i64 sg, .int .i64 l, .int .i64 s]] w
      fun e w' => e = .returned (.bool (ownsB uid su)) ∧ Below w.heap.size w w' := by
  have hm : ownsB uid su = (uid == 0 || uid == su) := by rw [ownsB]
  rw [hm]; clear hm
  cases h0 : (uid == 0)
  all_goals
    go_enter Try.func11, Try.ntmps11
    go_wp2
    go_ret
    exact ⟨by simp, by go_grown⟩
theorem rowns_any (uid gid n k mode su sg l s : Int) (w : World) :
    Calls Try.prog 13 #[.agg #[.int .i64 uid, .int .i64 gid], .agg #[.int .i64 n, .int .i64 k, .int .i64 mode, .int .i64 su, .int .i64 sg, .int .i64 l, .int .i64 s]] w
      fun e w' => e = .returned (.bool (ownsB uid su)) ∧ Below w.heap.size w w' := by
  have hm : ownsB uid su = (uid == 0 || uid == su) := by rw [ownsB]
  rw [hm]; clear hm
  cases h0 : (uid == 0)
  all_goals
    go_enter Try.func13, Try.ntmps13
    go_wp2
    go_ret
    exact ⟨by simp, by go_grown⟩
theorem rmay_any (uid gid n k mode su sg l s want : Int) (w : World) :
    Calls Try.prog 12 #[.agg #[.int .i64 uid, .int .i64 gid], .agg #[.int .i64 n, .int .i64 k, .int .i64 mode, .int .i64 su, .int .i64 sg, .int .i64 l, .int .i64 s], .int .i64 want] w
      fun e w' => e = .returned (.bool (mayB uid gid mode su sg want)) ∧ Below w.heap.size w w' := by
  by_cases h0 : uid = 0
  · subst h0
    rw [may_root]
    go_enter Try.func12, Try.ntmps12
    go_wp2
    go_ret
    exact ⟨rfl, by go_grown⟩
  · rw [ref_may _ _ _ _ _ _ h0]
    have h0' : (uid == 0) = false := by simpa using h0
    by_cases h1 : uid = su
    · subst h1
      rw [if_pos rfl]
      cases h2 : (gid == sg)
      all_goals
        go_enter Try.func12, Try.ntmps12
        go_wp2
        go_ret
        exact ⟨rfl, by go_grown⟩
    · rw [if_neg h1]
      by_cases h2 : gid = sg
      · subst h2
        rw [if_pos rfl]
        go_enter Try.func12, Try.ntmps12
        go_wp2
        go_ret
        exact ⟨rfl, by go_grown⟩
      · rw [if_neg h2]
        go_enter Try.func12, Try.ntmps12
        go_wp2
        go_ret
        exact ⟨rfl, by go_grown⟩

theorem nums : bits .and .i64 (-1) 4095 = 4095 ∧ mayB 5 0 0 0 0 0 = true ∧ stickyB 2 1023 0 3 = true ∧ stickyB 3 1023 0 3 = false ∧ stickyB 0 1023 0 3 = false ∧ stickyB 2 511 0 3 = false ∧ ownsB 4 4 = true ∧ ownsB 4 0 = false ∧ ownsB 0 9 = true := by decide +kernel
theorem sticky_of (uid dm dsu su : Int) : stickyB uid dm dsu su = (bits .and .i64 dm 512 != 0 && !ownsB uid dsu && !ownsB uid su) := by rw [stickyB]
theorem owns_is {uid su : Int} {r : Bool} (h : ownsB uid su = r) (gid n k mode sg l s : Int) (w : World) :
    Calls Try.prog 11 #[.agg #[.int .i64 uid, .int .i64 gid], .agg #[.int .i64 n, .int .i64 k, .int .i64 mode, .int .i64 su, .int .i64 sg, .int .i64 l, .int .i64 s]] w
      fun e w' => e = .returned (.bool r) ∧ Below w.heap.size w w' := h ▸ owns_any uid gid n k mode su sg l s w
theorem rowns_is {uid su : Int} {r : Bool} (h : ownsB uid su = r) (gid n k mode sg l s : Int) (w : World) :
    Calls Try.prog 13 #[.agg #[.int .i64 uid, .int .i64 gid], .agg #[.int .i64 n, .int .i64 k, .int .i64 mode, .int .i64 su, .int .i64 sg, .int .i64 l, .int .i64 s]] w
      fun e w' => e = .returned (.bool r) ∧ Below w.heap.size w w' := h ▸ rowns_any uid gid n k mode su sg l s w

set_option maxHeartbeats 1000000 in
theorem sticky_any (uid gid n k mode su sg l s n' k' mode' su' sg' l' s' : Int) (w : World) :
    Calls Try.prog 10 #[.agg #[.int .i64 uid, .int .i64 gid], .agg #[.int .i64 n, .int .i64 k, .int .i64 mode, .int .i64 su, .int .i64 sg, .int .i64 l, .int .i64 s], .agg #[.int .i64 n', .int .i64 k', .int .i64 mode', .int .i64 su', .int .i64 sg', .int .i64 l', .int .i64 s']] w
      fun e w' => e = .returned (.bool (stickyB uid mode su su')) ∧ Below w.heap.size w w' := by
  rw [sticky_of]
  obtain ⟨g, hg⟩ : ∃ b, (bits .and .i64 mode 512 != 0) = b := ⟨_, rfl⟩
  obtain ⟨o1, h1⟩ : ∃ b, ownsB uid su = b := ⟨_, rfl⟩
  obtain ⟨o2, h2⟩ : ∃ b, ownsB uid su' = b := ⟨_, rfl⟩
  rw [hg, h1, h2]
  cases g <;> cases o1
  all_goals
    go_enter Try.func10, Try.ntmps10
    go_upto_region 1 with (fail)
    refine wp_region_graft_seq ?_
    repeat (go_big_quiet_step ((go_at_call 11; exact calls_graft (owns_is (by assumption) _ _ _ _ _ _ _ _))))
    refine wpQuiet_nil ?_
    intro w2 hb2
    go_wp2_with fail
    go_ret
    exact ⟨by simp, Below.trans (by go_grown) (hb2.mono (by simp; omega))⟩
end Go.Proofs.Ytlajinihhgfnmaa
