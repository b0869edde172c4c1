/- HistPending: for every input the law returns true, and each argument reads as it read before. No condition. -/
import Derived.HandedShaped
import Derived.Test.YtidonelhapmceaaFrame
import Derived.Test.YtidonelhapmceaaOpen
import Derived.Test.YtidonelhapmceaaPending
namespace Go.Proofs.Ytidonelhapmceaa
open Go.ChangeShapes Go.WideShapes Go.ChangeAt Go.RowKit

set_option maxRecDepth 100000 in
theorem pending_lifted (os : Os) (started : os.Started) (H : Type) (enc : TypeId × Value → H) :
    ReturnsInHanded {} Try.checked os 5 .any (Rows.histPendingSpec.pre6 enc Try.prog Try.f5 Rows.histPendingRow.domain false) (Rows.histPendingSpec.post enc Try.prog Try.f5 false true false false) := by
  refine returnsInHanded_of_change_shaped (C := Try.checked) own started (by kernel_rfl) Try.func5
    (ChangeSpec.witness6 (enc := enc) (C := Try.checked) false ⟨#[], #[.slice none 0 0], []⟩ 8 (by kernel_rfl) (by kernel_rfl) (by kernel_rfl) (by kernel_rfl)) ?_
  intro W base args ds gs before hval0 hW _ hsz0 _ _
  have hval : ∀ (j : Nat) t v, Try.f5.params[j]? = some t → args[j]? = some v → Value.okWide Try.prog W .any base t v := hval0
  have hW' := hW
  obtain ⟨p, q, hA0, hV, rfl, hfz, hnd⟩ := hW
  have hA : DataW.TrodAll enc Try.prog W 0 (fun _ => true) true Try.f5.params.toList args.toList ds p := hA0
  rw [Try.params5] at hA hval
  obtain ⟨v0, vs0, d0, ds0, p0, q0, hargs, rfl, rfl, h0, r0⟩ := trodAll_cons hA
  obtain ⟨rfl, rfl, rfl⟩ := trodAll_nil r0
  obtain rfl : args = #[v0] := by cases args; simp_all
  obtain ⟨rfl, rfl⟩ := trodVars_none hV
  have k0 := h0
  have l0 := place_lt h0
  have hsz1 : (DataW.weightsEach Try.prog (Try.f5.params.toList ++ []) ([d0] ++ [])).all (· ≤ reachBytes) = true := hsz0
  rw [List.append_nil, List.append_nil] at hsz1
  have hsz : ∀ (i : Nat) t d, Try.f5.params.toList[i]? = some t → [d0][i]? = some d → (d.weights Try.prog t).all (· ≤ reachBytes) = true := fun i t d h1 h2 => weightsEach_get Try.f5.params.toList _ i t d h1 h2 hsz1
  obtain ⟨a0, n0, c0, rfl⟩ := okWide_slice Try.underlying36 (hval 0 36 v0 rfl rfl)
  obtain ⟨m0, g0, E0, L0, R0⟩ := open_evs h0 (hsz 0 36 d0 rfl rfl)
  clear hA0 hval0
  refine (pending_any L0 R0 m0 g0).mono fun e W' ⟨he, bel⟩ => ?_
  subst he
  exact ⟨_, rfl, _, _, _, [], _, [], hW', trodAll_mk1 (shut_bool Try.underlying4 _), (trodAll_cons_mk (Below.trod laidOut (by kernel_rfl) (of_decide_eq_true (by kernel_rfl)) k0 bel l0) trodAll_mk0), rfl, bel.frame _, fun h => by cases h⟩

theorem pending_over : Rows.histPendingRow.holds Try.pinned (OpenSpec.ofChange Rows.histPendingSpec) :=
  OpenClaim.holds_of_wide 5 Try.f5 rfl rfl rfl rfl rfl rfl rfl ⟨rfl, rfl, rfl, rfl, rfl⟩ rfl rfl rfl rfl rfl (by kernel_rfl) Try.func5 (by kernel_rfl)
    (of_decide_eq_true (by kernel_rfl)) (by unfold Func.isWrapper; first | (rw [if_pos (by decide +kernel)]; kernel_rfl) | (rw [if_neg (by decide +kernel)]; exact ⟨rfl, rfl⟩))
    (fun os started H enc _ => pending_lifted os started H enc)

theorem pending_holds : Rows.HistPendingSaid := pending_over
#print axioms pending_holds
end Go.Proofs.Ytidonelhapmceaa
