/- HistAlike: for every input the law returns true, and each argument reads as it read before. No condition. -/
import Derived.HandedShaped
import Derived.Test.YtidonelhapmceaaFrame
import Derived.Test.YtidonelhapmceaaOpen
import Derived.Test.YtidonelhapmceaaAlike
namespace Go.Proofs.Ytidonelhapmceaa
open Go.ChangeShapes Go.WideShapes Go.ChangeAt Go.RowKit

set_option maxRecDepth 100000 in
theorem alike_lifted (os : Os) (started : os.Started) (H : Type) (enc : TypeId × Value → H) :
    ReturnsInHanded {} Try.checked os 7 .any (Rows.histAlikeSpec.pre6 enc Try.prog Try.f7 Rows.histAlikeRow.domain false) (Rows.histAlikeSpec.post enc Try.prog Try.f7 false true false false) := by
  refine returnsInHanded_of_change_shaped (C := Try.checked) own started (by kernel_rfl) Try.func7
    (ChangeSpec.witness6 (enc := enc) (C := Try.checked) false ⟨#[], #[.agg #[.int .i64 0, .int .i64 0, .slice none 0 0, .slice none 0 0, .int .i64 0, .int .i64 0, .int .i64 0, .int .i64 0, .int .i64 0, .int .i64 0, .int .i64 0], .int .i64 0], []⟩ 8 (by kernel_rfl) (by kernel_rfl) (by kernel_rfl) (by kernel_rfl)) ?_
  intro W base args ds gs before hval0 hW _ hsz0 _ _
  have hval : ∀ (j : Nat) t v, Try.f7.params[j]? = some t → args[j]? = some v → Value.okWide Try.prog W .any base t v := hval0
  have hW' := hW
  obtain ⟨p, q, hA0, hV, rfl, hfz, hnd⟩ := hW
  have hA : DataW.TrodAll enc Try.prog W 0 (fun _ => true) true Try.f7.params.toList args.toList ds p := hA0
  rw [Try.params7] at hA hval
  obtain ⟨v0, vs0, d0, ds0, p0, q0, hargs, rfl, rfl, h0, r0⟩ := trodAll_cons hA
  obtain ⟨v1, vs1, d1, ds1, p1, q1, rfl, rfl, rfl, h1, r1⟩ := trodAll_cons r0
  obtain ⟨rfl, rfl, rfl⟩ := trodAll_nil r1
  obtain rfl : args = #[v0, v1] := by cases args; simp_all
  obtain ⟨rfl, rfl⟩ := trodVars_none hV
  have k0 := h0
  have l0 := place_lt h0
  have k1 := h1
  have l1 := place_lt h1
  have hsz1 : (DataW.weightsEach Try.prog (Try.f7.params.toList ++ []) ([d0, d1] ++ [])).all (· ≤ reachBytes) = true := hsz0
  rw [List.append_nil, List.append_nil] at hsz1
  have hsz : ∀ (i : Nat) t d, Try.f7.params.toList[i]? = some t → [d0, d1][i]? = some d → (d.weights Try.prog t).all (· ≤ reachBytes) = true := fun i t d h1 h2 => weightsEach_get Try.f7.params.toList _ i t d h1 h2 hsz1
  obtain ⟨r0, b0, e0, rfl, X0, Y0⟩ := open_res (hval 0 33 v0 rfl rfl) h0 (hsz 0 33 d0 rfl rfl)
  obtain ⟨z1, e1, _, _, w1⟩ := open_int Try.underlying3 (hval 1 3 v1 rfl rfl) h1
  obtain rfl := e1
  clear hA0 hval0
  refine (alike_any X0 Y0 (bounds_of w1).1 (bounds_of w1).2).mono fun e W' ⟨he, bel⟩ => ?_
  subst he
  exact ⟨_, rfl, _, _, _, [], _, [], hW', trodAll_mk1 (shut_bool Try.underlying4 _), (trodAll_cons_mk (Below.trod laidOut (by kernel_rfl) (of_decide_eq_true (by kernel_rfl)) k0 bel l0) (trodAll_cons_mk (Below.trod laidOut (by kernel_rfl) (of_decide_eq_true (by kernel_rfl)) k1 bel l1) trodAll_mk0)), rfl, bel.frame _, fun h => by cases h⟩

theorem alike_over : Rows.histAlikeRow.holds Try.pinned (OpenSpec.ofChange Rows.histAlikeSpec) :=
  OpenClaim.holds_of_wide 7 Try.f7 rfl rfl rfl rfl rfl rfl rfl ⟨rfl, rfl, rfl, rfl, rfl⟩ rfl rfl rfl rfl rfl (by kernel_rfl) Try.func7 (by kernel_rfl)
    (of_decide_eq_true (by kernel_rfl)) (by unfold Func.isWrapper; first | (rw [if_pos (by decide +kernel)]; kernel_rfl) | (rw [if_neg (by decide +kernel)]; exact ⟨rfl, rfl⟩))
    (fun os started H enc _ => alike_lifted os started H enc)

theorem alike_holds : Rows.HistAlikeSaid := alike_over
#print axioms alike_holds
end Go.Proofs.Ytidonelhapmceaa
