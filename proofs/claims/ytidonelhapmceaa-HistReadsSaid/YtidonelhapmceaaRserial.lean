/- The walk of the reference's Serial. -/
import Derived.Test.YtidonelhapmceaaQuiet
namespace Go.Proofs.Ytidonelhapmceaa
open Go.RowKit

set_option maxRecDepth 100000 in
set_option maxHeartbeats 16000000 in
theorem rserial_any {w : World} {base bo : Nat} {v : Value} {l : List OpI} (h : Outs w base bo 51 v l) (hl : l.length ≤ 1000) : Calls Try.prog 15 #[v] w fun e w' => e = .returned (.bool (serI l)) ∧ Below w.heap.size w w' := by
  obtain ⟨a, cap, rfl⟩ := h.value
  have HO := Lib.hid h
  clear h
  go_enter Try.func15, Try.ntmps15
  go_wp2_with fail
  go_loopw [3] (fun iv wr => ∃ i : Nat, i ≤ l.length ∧ iv = .int .i64 i ∧ Hid ((∀ i' k', k' < i' → i' < i → pairAt l i' k' = true) ∧ Below w.heap.size w wr)) (fun iv _ => l.length - (intOf iv).toNat)
  case atStart => exact ⟨0, by omega, rfl, fun _ _ _ h => absurd h (by omega), Below.refl _ _⟩
  case round =>
    obtain ⟨i, hil, rfl, HI⟩ := hrel
    by_cases hi : i < l.length
    · have h0 : (0 : Int) ≤ (i : Int) := by omega
      have h1 : (i : Int) < (l.length : Int) := by omega
      obtain ⟨f, o, cp, e⟩ : ∃ f o cp, Value.slice a l.length cap = .slice (some ⟨f, o, none⟩) l.length cp := by
        obtain ⟨_, _, hw, _⟩ := HO.out
        exact hw.form (by omega)
      cases e
      have HR := Lib.hid (HO.out.below HI.out.2)
      obtain ⟨A, hA⟩ : ∃ A, l[i]? = some A := ⟨_, List.getElem?_eq_getElem hi⟩
      have HLA := Lib.hid hA
      have HW0 := Lib.hid (Below.refl wr.heap.size wr)
      obtain ⟨W, hW⟩ : ∃ W, W = wr := ⟨_, rfl⟩
      rw [← hW] at HI HR HW0
      have HWW := Lib.hid hW
      clear hA hW
      go_wp2_with fail
      go_loopw [4] (fun kv wc => ∃ k : Nat, k ≤ i ∧ kv = .int .i64 k ∧ Hid ((∀ k', k' < k → pairAt l i k' = true) ∧ Below W.heap.size W wc)) (fun kv _ => i - (intOf kv).toNat)
      case atStart => exact ⟨0, by omega, rfl, fun _ h => absurd h (by omega), by rw [HWW.out]; exact Below.refl _ _⟩
      case round =>
        obtain ⟨k, hki, rfl, HK⟩ := hrel
        by_cases hk : k < i
        · have k0 : (0 : Int) ≤ (k : Int) := by omega
          have k1 : (k : Int) < (i : Int) := by omega
          have k2 : (k : Int) < (l.length : Int) := by omega
          obtain ⟨C, hC⟩ : ∃ C, l[k]? = some C := ⟨_, List.getElem?_eq_getElem (by omega)⟩
          have HO3 := Lib.hid (HR.out.below HK.out.2)
          obtain ⟨x, y, z, _, _, R1⟩ := HO3.out.row HLA.out
          obtain ⟨x', y', z', _, _, R2⟩ := HO3.out.row hC
          have RA := Lib.hid R1
          have RC := Lib.hid R2
          have HF2 := (HO3.out.lt f rfl).2
          have HPP := Lib.hid (show pairAt l i k = pairI A C from pairAt_eq HLA.out hC)
          clear R1 R2 hC
          by_cases c1 : befI A C = true
          · have HC1 := Lib.hid c1
            have HX1 : Hid (∀ W, Calls Try.prog 18 #[.agg (A.cells x y z).toArray, .agg (C.cells x' y' z').toArray] W fun e w' => e = .returned (.bool true) ∧ Below W.heap.size W w') := Lib.hid (fun W => by have := rbefore_any A C x y z x' y' z' W; rwa [HC1.out] at this)
            clear c1
            go_wp2_with fail
            refine wp_region_graft (by kernel_rfl) (by kernel_rfl) ?_
            repeat (first | (go_big_quiet_want; refine quiet_load_mid 51 (.tmp 18) rfl f (o + i * 23) rfl (A.cells x y z) _ Try.underlying51 rfl size51 RA.out HF2 ?_; simp only [Act.put, List.setIfInBounds_toArray, List.set_cons_zero, List.set_cons_succ]; go_big_quiet_on) | (go_big_quiet_want; refine quiet_load_mid 51 (.tmp 22) rfl f (o + k * 23) rfl (C.cells x' y' z') _ Try.underlying51 rfl size51 RC.out HF2 ?_; simp only [Act.put, List.setIfInBounds_toArray, List.set_cons_zero, List.set_cons_succ]; go_big_quiet_on) | (go_big_quiet_want; refine quiet_load_mid 51 (.tmp 29) rfl f (o + k * 23) rfl (C.cells x' y' z') _ Try.underlying51 rfl size51 RC.out HF2 ?_; simp only [Act.put, List.setIfInBounds_toArray, List.set_cons_zero, List.set_cons_succ]; go_big_quiet_on) | (go_big_quiet_want; refine quiet_load_mid 51 (.tmp 33) rfl f (o + i * 23) rfl (A.cells x y z) _ Try.underlying51 rfl size51 RA.out HF2 ?_; simp only [Act.put, List.setIfInBounds_toArray, List.set_cons_zero, List.set_cons_succ]; go_big_quiet_on) | go_big_quiet_step ((go_at_call 18; (first | with_reducible exact calls_graft (HX1.out _) | with_reducible exact calls_graft (HX2.out _)))))
            refine wpQuiet_nil ?_
            intro w6 b6
            go_wp2_with fail
            go_roundw
            case rel => exact ⟨k + 1, by omega, by go_num, fun k' hk' => by
              by_cases e : k' = k
              · subst e; rw [HPP.out]; simp [pairI, HC1.out]
              · exact HK.out.1 k' (by omega), HK.out.2.trans (b6.mono HK.out.2.size)⟩
            case measure => simp [intOf]; omega
          · have c1 : befI A C = false := by simpa using c1
            have HC1 := Lib.hid c1
            have HX1 : Hid (∀ W, Calls Try.prog 18 #[.agg (A.cells x y z).toArray, .agg (C.cells x' y' z').toArray] W fun e w' => e = .returned (.bool false) ∧ Below W.heap.size W w') := Lib.hid (fun W => by have := rbefore_any A C x y z x' y' z' W; rwa [HC1.out] at this)
            clear c1
            by_cases c2 : befI C A = true
            · have HC2 := Lib.hid c2
              have HX2 : Hid (∀ W, Calls Try.prog 18 #[.agg (C.cells x' y' z').toArray, .agg (A.cells x y z).toArray] W fun e w' => e = .returned (.bool true) ∧ Below W.heap.size W w') := Lib.hid (fun W => by have := rbefore_any C A x' y' z' x y z W; rwa [HC2.out] at this)
              clear c2
              go_wp2_with fail
              refine wp_region_graft (by kernel_rfl) (by kernel_rfl) ?_
              repeat (first | (go_big_quiet_want; refine quiet_load_mid 51 (.tmp 18) rfl f (o + i * 23) rfl (A.cells x y z) _ Try.underlying51 rfl size51 RA.out HF2 ?_; simp only [Act.put, List.setIfInBounds_toArray, List.set_cons_zero, List.set_cons_succ]; go_big_quiet_on) | (go_big_quiet_want; refine quiet_load_mid 51 (.tmp 22) rfl f (o + k * 23) rfl (C.cells x' y' z') _ Try.underlying51 rfl size51 RC.out HF2 ?_; simp only [Act.put, List.setIfInBounds_toArray, List.set_cons_zero, List.set_cons_succ]; go_big_quiet_on) | (go_big_quiet_want; refine quiet_load_mid 51 (.tmp 29) rfl f (o + k * 23) rfl (C.cells x' y' z') _ Try.underlying51 rfl size51 RC.out HF2 ?_; simp only [Act.put, List.setIfInBounds_toArray, List.set_cons_zero, List.set_cons_succ]; go_big_quiet_on) | (go_big_quiet_want; refine quiet_load_mid 51 (.tmp 33) rfl f (o + i * 23) rfl (A.cells x y z) _ Try.underlying51 rfl size51 RA.out HF2 ?_; simp only [Act.put, List.setIfInBounds_toArray, List.set_cons_zero, List.set_cons_succ]; go_big_quiet_on) | go_big_quiet_step ((go_at_call 18; (first | with_reducible exact calls_graft (HX1.out _) | with_reducible exact calls_graft (HX2.out _)))))
              refine wpQuiet_nil ?_
              intro w6 b6
              go_wp2_with fail
              go_roundw
              case rel => exact ⟨k + 1, by omega, by go_num, fun k' hk' => by
                by_cases e : k' = k
                · subst e; rw [HPP.out]; simp [pairI, HC2.out]
                · exact HK.out.1 k' (by omega), HK.out.2.trans (b6.mono HK.out.2.size)⟩
              case measure => simp [intOf]; omega
            · have c2 : befI C A = false := by simpa using c2
              have HC2 := Lib.hid c2
              have HX2 : Hid (∀ W, Calls Try.prog 18 #[.agg (C.cells x' y' z').toArray, .agg (A.cells x y z).toArray] W fun e w' => e = .returned (.bool false) ∧ Below W.heap.size W w') := Lib.hid (fun W => by have := rbefore_any C A x' y' z' x y z W; rwa [HC2.out] at this)
              clear c2
              go_wp2_with fail
              refine wp_region_graft (by kernel_rfl) (by kernel_rfl) ?_
              repeat (first | (go_big_quiet_want; refine quiet_load_mid 51 (.tmp 18) rfl f (o + i * 23) rfl (A.cells x y z) _ Try.underlying51 rfl size51 RA.out HF2 ?_; simp only [Act.put, List.setIfInBounds_toArray, List.set_cons_zero, List.set_cons_succ]; go_big_quiet_on) | (go_big_quiet_want; refine quiet_load_mid 51 (.tmp 22) rfl f (o + k * 23) rfl (C.cells x' y' z') _ Try.underlying51 rfl size51 RC.out HF2 ?_; simp only [Act.put, List.setIfInBounds_toArray, List.set_cons_zero, List.set_cons_succ]; go_big_quiet_on) | (go_big_quiet_want; refine quiet_load_mid 51 (.tmp 29) rfl f (o + k * 23) rfl (C.cells x' y' z') _ Try.underlying51 rfl size51 RC.out HF2 ?_; simp only [Act.put, List.setIfInBounds_toArray, List.set_cons_zero, List.set_cons_succ]; go_big_quiet_on) | (go_big_quiet_want; refine quiet_load_mid 51 (.tmp 33) rfl f (o + i * 23) rfl (A.cells x y z) _ Try.underlying51 rfl size51 RA.out HF2 ?_; simp only [Act.put, List.setIfInBounds_toArray, List.set_cons_zero, List.set_cons_succ]; go_big_quiet_on) | go_big_quiet_step ((go_at_call 18; (first | with_reducible exact calls_graft (HX1.out _) | with_reducible exact calls_graft (HX2.out _)))))
              refine wpQuiet_nil ?_
              intro w6 b6
              go_wp2_with fail
              go_ret
              exact ⟨by rw [serI_no hk hi (by rw [HPP.out]; simp [pairI, HC1.out, HC2.out])]; rfl, (HI.out.2.trans (HK.out.2.mono HI.out.2.size)).trans (b6.mono (Nat.le_trans HI.out.2.size HK.out.2.size))⟩
        · obtain rfl : k = i := by omega
          have e1 : ¬ (k : Int) < (k : Int) := by omega
          go_wp2_with fail
          go_roundw
          case rel => exact ⟨k + 1, by omega, by go_num, fun i' k' g1 g2 => by
            by_cases e : i' = k
            · subst e; exact HK.out.1 k' g1
            · exact HI.out.1 i' k' g1 (by omega), HI.out.2.trans (HK.out.2.mono HI.out.2.size)⟩
          case measure => simp [intOf]; omega
    · obtain rfl : i = l.length := by omega
      have e1 : ¬ (l.length : Int) < (l.length : Int) := by omega
      go_wp2_with fail
      go_ret
      exact ⟨by rw [serI_yes HI.out.1]; rfl, HI.out.2⟩
end Go.Proofs.Ytidonelhapmceaa
