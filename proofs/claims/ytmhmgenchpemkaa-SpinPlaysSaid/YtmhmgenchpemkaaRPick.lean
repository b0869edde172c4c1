/- The reference's Pick and All walked. -/
import Derived.Test.YtmhmgenchpemkaaRTop
namespace Go.Proofs.Ytmhmgenchpemkaa
open Go.RowKit

theorem info53 : (Try.prog.info? 53).map (fun i => (i.zero, i.size, i.bytes)) = some (some (.agg #[.bool false, .int .i64 0, .int .i64 0, .int .i64 0]), 4, 32) := by kernel_rfl
theorem size53 : (Try.prog.info? 53).map (·.size) = some 4 := by kernel_rfl
section
variable {w : World} {q rb c A C S Lb : Nat} {vJ : Value} {js : List Jb} {Y : List RS} {L : List Mch} {s : MS}
set_option maxRecDepth 100000 in
set_option maxHeartbeats 8000000 in
theorem rpick_any (h : RSys w q rb c A C Lb S vJ js Y s) (hd : Y.map (·.done) = L.map (·.done)) {n : Int} (hn0 : -9223372036854775808 ≤ n) (hn1 : n ≤ 9223372036854775807) : Calls Try.prog 20 #[.pointer (some ⟨q, 0, none⟩), .int .i64 n] w fun e w' => e = .returned (.tuple #[.int .i64 (pickOf L n).1, .bool (pickOf L n).2]) ∧ Below w.heap.size w w' := by
  have hlen : js.length = L.length := by
    have := congrArg List.length hd
    rw [List.length_map, List.length_map, h.len] at this
    exact this
  have q5 : w.cell? ⟨q, 5, none⟩ = some (.slice (some ⟨S, 0, none⟩) js.length js.length) := h.hq.cell 5
  rw [hlen] at q5
  have ql := h.hq.lt
  have h8 := h.le
  rw [hlen] at h8
  have HR : Hid (∀ (W : World) (k : Nat) (x : Mch), Below w.heap.size w W → L[k]? = some x → W.cell? ⟨S, k * 4, none⟩ = some (.bool x.done) ∧ W.cell? ⟨q, 5, none⟩ = some (.slice (some ⟨S, 0, none⟩) L.length L.length)) := Lib.hid (by
    intro W k x hW hx
    have hk := (List.getElem?_eq_some_iff.1 hx).1
    obtain ⟨y, hy⟩ : ∃ y, Y[k]? = some y := ⟨_, List.getElem?_eq_getElem (by have := h.len; omega)⟩
    have e : y.done = x.done := by
      have := congrArg (·[k]?) hd
      simpa [hy, hx] using this
    rw [← e]
    refine ⟨((h.below hW).hS.at hy).1, ?_⟩
    have := (h.below hW).hq.cell 5
    rw [hlen] at this
    exact this)
  have HR5 : Hid (∀ W, Below w.heap.size w W → W.cell? ⟨q, 5, none⟩ = some (.slice (some ⟨S, 0, none⟩) L.length L.length)) := Lib.hid (fun W hW => (hW.cell (p := ⟨q, 5, none⟩) ql).trans q5)
  clear h hd hlen q5
  obtain ⟨i3, hi, hz0, hz1, hz2⟩ := info_parts info3
  go_enter Try.func20, Try.ntmps20
  go_wp2_with fail
  go_loopw [7, 6] (fun iv lv wr => ∃ k : Nat, k ≤ L.length ∧ iv = .int .i64 k ∧ Hid (Below w.heap.size w wr) ∧ Hid (Win wr w.heap.size 3 1 lv (undone L k).length (nums (undone L k)))) (fun iv _ _ => L.length - (intOf iv).toNat)
  case atStart => exact ⟨0, by omega, rfl, Lib.hid (Below.refl _ _), Lib.hid (by simpa [undone, nums] using Win.nil _ _ 3 1)⟩
  case round =>
    obtain ⟨k, hk, rfl, HB, HW⟩ := hrel
    have q5 := HR5.out wr HB.out
    by_cases hlt : k < L.length
    · obtain ⟨x, hx⟩ : ∃ x, L[k]? = some x := ⟨_, List.getElem?_eq_getElem hlt⟩
      obtain ⟨j5, _⟩ := HR.out wr k x HB.out hx
      have HX := Lib.hid hx
      have hk0 : (0 : Int) ≤ (k : Int) := by omega
      have hk1 : (k : Int) < (L.length : Int) := by omega
      clear hx
      have hul := undone_le L k
      obtain ⟨a6, c6, hv6⟩ := HW.out.value
      cases hd : x.done
      · have hlv : Hid (undone L (k + 1) = undone L k ++ [k]) := Lib.hid (by rw [undone_succ]; simp [live, HX.out, hd])
        rw [hd] at j5
        have hbs := HB.out.size
        clear hd
        go_wp2_with (first | (at_builtin; go_must (refine wpList_append_win _ rfl (.tmp 26) (.tmp 28) 45 rfl w.heap.size 3 i3 _ 1 8 Try.underlying45 hi hz0 hz1 hz2 rfl (by decide) u6 (undone L k).length (nums (undone L k)) (by simp [Act.eval]) (HW.out.alloc _) ⟨wr.heap.size, 0, none⟩ 1 1 [.int .i64 k] (by simp [Act.eval]) rfl (new_cells wr [.int .i64 k] _) (by simp [Value.oneCell']) (by decide) (by unfold maxLen; omega) (by omega) (by simp; omega) ?_); intro f' o' cap' w4 hown hgrow hat; have HO := Lib.hid hown; have HG := Lib.hid hgrow; clear hown hgrow hat))
        go_roundw
        case rel =>
          refine ⟨k + 1, by omega, by go_num, Lib.hid ?_, Lib.hid ?_⟩
          · have b0 := HB.out.alloc HB.out.size (.cells #[.int .i64 (k : Int)] 3)
            refine ⟨HG.out.os.trans b0.os, HG.out.tape.trans b0.tape, HG.out.output.trans b0.output, Nat.le_trans b0.size HG.out.size, fun q hq => (HG.out.block q (Nat.lt_of_lt_of_le hq b0.size) (fun e => ?_)).trans (b0.block q hq)⟩
            have := (HW.out.lt q e.symm).1
            omega
          · rw [hlv.out]
            simpa [nums] using HO.out
        case measure => simp [intOf]; omega
      · have hlv : Hid (undone L (k + 1) = undone L k) := Lib.hid (by rw [undone_succ]; simp [live, HX.out, hd])
        rw [hd] at j5
        clear hd
        go_wp2_with fail
        go_roundw
        case rel => exact ⟨k + 1, by omega, by go_num, HB, Lib.hid (by rw [hlv.out]; exact HW.out)⟩
        case measure => simp [intOf]; omega
    · obtain rfl : k = L.length := by omega
      obtain ⟨a2, c2, hv2⟩ := HW.out.value
      have hul := undone_le L L.length
      by_cases h0 : undone L L.length = []
      · have E : Hid (pickOf L n = (0, false)) := Lib.hid (by rw [pickOf, if_pos h0])
        rw [h0] at hv2
        subst hv2
        clear h0 hul
        go_wp2_with fail
        go_ret2
        rw [E.out]
        exact ⟨rfl, HB.out⟩
      · have E : Hid (pickOf L n = ((((undone L L.length).getD (turned n % (undone L L.length).length).toNat 0 : Nat) : Int), true)) := Lib.hid (by rw [pickOf, if_neg h0])
        have hp : 0 < (undone L L.length).length := by cases h : undone L L.length; exact absurd h h0; simp
        clear h0
        obtain ⟨f2, o2, c2', hv3⟩ := HW.out.form hp
        rw [hv2] at hv3
        cases hv3
        subst hv2
        obtain ⟨U, hU⟩ : ∃ U, undone L L.length = U := ⟨_, rfl⟩
        rw [hU] at HW E hp hul ⊢
        clear hU
        have ht0 : 0 ≤ turned n := by unfold turned; split <;> omega
        obtain ⟨q, hq⟩ : ∃ q : Nat, turned n % (U.length : Int) = q := ⟨(turned n % (U.length : Int)).toNat, (Int.toNat_of_nonneg (Int.emod_nonneg _ (by omega))).symm⟩
        have hqm : Int.tmod (turned n) (U.length : Int) = q := by rw [Int.tmod_eq_emod_of_nonneg ht0, hq]
        have hql : q < U.length := by have := Int.emod_lt_of_pos (turned n) (show (0 : Int) < U.length by omega); omega
        have hq0 : (0 : Int) ≤ (q : Int) := by omega
        have hq1 : (q : Int) < (U.length : Int) := by omega
        have e0 : wr.cell? ⟨f2, o2 + q, none⟩ = some (.int .i64 (U.getD q 0 : Nat)) := by
          have := HW.out.cells q (by omega)
          rw [this, nums, List.getElem?_map, List.getElem?_eq_getElem hql]
          simp [List.getElem?_eq_getElem hql]
        obtain ⟨X, hX⟩ : ∃ X, U.getD q 0 = X := ⟨_, rfl⟩
        have EX : Hid (pickOf L n = ((X : Int), true)) := Lib.hid (by rw [E.out, hq, Int.toNat_natCast, hX])
        rw [hX] at e0
        clear hX hq E
        have d9 : ((U.length : Int) == 0) = false := beq_eq_false_iff_ne.2 (by omega)
        by_cases hn : n < 0
        · have d : decide (n < 0) = true := by simpa using hn
          have e9 : turned n = -(n + 1) := by rw [turned, if_pos hn]
          rw [e9] at hqm ht0
          clear e9
          go_wp2_with fail
          go_ret2
          rw [EX.out]
          exact ⟨rfl, HB.out⟩
        · have d : decide (n < 0) = false := by simpa using hn
          have e9 : turned n = n := by rw [turned, if_neg hn]
          rw [e9] at hqm ht0
          clear e9
          go_wp2_with fail
          go_ret2
          rw [EX.out]
          exact ⟨rfl, HB.out⟩
set_option maxRecDepth 100000 in
set_option maxHeartbeats 8000000 in
theorem rall_any (h : RSys w q rb c A C Lb S vJ js Y s) (hl : js.length = L.length) (hd : ∀ (k : Nat) (x : Mch) (y : RS), L[k]? = some x → Y[k]? = some y → y.shown = x.st) : Calls Try.prog 25 #[.pointer (some ⟨q, 0, none⟩)] w fun e w' => ∃ v', e = .returned v' ∧ Win w' w.heap.size 53 4 v' L.length (states L) ∧ Below w.heap.size w w' := by
  have q5 : w.cell? ⟨q, 5, none⟩ = some (.slice (some ⟨S, 0, none⟩) js.length js.length) := h.hq.cell 5
  rw [hl] at q5
  have ql := h.hq.lt
  have h8 := h.le
  rw [hl] at h8
  have HR : Hid (∀ (W : World) (k : Nat) (x : Mch), Below w.heap.size w W → L[k]? = some x → ∃ y : RS, y.shown = x.st ∧ W.rangeAt S (k * 4) y.st) := Lib.hid (by
    intro W k x hW hx
    have hk := (List.getElem?_eq_some_iff.1 hx).1
    obtain ⟨y, hy⟩ : ∃ y, Y[k]? = some y := ⟨_, List.getElem?_eq_getElem (by have := h.len; omega)⟩
    exact ⟨y, hd k x y hx hy, (h.below hW).hS.2.2 k y hy⟩)
  have HR5 : Hid (∀ W, Below w.heap.size w W → W.cell? ⟨q, 5, none⟩ = some (.slice (some ⟨S, 0, none⟩) L.length L.length)) := Lib.hid (fun W hW => (hW.cell (p := ⟨q, 5, none⟩) ql).trans q5)
  clear h hd hl q5
  obtain ⟨i38, hi, hz0, hz1, hz2⟩ := info_parts info53
  go_enter Try.func25, Try.ntmps25
  go_wp2_with fail
  go_loopw [4, 3] (fun iv lv wr => ∃ k : Nat, k ≤ L.length ∧ iv = .int .i64 k ∧ Hid (Below w.heap.size w wr) ∧ Hid (Win wr w.heap.size 53 4 lv k (states (L.take k)))) (fun iv _ _ => L.length - (intOf iv).toNat)
  case atStart => exact ⟨0, by omega, rfl, Lib.hid (Below.refl _ _), Lib.hid (by simpa [states] using Win.nil _ _ 53 4)⟩
  case round =>
    obtain ⟨k, hk, rfl, HB, HW⟩ := hrel
    have q5 := HR5.out wr HB.out
    by_cases hlt : k < L.length
    · obtain ⟨x, hx⟩ : ∃ x, L[k]? = some x := ⟨_, List.getElem?_eq_getElem hlt⟩
      obtain ⟨y, hs, R⟩ := HR.out wr k x HB.out hx
      have HX := Lib.hid hx
      have hk0 : (0 : Int) ≤ (k : Int) := by omega
      have hk1 : (k : Int) < (L.length : Int) := by omega
      have HSH := Lib.hid hs
      have hlv : Hid (states (L.take (k + 1)) = states (L.take k) ++ x.st) := Lib.hid (by rw [List.take_add_one, HX.out]; simp [states])
      clear hx hs
      have hbs := HB.out.size
      go_wp2_with (first | (refine wpList_load_mid rfl 53 (.tmp 20) rfl S (k * 4) rfl y.st _ R Try.underlying53 rfl size53 ?_) | (go_at_call 37; refine (shown_any wr y).mono ?_; rintro e w3 ⟨rfl, b3⟩; rw [HSH.out]; unfold Mch.st; have HB3 := Lib.hid (HB.out.trans (b3.mono HB.out.size)); have HW3 := Lib.hid (HW.out.below b3); have hbs3 := HB3.out.size; clear b3) | (at_builtin; go_must (refine wpList_append_win _ rfl (.tmp 14) (.tmp 23) 63 rfl w.heap.size 53 i38 _ 4 32 Try.underlying63 hi hz0 hz1 hz2 rfl (by decide) u3 k (states (L.take k)) (by simp [Act.eval]) (HW3.out.alloc _) ⟨w3.heap.size, 0, none⟩ 1 1 x.st (by simp [Act.eval]) rfl (new_cells w3 x.st _) (by simp [Mch.st, Value.oneCell']) (by decide) (by unfold maxLen; omega) (by omega) (by simp; omega) ?_); intro f' o' cap' w4 hown hgrow hat; have HO := Lib.hid hown; have HG := Lib.hid hgrow; clear hown hgrow hat))
      go_roundw
      case rel =>
        refine ⟨k + 1, by omega, by go_num, Lib.hid ?_, Lib.hid ?_⟩
        · have b0 := HB3.out.alloc HB3.out.size (.cells x.st.toArray 53)
          refine ⟨HG.out.os.trans b0.os, HG.out.tape.trans b0.tape, HG.out.output.trans b0.output, Nat.le_trans b0.size HG.out.size, fun q hq => (HG.out.block q (Nat.lt_of_lt_of_le hq b0.size) (fun e => ?_)).trans (b0.block q hq)⟩
          have := (HW3.out.lt q e.symm).1
          omega
        · rw [hlv.out]
          exact HO.out
      case measure => simp [intOf]; omega
    · obtain rfl : k = L.length := by omega
      obtain ⟨a2, c2, hv2⟩ := HW.out.value
      subst hv2
      go_wp2_with fail
      go_ret
      have := HW.out
      rw [List.take_length] at this
      exact ⟨_, rfl, this, HB.out⟩
end
end Go.Proofs.Ytmhmgenchpemkaa
