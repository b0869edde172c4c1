/- Chapter 2: Pick. -/
import Derived.Test.YtmhmgenchpemkaaStep
namespace Go.Proofs.Ytmhmgenchpemkaa
open Go.RowKit

theorem info3 : (Try.prog.info? 3).map (fun i => (i.zero, i.size, i.bytes)) = some (some (.int .i64 0), 1, 8) := by kernel_rfl
theorem size80 : (Try.prog.info? 80).map (·.size) = some 14 := by kernel_rfl
def live (L : List Mch) (i : Nat) : Bool := match L[i]? with
  | some x => !x.done
  | none => false
/-- Those that are not done, of the first k. -/
def undone (L : List Mch) (k : Nat) : List Nat := (List.range k).filter (live L)
def turned (n : Int) : Int := if n < 0 then -(n + 1) else n
def pickOf (L : List Mch) (n : Int) : Int × Bool :=
  if undone L L.length = [] then (0, false) else ((((undone L L.length).getD (turned n % (undone L L.length).length).toNat 0 : Nat) : Int), true)
theorem undone_succ (L : List Mch) (k : Nat) : undone L (k + 1) = undone L k ++ if live L k then [k] else [] := by
  rw [undone, List.range_succ, List.filter_append, undone]
  congr 1
  cases h : live L k <;> simp [h]
theorem undone_le (L : List Mch) (k : Nat) : (undone L k).length ≤ k := by
  have := List.length_filter_le (live L) (List.range k)
  simpa [undone] using this
def nums (l : List Nat) : List Value := l.map fun (n : Nat) => Value.int .i64 (n : Int)

section
variable {w : World} {r b c f o cap : Nat} {v : Value} {L : List Mch} {s : MS}
set_option maxRecDepth 100000 in
set_option maxHeartbeats 8000000 in
theorem pick_any (h : Sys w r b c f o cap v L s) {n : Int} (hn0 : -9223372036854775808 ≤ n) (hn1 : n ≤ 9223372036854775807) : Calls Try.prog 12 #[.pointer (some ⟨r, 0, none⟩), .int .i64 n] w fun e w' => e = .returned (.tuple #[.int .i64 (pickOf L n).1, .bool (pickOf L n).2]) ∧ Below w.heap.size w w' := by
  obtain ⟨a, cp, hva⟩ := h.value
  have r1 : w.cell? ⟨r, 1, none⟩ = some v := h.hr.cell 1
  have h8 := h.le
  have HR : Hid (∀ (W : World) (k : Nat) (x : Mch), Below w.heap.size w W → L[k]? = some x → a = some ⟨f, o, none⟩ ∧ RowsAt W f o L) := Lib.hid (by
    intro W k x hW hx
    obtain ⟨q, hR⟩ := h.rows (by have := (List.getElem?_eq_some_iff.1 hx).1; omega)
    rw [q] at hva
    cases hva
    exact ⟨rfl, hR.below hW⟩)
  subst hva
  clear h
  obtain ⟨i3, hi, hz0, hz1, hz2⟩ := info_parts info3
  go_enter Try.func12, Try.ntmps12
  go_wp2_with fail
  go_loopw [14, 6] (fun iv lv wr => ∃ k : Nat, k ≤ L.length ∧ iv = .int .i64 k ∧ Hid (Below w.heap.size w wr) ∧ Hid (Win wr w.heap.size 3 1 lv (undone L k).length (nums (undone L k)))) (fun iv _ _ => L.length - (intOf iv).toNat)
  case atStart => exact ⟨0, by omega, rfl, Lib.hid (Below.refl _ _), Lib.hid (by simpa [undone, nums] using Win.nil _ _ 3 1)⟩
  case round =>
    obtain ⟨k, hk, rfl, HB, HW⟩ := hrel
    by_cases hlt : k < L.length
    · obtain ⟨x, hx⟩ : ∃ x, L[k]? = some x := ⟨_, List.getElem?_eq_getElem hlt⟩
      obtain ⟨rfl, hc⟩ := HR.out wr k x HB.out hx
      obtain ⟨y0, y1, y2, y3, y4, y5, y6, y7, y8, y9, y10, y11, y12, y13⟩ := hc.at hx
      have HX := Lib.hid hx
      have hk0 : (0 : Int) ≤ (k : Int) := by omega
      have hk1 : (k : Int) < (L.length : Int) := by omega
      clear hx hc
      go_upto_region 4 with fail
      go_upto_region 5 with fail
      obtain ⟨w3, hw3⟩ : ∃ w3, wr.alloc (.cells #[.int .i64 x.kind, .int .i64 x.at_, .int .i64 x.work, .int .i64 x.a, .int .i64 x.b, .bool x.done, .int .i64 x.sa, .int .i64 x.sb, .int .i64 x.tries, .int .i64 x.pc, .int .i64 x.count, .int .i64 x.left, .int .i64 x.ra, .int .i64 x.rb] 80) = w3 := ⟨_, rfl⟩
      rw [hw3]
      have B3 : Below wr.heap.size wr w3 := by rw [← hw3]; exact (Below.refl _ _).alloc (Nat.le_refl _) _
      have HB3 := Lib.hid (HB.out.trans (B3.mono HB.out.size))
      have HW3 := Lib.hid (HW.out.below B3)
      have j5 : w3.cell? ⟨wr.heap.size, 5, none⟩ = some (.bool x.done) := by rw [← hw3]; simp
      obtain ⟨J, hJ⟩ : ∃ J, wr.heap.size = J := ⟨_, rfl⟩
      rw [hJ] at j5 ⊢
      clear hw3 B3 hJ HB HW y0 y1 y2 y3 y4 y5 y6 y7 y8 y9 y10 y11 y12 y13
      have hul := undone_le L k
      cases hd : x.done
      · have hlv : Hid (undone L (k + 1) = undone L k ++ [k]) := Lib.hid (by rw [undone_succ]; simp [live, HX.out, hd])
        rw [hd] at j5
        have hbs := HB3.out.size
        clear hd
        go_wp2_with (first | (at_builtin; go_must (refine wpList_append_win _ rfl (.tmp 23) (.tmp 25) 45 rfl w.heap.size 3 i3 _ 1 8 Try.underlying45 hi hz0 hz1 hz2 rfl (by decide) u6 (undone L k).length (nums (undone L k)) (by simp [Act.eval]) (HW3.out.alloc _) ⟨w3.heap.size, 0, none⟩ 1 1 [.int .i64 k] (by simp [Act.eval]) rfl (new_cells w3 [.int .i64 k] _) (by simp [Value.oneCell']) (by decide) (by unfold maxLen; omega) (by omega) (by simp; omega) ?_); intro f' o' cap' w4 hown hgrow hat; have HO := Lib.hid hown; have HG := Lib.hid hgrow; clear hown hgrow hat))
        go_roundw
        case rel =>
          refine ⟨k + 1, by omega, by go_num, Lib.hid ?_, Lib.hid ?_⟩
          · have b0 := HB3.out.alloc HB3.out.size (.cells #[.int .i64 (k : Int)] 3)
            refine ⟨HG.out.os.trans b0.os, HG.out.tape.trans b0.tape, HG.out.output.trans b0.output, Nat.le_trans b0.size HG.out.size, fun q hq => (HG.out.block q (Nat.lt_of_lt_of_le hq b0.size) (fun e => ?_)).trans (b0.block q hq)⟩
            have := (HW3.out.lt q e.symm).1
            omega
          · rw [hlv.out]
            simpa [nums] using HO.out
        case measure => simp [intOf]; omega
      · have hlv : Hid (undone L (k + 1) = undone L k) := Lib.hid (by rw [undone_succ]; simp [live, HX.out, hd])
        rw [hd] at j5
        clear hd
        go_wp2_with fail
        go_roundw
        case rel => exact ⟨k + 1, by omega, by go_num, HB3, Lib.hid (by rw [hlv.out]; exact HW3.out)⟩
        case measure => simp [intOf]; omega
    · obtain rfl : k = L.length := by omega
      obtain ⟨a2, c2, hv2⟩ := HW.out.value
      have hul := undone_le L L.length
      by_cases h0 : undone L L.length = []
      · have E : Hid (pickOf L n = (0, false)) := Lib.hid (by rw [pickOf, if_pos h0])
        rw [h0] at hv2
        subst hv2
        clear h0 hul
        go_wp2_with fail
        go_ret2
        rw [E.out]
        exact ⟨rfl, HB.out⟩
      · have E : Hid (pickOf L n = ((((undone L L.length).getD (turned n % (undone L L.length).length).toNat 0 : Nat) : Int), true)) := Lib.hid (by rw [pickOf, if_neg h0])
        have hp : 0 < (undone L L.length).length := by cases h : undone L L.length; exact absurd h h0; simp
        clear h0
        obtain ⟨f2, o2, c2', hv3⟩ := HW.out.form hp
        rw [hv2] at hv3
        cases hv3
        subst hv2
        obtain ⟨U, hU⟩ : ∃ U, undone L L.length = U := ⟨_, rfl⟩
        rw [hU] at HW E hp hul ⊢
        clear hU
        have ht0 : 0 ≤ turned n := by unfold turned; split <;> omega
        obtain ⟨q, hq⟩ : ∃ q : Nat, turned n % (U.length : Int) = q := ⟨(turned n % (U.length : Int)).toNat, (Int.toNat_of_nonneg (Int.emod_nonneg _ (by omega))).symm⟩
        have hqm : Int.tmod (turned n) (U.length : Int) = q := by rw [Int.tmod_eq_emod_of_nonneg ht0, hq]
        have hql : q < U.length := by have := Int.emod_lt_of_pos (turned n) (show (0 : Int) < U.length by omega); omega
        have hq0 : (0 : Int) ≤ (q : Int) := by omega
        have hq1 : (q : Int) < (U.length : Int) := by omega
        have e0 : wr.cell? ⟨f2, o2 + q, none⟩ = some (.int .i64 (U.getD q 0 : Nat)) := by
          have := HW.out.cells q (by omega)
          rw [this, nums, List.getElem?_map, List.getElem?_eq_getElem hql]
          simp [List.getElem?_eq_getElem hql]
        obtain ⟨X, hX⟩ : ∃ X, U.getD q 0 = X := ⟨_, rfl⟩
        have EX : Hid (pickOf L n = ((X : Int), true)) := Lib.hid (by rw [E.out, hq, Int.toNat_natCast, hX])
        rw [hX] at e0
        clear hX hq E
        have d9 : ((U.length : Int) == 0) = false := beq_eq_false_iff_ne.2 (by omega)
        by_cases hn : n < 0
        · have d : decide (n < 0) = true := by simpa using hn
          have e9 : turned n = -(n + 1) := by rw [turned, if_pos hn]
          rw [e9] at hqm ht0
          clear e9
          go_wp2_with fail
          go_ret2
          rw [EX.out]
          exact ⟨rfl, HB.out⟩
        · have d : decide (n < 0) = false := by simpa using hn
          have e9 : turned n = n := by rw [turned, if_neg hn]
          rw [e9] at hqm ht0
          clear e9
          go_wp2_with fail
          go_ret2
          rw [EX.out]
          exact ⟨rfl, HB.out⟩
end
end Go.Proofs.Ytmhmgenchpemkaa
