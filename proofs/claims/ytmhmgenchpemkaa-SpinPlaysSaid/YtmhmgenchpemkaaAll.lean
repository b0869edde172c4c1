/- Chapter 2: All. -/
import Derived.Test.YtmhmgenchpemkaaPick
namespace Go.Proofs.Ytmhmgenchpemkaa
open Go.RowKit

theorem info38 : (Try.prog.info? 38).map (fun i => (i.zero, i.size, i.bytes)) = some (some (.agg #[.bool false, .int .i64 0, .int .i64 0, .int .i64 0]), 4, 32) := by kernel_rfl
def Mch.st (x : Mch) : List Value := [.bool x.done, .int .i64 x.sa, .int .i64 x.sb, .int .i64 x.tries]
def states (L : List Mch) : List Value := L.flatMap Mch.st
theorem states_length (L : List Mch) : (states L).length = L.length * 4 := by
  induction L with
  | nil => rfl
  | cons x L ih => simp only [states, List.flatMap_cons, List.length_append, List.length_cons] at ih ⊢; rw [ih]; simp [Mch.st]; omega
theorem states_at : ∀ (L : List Mch) (i : Nat) (x : Mch), L[i]? = some x → ∀ j v, x.st[j]? = some v → (states L)[i * 4 + j]? = some v
  | [], i, x, h, _, _, _ => by simp at h
  | y :: L, 0, x, h, j, v, hv => by
    simp at h; subst h
    have hj : j < y.st.length := (List.getElem?_eq_some_iff.1 hv).1
    rw [states, List.flatMap_cons, Nat.zero_mul, Nat.zero_add, List.getElem?_append_left hj]; exact hv
  | y :: L, i + 1, x, h, j, v, hv => by
    have := states_at L i x (by simpa using h) j v hv
    have e : y.st.length = 4 := rfl
    rw [states, List.flatMap_cons, List.getElem?_append_right (by rw [e]; omega), e, show (i + 1) * 4 + j - 4 = i * 4 + j from by omega]
    exact this

section
variable {w : World} {r b c f o cap : Nat} {v : Value} {L : List Mch} {s : MS}
set_option maxRecDepth 100000 in
set_option maxHeartbeats 8000000 in
theorem all_any (h : Sys w r b c f o cap v L s) : Calls Try.prog 15 #[.pointer (some ⟨r, 0, none⟩)] w fun e w' => ∃ v', e = .returned v' ∧ Win w' w.heap.size 38 4 v' L.length (states L) ∧ Below w.heap.size w w' := by
  obtain ⟨a, cp, hva⟩ := h.value
  have r1 : w.cell? ⟨r, 1, none⟩ = some v := h.hr.cell 1
  have h8 := h.le
  have HR : Hid (∀ (W : World) (k : Nat) (x : Mch), Below w.heap.size w W → L[k]? = some x → a = some ⟨f, o, none⟩ ∧ RowsAt W f o L) := Lib.hid (by
    intro W k x hW hx
    obtain ⟨q, hR⟩ := h.rows (by have := (List.getElem?_eq_some_iff.1 hx).1; omega)
    rw [q] at hva
    cases hva
    exact ⟨rfl, hR.below hW⟩)
  subst hva
  clear h
  obtain ⟨i38, hi, hz0, hz1, hz2⟩ := info_parts info38
  go_enter Try.func15, Try.ntmps15
  go_wp2_with fail
  go_loopw [11, 3] (fun iv lv wr => ∃ k : Nat, k ≤ L.length ∧ iv = .int .i64 k ∧ Hid (Below w.heap.size w wr) ∧ Hid (Win wr w.heap.size 38 4 lv k (states (L.take k)))) (fun iv _ _ => L.length - (intOf iv).toNat)
  case atStart => exact ⟨0, by omega, rfl, Lib.hid (Below.refl _ _), Lib.hid (by simpa [states] using Win.nil _ _ 38 4)⟩
  case round =>
    obtain ⟨k, hk, rfl, HB, HW⟩ := hrel
    by_cases hlt : k < L.length
    · obtain ⟨x, hx⟩ : ∃ x, L[k]? = some x := ⟨_, List.getElem?_eq_getElem hlt⟩
      obtain ⟨rfl, hc⟩ := HR.out wr k x HB.out hx
      obtain ⟨y0, y1, y2, y3, y4, y5, y6, y7, y8, y9, y10, y11, y12, y13⟩ := hc.at hx
      have HX := Lib.hid hx
      have hk0 : (0 : Int) ≤ (k : Int) := by omega
      have hk1 : (k : Int) < (L.length : Int) := by omega
      clear hx hc
      go_upto_region 5 with fail
      obtain ⟨w3, hw3⟩ : ∃ w3, wr.alloc (.cells #[.int .i64 x.kind, .int .i64 x.at_, .int .i64 x.work, .int .i64 x.a, .int .i64 x.b, .bool x.done, .int .i64 x.sa, .int .i64 x.sb, .int .i64 x.tries, .int .i64 x.pc, .int .i64 x.count, .int .i64 x.left, .int .i64 x.ra, .int .i64 x.rb] 80) = w3 := ⟨_, rfl⟩
      rw [hw3]
      have B3 : Below wr.heap.size wr w3 := by rw [← hw3]; exact (Below.refl _ _).alloc (Nat.le_refl _) _
      have HB3 := Lib.hid (HB.out.trans (B3.mono HB.out.size))
      have HW3 := Lib.hid (HW.out.below B3)
      have j5 : w3.cell? ⟨wr.heap.size, 5, none⟩ = some (.bool x.done) := by rw [← hw3]; simp
      have j6 : w3.cell? ⟨wr.heap.size, 6, none⟩ = some (.int .i64 x.sa) := by rw [← hw3]; simp
      have j7 : w3.cell? ⟨wr.heap.size, 7, none⟩ = some (.int .i64 x.sb) := by rw [← hw3]; simp
      have j8 : w3.cell? ⟨wr.heap.size, 8, none⟩ = some (.int .i64 x.tries) := by rw [← hw3]; simp
      obtain ⟨J, hJ⟩ : ∃ J, wr.heap.size = J := ⟨_, rfl⟩
      rw [hJ] at j5 j6 j7 j8 ⊢
      clear hw3 B3 hJ HB HW y0 y1 y2 y3 y4 y5 y6 y7 y8 y9 y10 y11 y12 y13
      have hlv : Hid (states (L.take (k + 1)) = states (L.take k) ++ x.st) := Lib.hid (by rw [List.take_add_one, HX.out]; simp [states])
      have hbs := HB3.out.size
      go_wp2_with (first | (at_builtin; go_must (refine wpList_append_win _ rfl (.tmp 15) (.tmp 18) 41 rfl w.heap.size 38 i38 _ 4 32 Try.underlying41 hi hz0 hz1 hz2 rfl (by decide) u3 k (states (L.take k)) (by simp [Act.eval]) (HW3.out.alloc _) ⟨w3.heap.size, 0, none⟩ 1 1 x.st (by simp [Act.eval]) rfl (new_cells w3 x.st _) (by simp [Mch.st, Value.oneCell']) (by decide) (by unfold maxLen; omega) (by omega) (by simp; omega) ?_); intro f' o' cap' w4 hown hgrow hat; have HO := Lib.hid hown; have HG := Lib.hid hgrow; clear hown hgrow hat))
      go_roundw
      case rel =>
        refine ⟨k + 1, by omega, by go_num, Lib.hid ?_, Lib.hid ?_⟩
        · have b0 := HB3.out.alloc HB3.out.size (.cells x.st.toArray 38)
          refine ⟨HG.out.os.trans b0.os, HG.out.tape.trans b0.tape, HG.out.output.trans b0.output, Nat.le_trans b0.size HG.out.size, fun q hq => (HG.out.block q (Nat.lt_of_lt_of_le hq b0.size) (fun e => ?_)).trans (b0.block q hq)⟩
          have := (HW3.out.lt q e.symm).1
          omega
        · rw [hlv.out]
          exact HO.out
      case measure => simp [intOf]; omega
    · obtain rfl : k = L.length := by omega
      go_wp2_with fail
      go_ret
      have hw := HW.out
      rw [List.take_length] at hw
      exact ⟨_, rfl, hw, HB.out⟩
end
end Go.Proofs.Ytmhmgenchpemkaa
