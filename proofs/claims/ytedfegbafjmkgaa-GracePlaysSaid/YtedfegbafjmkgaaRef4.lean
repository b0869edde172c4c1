/- Chapter 4, the document's answer: some, Waiting, Inside, Blocks, Poll. -/
import Derived.Test.YtedfegbafjmkgaaRef3
namespace Go.Proofs.Ytedfegbafjmkgaa
open Go.RowKit

def picked (p : Nat → Bool) (k : Nat) : List Nat := (List.range k).filter p
theorem picked_out {p : Nat → Bool} {k : Nat} (h : p k = false) : picked p (k + 1) = picked p k := by
  simp only [picked, List.range_succ, List.filter_append, List.filter_cons, h, List.filter_nil, Bool.false_eq_true, if_false, List.append_nil]
theorem picked_in {p : Nat → Bool} {k : Nat} (h : p k = true) : picked p (k + 1) = picked p k ++ [k] := by
  simp only [picked, List.range_succ, List.filter_append, List.filter_cons, h, List.filter_nil, if_true]
theorem picked_length (p : Nat → Bool) (k : Nat) : (picked p k).length ≤ k := by
  unfold picked; exact Nat.le_trans (List.length_filter_le _ _) (by simp)
def trues (who : List Bool) : List Nat := picked (fun j => who.getD j false) who.length
def insides (l : List Int) : List Nat := picked (fun j => decide (0 < l.getD j 0)) l.length

section
variable {w w' : World} {base gb ib : Nat} {v : Value} {t : RS}
set_option maxRecDepth 100000 in
set_option maxHeartbeats 1000000 in
theorem some_any (w : World) (f n : Nat) (who : List Bool) (hw : w.heap[f]? = some (.cells (bl who) 4 (0, 0))) (hl : who.length = n) (hn8 : n ≤ 8) : Calls Try.prog 31 #[.slice (some ⟨f, 0, none⟩) n n] w fun e w' => ∃ ov, e = .returned ov ∧ Win w' w.heap.size 3 1 ov (trues who).length (natsOf (trues who)) ∧ Below w.heap.size w w' := by
  subst hl
  have hfl := heapLt hw
  have HW := Lib.hid hw
  clear hw
  obtain ⟨i3, hi, hz0, hz1, hz2⟩ := info_parts info3
  go_enter Try.func31, Try.ntmps31
  go_wp2_with fail
  go_loopw [3, 4] (fun ov iv wr => ∃ k : Nat, k ≤ who.length ∧ iv = .int .i64 k ∧ Hid (Win wr w.heap.size 3 1 ov (picked (fun j => who.getD j false) k).length (natsOf (picked (fun j => who.getD j false) k))) ∧ Hid (Below w.heap.size w wr)) (fun _ iv _ => who.length - (intOf iv).toNat)
  case atStart => exact ⟨0, by omega, rfl, Lib.hid (by simpa [picked, natsOf] using Win.nil _ _ 3 1), Lib.hid (Below.refl _ _)⟩
  case round =>
    obtain ⟨k, hk, rfl, HR, HB⟩ := hrel
    by_cases hlt : k < who.length
    · have hk0 : (0 : Int) ≤ (k : Int) := by omega
      have hk1 : (k : Int) < (who.length : Int) := by omega
      have c0 : wr.cell? ⟨f, k, none⟩ = some (.bool (who.getD k false)) := (HB.out.cell (p := ⟨f, k, none⟩) hfl).trans ((heapCell HW.out k).trans (bl_at hlt))
      have hbs := HB.out.size
      have hpl := picked_length (fun j => who.getD j false) k
      obtain ⟨b, hb⟩ : ∃ b, who.getD k false = b := ⟨_, rfl⟩
      rw [hb] at c0
      cases b
      · have HP := Lib.hid (picked_out (p := fun j => who.getD j false) hb)
        clear hb
        go_wp2_with fail
        go_roundw
        case rel => exact ⟨k + 1, by omega, by go_num, Lib.hid (by rw [HP.out]; exact HR.out), HB⟩
        case measure => simp [intOf]; omega
      · have HP := Lib.hid (picked_in (p := fun j => who.getD j false) hb)
        clear hb
        go_wp2_with (first | (at_builtin; go_must (refine wpList_append_win _ rfl (.tmp 15) (.tmp 17) 28 rfl w.heap.size 3 i3 _ 1 8 Try.underlying28 hi hz0 hz1 hz2 rfl (by decide) u3 (picked (fun j => who.getD j false) k).length (natsOf (picked (fun j => who.getD j false) k)) (by simp [Act.eval]) (HR.out.alloc _) ⟨wr.heap.size, 0, none⟩ 1 1 [.int .i64 (k : Int)] (by simp [Act.eval]) rfl (new_cells wr [.int .i64 (k : Int)] _) (by simp [Value.oneCell']) (by decide) (by unfold maxLen; omega) (by omega) (by simp; omega) ?_); intro f' o' cap' w4 hown hgrow hat; have HO := Lib.hid hown; have HG := Lib.hid hgrow; clear hown hgrow hat))
        go_roundw
        case rel =>
          refine ⟨k + 1, by omega, by go_num, Lib.hid ?_, Lib.hid ?_⟩
          · rw [HP.out]; simpa [natsOf] using HO.out
          · exact (HB.out.alloc HB.out.size _).grown HG.out (by simp; omega) (fun q e => (HR.out.lt q e).1)
        case measure => simp [intOf]; omega
    · obtain rfl : k = who.length := by omega
      go_wp2_with fail
      go_ret
      exact ⟨_, rfl, HR.out, HB.out⟩
set_option maxRecDepth 100000 in
set_option maxHeartbeats 1000000 in
theorem rinside_any (h : Rf w base gb ib v t) : Calls Try.prog 26 #[.pointer (some ⟨gb, 0, none⟩)] w fun e w' => ∃ ov, e = .returned ov ∧ Win w' w.heap.size 3 1 ov (insides t.ins).length (natsOf (insides t.ins)) ∧ Below w.heap.size w w' := by
  have hlg := h.hg.lt
  have hli := h.hi.lt
  have hn8 := h.n8
  have H := Lib.hid h
  clear h
  obtain ⟨i3, hi, hz0, hz1, hz2⟩ := info_parts info3
  go_enter Try.func26, Try.ntmps26
  go_wp2_with fail
  go_loopw [3, 4] (fun ov iv wr => ∃ k : Nat, k ≤ t.ins.length ∧ iv = .int .i64 k ∧ Hid (Win wr w.heap.size 3 1 ov (picked (fun j => decide (0 < t.ins.getD j 0)) k).length (natsOf (picked (fun j => decide (0 < t.ins.getD j 0)) k))) ∧ Hid (Below w.heap.size w wr)) (fun _ iv _ => t.ins.length - (intOf iv).toNat)
  case atStart => exact ⟨0, by omega, rfl, Lib.hid (by simpa [picked, natsOf] using Win.nil _ _ 3 1), Lib.hid (Below.refl _ _)⟩
  case round =>
    obtain ⟨k, hk, rfl, HR, HB⟩ := hrel
    have c0 : wr.cell? ⟨gb, 0, none⟩ = some (.slice (some ⟨ib, 0, none⟩) t.ins.length t.ins.length) := (HB.out.cell (p := ⟨gb, 0, none⟩) hlg).trans (H.out.hg.cell 0)
    have hlr := Nat.lt_of_lt_of_le hlg HB.out.size
    by_cases hlt : k < t.ins.length
    · have hk0 : (0 : Int) ≤ (k : Int) := by omega
      have hk1 : (k : Int) < (t.ins.length : Int) := by omega
      have c1 : wr.cell? ⟨ib, k, none⟩ = some (.int .i64 (t.ins.getD k 0)) := (HB.out.cell (p := ⟨ib, k, none⟩) hli).trans ((H.out.hi.cell k).trans (il_at hlt))
      have hbs := HB.out.size
      have hpl := picked_length (fun j => decide (0 < t.ins.getD j 0)) k
      obtain ⟨x, hx⟩ : ∃ x, t.ins.getD k 0 = x := ⟨_, rfl⟩
      rw [hx] at c1
      by_cases hp : 0 < x
      · have HP := Lib.hid (picked_in (p := fun j => decide (0 < t.ins.getD j 0)) (k := k) (by simp only [hx, hp, decide_true]))
        have hd : x > 0 := hp
        clear hx
        go_wp2_with (first | (at_builtin; go_must (refine wpList_append_win _ rfl (.tmp 22) (.tmp 24) 28 rfl w.heap.size 3 i3 _ 1 8 Try.underlying28 hi hz0 hz1 hz2 rfl (by decide) u3 (picked (fun j => decide (0 < t.ins.getD j 0)) k).length (natsOf (picked (fun j => decide (0 < t.ins.getD j 0)) k)) (by simp [Act.eval]) (HR.out.alloc _) ⟨wr.heap.size, 0, none⟩ 1 1 [.int .i64 (k : Int)] (by simp [Act.eval]) rfl (new_cells wr [.int .i64 (k : Int)] _) (by simp [Value.oneCell']) (by decide) (by unfold maxLen; omega) (by omega) (by simp; omega) ?_); intro f' o' cap' w4 hown hgrow hat; have HO := Lib.hid hown; have HG := Lib.hid hgrow; clear hown hgrow hat))
        go_roundw
        case rel =>
          refine ⟨k + 1, by omega, by go_num, Lib.hid ?_, Lib.hid ?_⟩
          · rw [HP.out]; simpa [natsOf] using HO.out
          · exact (HB.out.alloc HB.out.size _).grown HG.out (by simp; omega) (fun q e => (HR.out.lt q e).1)
        case measure => simp [intOf]; omega
      · have HP := Lib.hid (picked_out (p := fun j => decide (0 < t.ins.getD j 0)) (k := k) (by simp only [hx, hp, decide_false]))
        have hd : ¬ x > 0 := hp
        clear hx
        go_wp2_with fail
        go_roundw
        case rel => exact ⟨k + 1, by omega, by go_num, Lib.hid (by rw [HP.out]; exact HR.out), HB⟩
        case measure => simp [intOf]; omega
    · obtain rfl : k = t.ins.length := by omega
      go_wp2_with fail
      go_ret
      exact ⟨_, rfl, HR.out, HB.out⟩
def ridsOf (l : List RE) : List Value := l.map fun x => Value.int .i64 x.id
/-- What its k-th element is. -/
theorem Rf.nth (h : Rf w base gb ib v t) {va : Option Addr} {vc k : Nat} (hv : v = .slice va t.l.length vc) (hk : k < t.l.length) : ∃ z fw ow f, t.l[k]? = some z ∧ va = some ⟨fw, ow, none⟩ ∧ fw < w.heap.size ∧ w.cell? ⟨fw, ow + k * 2, none⟩ = some (.int .i64 z.id) ∧ w.cell? ⟨fw, ow + k * 2 + 1, none⟩ = some (.slice (some ⟨f, 0, none⟩) t.ins.length t.ins.length) ∧
    z.v = .slice (some ⟨f, 0, none⟩) t.ins.length t.ins.length ∧ w.heap[f]? = some (.cells (bl z.who) 4 (0, 0)) ∧ z.who.length = t.ins.length := by
  obtain ⟨z, hz⟩ : ∃ z, t.l[k]? = some z := ⟨_, List.getElem?_eq_getElem hk⟩
  obtain ⟨f, e1, e2, e3, e4⟩ := h.hs z (List.mem_of_getElem? hz)
  obtain ⟨fw, ow, cw, hv'⟩ := h.hv.form (by omega)
  have := hv.symm.trans hv'
  injection this with q1 q2 q3
  have hvw := h.hv
  rw [hv'] at hvw
  refine ⟨z, fw, ow, f, hz, q1, (hvw.lt fw rfl).2, ?_, ?_, e1, e3, e4⟩
  · rw [hvw.cells (k * 2) (by omega), (recells_at hz).1]
  · rw [Nat.add_assoc, hvw.cells (k * 2 + 1) (by omega), (recells_at hz).2, e1]
set_option maxRecDepth 100000 in
set_option maxHeartbeats 1000000 in
theorem rwaiting_any (h : Rf w base gb ib v t) : Calls Try.prog 25 #[.pointer (some ⟨gb, 0, none⟩)] w fun e w' => ∃ ov, e = .returned ov ∧ Win w' w.heap.size 2 1 ov t.l.length (ridsOf t.l) ∧ Below w.heap.size w w' := by
  have hlg := h.hg.lt
  have hm16 := h.m16
  obtain ⟨va, vc, hva⟩ := h.hv.value
  have HVA := Lib.hid hva
  have H := Lib.hid h
  clear h hva
  obtain ⟨i2, hi, hz0, hz1, hz2⟩ := info_parts info2
  go_enter Try.func25, Try.ntmps25
  go_wp2_with fail
  go_loopw [3, 4] (fun ov iv wr => ∃ k : Nat, k ≤ t.l.length ∧ iv = .int .i64 k ∧ Hid (Win wr w.heap.size 2 1 ov k (ridsOf (t.l.take k))) ∧ Hid (Below w.heap.size w wr)) (fun _ iv _ => t.l.length - (intOf iv).toNat)
  case atStart => exact ⟨0, by omega, rfl, Lib.hid (by simpa [ridsOf] using Win.nil _ _ 2 1), Lib.hid (Below.refl _ _)⟩
  case round =>
    obtain ⟨k, hk, rfl, HR, HB⟩ := hrel
    have c1 : wr.cell? ⟨gb, 1, none⟩ = some (.slice va t.l.length vc) := by rw [← HVA.out]; exact (HB.out.cell (p := ⟨gb, 1, none⟩) hlg).trans (H.out.hg.cell 1)
    have hlr := Nat.lt_of_lt_of_le hlg HB.out.size
    by_cases hlt : k < t.l.length
    · have hk0 : (0 : Int) ≤ (k : Int) := by omega
      have hk1 : (k : Int) < (t.l.length : Int) := by omega
      obtain ⟨z, fw, ow, f, hz, rfl, hfw, e0, e1, _⟩ := H.out.nth HVA.out hlt
      have d0 := (HB.out.cell (p := ⟨fw, ow + k * 2, none⟩) hfw).trans e0
      have hbs := HB.out.size
      have HL : Hid (ridsOf (t.l.take (k + 1)) = ridsOf (t.l.take k) ++ [.int .i64 z.id]) := Lib.hid (by rw [List.take_add_one, hz]; simp [ridsOf])
      obtain ⟨zi, hzi⟩ : ∃ x, z.id = x := ⟨_, rfl⟩
      rw [hzi] at HL d0
      clear hz e0 e1 hzi
      go_wp2_with (first | (at_builtin; go_must (refine wpList_append_win _ rfl (.tmp 14) (.tmp 23) 35 rfl w.heap.size 2 i2 _ 1 8 Try.underlying35 hi hz0 hz1 hz2 rfl (by decide) u3 k (ridsOf (t.l.take k)) (by simp [Act.eval]) (HR.out.alloc _) ⟨wr.heap.size, 0, none⟩ 1 1 [.int .i64 zi] (by simp [Act.eval]) rfl (new_cells wr [.int .i64 zi] _) (by simp [Value.oneCell']) (by decide) (by unfold maxLen; omega) (by omega) (by simp; omega) ?_); intro f' o' cap' w4 hown hgrow hat; have HO := Lib.hid hown; have HG := Lib.hid hgrow; clear hown hgrow hat))
      go_roundw
      case rel =>
        refine ⟨k + 1, by omega, by go_num, Lib.hid ?_, Lib.hid ?_⟩
        · rw [HL.out]; exact HO.out
        · exact (HB.out.alloc HB.out.size _).grown HG.out (by simp; omega) (fun q e => (HR.out.lt q e).1)
      case measure => simp [intOf]; omega
    · obtain rfl : k = t.l.length := by omega
      go_wp2_with fail
      go_ret
      have hr := HR.out
      rw [List.take_length] at hr
      exact ⟨_, rfl, hr, HB.out⟩
/-- Those that an id waits for. -/
def rblocksOf (t : RS) (id : Int) : List Nat :=
  match t.l.find? (fun x => x.id == id) with
  | some x => trues x.who
  | none => []
theorem rblocksOf_at {id : Int} {k : Nat} {x : RE} (hx : t.l[k]? = some x) (he : x.id = id) (hn : ∀ y ∈ t.l.take k, y.id ≠ id) : rblocksOf t id = trues x.who := by
  have hk := (List.getElem?_eq_some_iff.1 hx).1
  have hs : t.l = t.l.take k ++ x :: t.l.drop (k + 1) := by
    have := List.take_append_drop k t.l
    rw [List.drop_eq_getElem_cons hk] at this
    rw [← (List.getElem?_eq_some_iff.1 hx).2]
    exact this.symm
  have h1 : (t.l.take k).find? (fun y => y.id == id) = none := by
    rw [List.find?_eq_none]
    intro y hy
    simpa using hn y hy
  have : t.l.find? (fun y => y.id == id) = some x := by
    rw [hs, List.find?_append, h1]
    simp [he]
  simp only [rblocksOf, this]
theorem rblocksOf_no {id : Int} (hn : ∀ y ∈ t.l, y.id ≠ id) : rblocksOf t id = [] := by
  have : t.l.find? (fun y => y.id == id) = none := by
    rw [List.find?_eq_none]
    intro y hy
    simpa using hn y hy
  simp only [rblocksOf, this]
set_option maxRecDepth 100000 in
set_option maxHeartbeats 1000000 in
theorem rblocks_any (h : Rf w base gb ib v t) (id : Int) : Calls Try.prog 27 #[.pointer (some ⟨gb, 0, none⟩), .int .i64 id] w fun e w' => ∃ ov, e = .returned ov ∧ Win w' w.heap.size 3 1 ov (rblocksOf t id).length (natsOf (rblocksOf t id)) ∧ Below w.heap.size w w' := by
  have hlg := h.hg.lt
  have hn8 := h.n8
  have hm16 := h.m16
  obtain ⟨va, vc, hva⟩ := h.hv.value
  have HVA := Lib.hid hva
  have H := Lib.hid h
  have c1 : w.cell? ⟨gb, 1, none⟩ = some (.slice va t.l.length vc) := by rw [← hva]; exact h.hg.cell 1
  clear h hva
  go_enter Try.func27, Try.ntmps27
  go_wp2_with fail
  go_loopw [5] (fun iv wr => ∃ k : Nat, k ≤ t.l.length ∧ iv = .int .i64 k ∧ Hid (∀ y ∈ t.l.take k, y.id ≠ id) ∧ wr = w) (fun iv _ => t.l.length - (intOf iv).toNat)
  case atStart => exact ⟨0, by omega, rfl, Lib.hid (by simp), rfl⟩
  case round =>
    obtain ⟨k, hk, rfl, HN, rfl⟩ := hrel
    by_cases hlt : k < t.l.length
    · have hk0 : (0 : Int) ≤ (k : Int) := by omega
      have hk1 : (k : Int) < (t.l.length : Int) := by omega
      obtain ⟨z, fw, ow, f, hz, rfl, hfw, e0, e1, e2, e3, e4⟩ := H.out.nth HVA.out hlt
      have HS := Lib.hid (some_any _ f t.ins.length z.who e3 e4 hn8)
      have HZ := Lib.hid hz
      obtain ⟨zi, hzi⟩ : ∃ x, z.id = x := ⟨_, rfl⟩
      rw [hzi] at e0
      have HZI := Lib.hid hzi
      clear hz hzi e2 e3 e4
      by_cases hid : zi = id
      · have hd : (zi == id) = true := by simpa using hid
        have HID := Lib.hid hid
        clear hid
        go_wp2_with (first | (go_at_call 31; refine HS.out.mono ?_; rintro e w4 ⟨ov, rfl, n4, b4⟩; have N4 := Lib.hid n4; have B4 := Lib.hid b4; clear n4 b4))
        go_ret
        rw [rblocksOf_at HZ.out (HZI.out.trans HID.out) HN.out]
        exact ⟨_, rfl, N4.out, B4.out⟩
      · have hd : (zi == id) = false := by simpa using hid
        have HID := Lib.hid hid
        clear hid
        go_wp2_with fail
        go_roundw
        case rel =>
          refine ⟨k + 1, by omega, by go_num, Lib.hid ?_, trivial⟩
          intro y hy
          rw [List.take_add_one, HZ.out] at hy
          rcases List.mem_append.1 hy with hy | hy
          · exact HN.out y hy
          · simp at hy
            rw [hy, HZI.out]; exact HID.out
        case measure => simp [intOf]; omega
    · obtain rfl : k = t.l.length := by omega
      go_wp2_with fail
      go_ret
      rw [rblocksOf_no (by simpa using HN.out)]
      exact ⟨_, rfl, by simpa [natsOf] using Win.nil _ _ 3 1, Below.refl _ _⟩
end
end Go.Proofs.Ytedfegbafjmkgaa
