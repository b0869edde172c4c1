/- Chapter 4: New, Waiting, Inside, Defer. -/
import Derived.Test.YtedfegbafjmkgaaPoll
namespace Go.Proofs.Ytedfegbafjmkgaa
open Go.RowKit

theorem info57 : (Try.prog.info? 57).map (fun i => (i.zero, i.size, i.bytes)) = some (some (.agg #[.int .i64 0, .int .i64 0]), 2, 16) := by kernel_rfl
theorem made_r : ∀ n : Nat, n ≤ 8 → madeCells (Value.agg #[.int .i64 0, .int .i64 0]).cells (n * 2) = rcells (List.replicate n (0, 0))
  | 0, _ => by kernel_rfl
  | 1, _ => by kernel_rfl
  | 2, _ => by kernel_rfl
  | 3, _ => by kernel_rfl
  | 4, _ => by kernel_rfl
  | 5, _ => by kernel_rfl
  | 6, _ => by kernel_rfl
  | 7, _ => by kernel_rfl
  | 8, _ => by kernel_rfl
  | n + 9, h => by omega
theorem make_r (w : World) (n : Nat) (hn : n ≤ 8) : (Instr.makeSlice 51 (.int .i64 (n : Int)) (.int .i64 (n : Int))).run Try.prog w = .ok (.slice (some ⟨w.heap.size, 0, none⟩) n n) (w.alloc (.cells (rcells (List.replicate n (0, 0))) 57)) := by
  obtain ⟨i57, hi, hz0, hz1, hz2⟩ := info_parts info57
  have h := run_make (P := Try.prog) w 51 57 i57 _ Try.underlying51 hi hz0 .i64 .i64 (n : Int) (n : Int) (by omega) (by omega) (by rw [hz2]; omega) (by omega)
  rw [hz1, Int.toNat_natCast] at h
  rw [← made_r n hn]
  exact h
def GS.new (n : Nat) : GS := ⟨List.replicate n (0, 0), []⟩
theorem new_no (n : Int) (w : World) (h : n < 1 ∨ 8 < n) :
    Calls Try.prog 8 #[.int .i64 n] w fun e w' => e = .returned (.tuple #[.pointer none, .int .i64 1]) ∧ w = w' := by
  rcases h with h | h
  · have hd : decide (n < 1) = true := by simpa using h
    go_enter Try.func8, Try.ntmps8
    go_wp2_with fail
    go_ret2
    exact ⟨rfl, rfl⟩
  · have hd : decide (n < 1) = false := by simp; omega
    go_enter Try.func8, Try.ntmps8
    go_wp2_with fail
    go_ret2
    exact ⟨rfl, rfl⟩
theorem gr_new (w : World) (n : Nat) (t : TypeId) (h1 : 1 ≤ n) (h2 : n ≤ 8) :
    Gr ((w.alloc (.cells (rcells (List.replicate n (0, 0))) 57)).alloc (.cells #[.slice (some ⟨w.heap.size, 0, none⟩) n n, .slice none 0 0] t)) (w.heap.size + 2) (w.heap.size + 1) w.heap.size (.slice none 0 0) (GS.new n) := by
  refine ⟨?_, ?_, Win.nil _ _ _ _, by simp [GS.new], by simp [GS.new]; omega, by simp [GS.new]; omega, by simp [GS.new], by omega, by omega, by omega, by simp⟩
  · have := Holds.new (w.alloc (.cells (rcells (List.replicate n (0, 0))) 57)) #[.slice (some ⟨w.heap.size, 0, none⟩) n n, .slice none 0 0] t
    rw [World.size_alloc] at this
    simpa [GS.new] using this
  · exact (Holds.new w (rcells (List.replicate n (0, 0))) 57).alloc _
theorem new_yes (n : Nat) (w : World) (h1 : 1 ≤ n) (h2 : n ≤ 8) :
    Calls Try.prog 8 #[.int .i64 n] w fun e w' => e = .returned (.tuple #[.pointer (some ⟨w.heap.size + 1, 0, none⟩), .int .i64 0]) ∧ Gr w' (w.heap.size + 2) (w.heap.size + 1) w.heap.size (.slice none 0 0) (GS.new n) ∧ Below w.heap.size w w' := by
  have hd : decide ((n : Int) < 1) = false := by simp; omega
  have hd2 : ¬ 8 < (n : Int) := by omega
  have hmk := make_r w n h2
  go_enter Try.func8, Try.ntmps8
  go_wp2_with fail
  go_ret2
  exact ⟨rfl, gr_new w n _ h1 h2, by go_grown⟩

section
variable {w w' : World} {base g rb : Nat} {v : Value} {s : GS}
def idsOf (l : List WE) : List Value := l.map fun x => Value.int .i64 x.id
set_option maxRecDepth 100000 in
set_option maxHeartbeats 1000000 in
theorem waiting_any (h : Gr w base g rb v s) : Calls Try.prog 14 #[.pointer (some ⟨g, 0, none⟩)] w fun e w' => ∃ ov, e = .returned ov ∧ Win w' w.heap.size 2 1 ov s.wt.length (idsOf s.wt) ∧ Below w.heap.size w w' := by
  have c1 : w.cell? ⟨g, 1, none⟩ = some v := h.hg.cell 1
  have hlg := h.hg.lt
  have hm16 := h.m16
  obtain ⟨va, vc, hva⟩ := h.hv.value
  rw [hva] at c1
  have HVA := Lib.hid hva
  have H := Lib.hid h
  clear h hva
  obtain ⟨i2, hi, hz0, hz1, hz2⟩ := info_parts info2
  go_enter Try.func14, Try.ntmps14
  go_wp2_with fail
  go_loopw [3, 11] (fun ov iv wr => ∃ k : Nat, k ≤ s.wt.length ∧ iv = .int .i64 k ∧ Hid (Win wr w.heap.size 2 1 ov k (idsOf (s.wt.take k))) ∧ Hid (Below w.heap.size w wr)) (fun _ iv _ => s.wt.length - (intOf iv).toNat)
  case atStart => exact ⟨0, by omega, rfl, Lib.hid (by simpa [idsOf] using Win.nil _ _ 2 1), Lib.hid (Below.refl _ _)⟩
  case round =>
    obtain ⟨k, hk, rfl, HW, HB⟩ := hrel
    by_cases hlt : k < s.wt.length
    · have hk0 : (0 : Int) ≤ (k : Int) := by omega
      have hk1 : (k : Int) < (s.wt.length : Int) := by omega
      obtain ⟨x, hx⟩ : ∃ x, s.wt[k]? = some x := ⟨_, List.getElem?_eq_getElem hlt⟩
      obtain ⟨f, o, cp, hxv, hfb, hfl, hfc⟩ := (H.out.hs x (List.mem_of_getElem? hx)).laid
      obtain ⟨fw, ow, cw, hv⟩ := H.out.hv.form (by omega)
      obtain ⟨rfl, rfl⟩ : va = some ⟨fw, ow, none⟩ ∧ vc = cw := by have := HVA.out; rw [hv] at this; cases this; exact ⟨rfl, rfl⟩
      have hvw := H.out.hv
      rw [hv] at hvw
      have hfw := (hvw.lt fw rfl).2
      have hw0 := wcells_at hx
      have e0 := HB.out.cell (p := ⟨fw, ow + k * 2, none⟩) hfw
      have e1 := HB.out.cell (p := ⟨fw, ow + k * 2 + 1, none⟩) hfw
      rw [hvw.cells (k * 2) (by omega), hw0.1] at e0
      rw [Nat.add_assoc, hvw.cells (k * 2 + 1) (by omega), hw0.2, ← Nat.add_assoc, hxv] at e1
      obtain ⟨z, hz⟩ : ∃ z, x.id = z := ⟨_, rfl⟩
      rw [hz] at e0
      have hlv : Hid (idsOf (s.wt.take (k + 1)) = idsOf (s.wt.take k) ++ [.int .i64 z]) := Lib.hid (by rw [List.take_add_one, hx]; simp [idsOf, hz])
      clear hx hxv hz hw0 hv hvw hfc
      go_upto_region 5 with fail
      obtain ⟨w3, hw3⟩ : ∃ w3, wr.alloc (.cells #[.int .i64 z, .slice (some ⟨f, o, none⟩) s.rd.length cp] 60) = w3 := ⟨_, rfl⟩
      rw [hw3]
      have B3 : Below wr.heap.size wr w3 := by rw [← hw3]; exact (Below.refl _ _).alloc (Nat.le_refl _) _
      have HB3 := Lib.hid (HB.out.trans (B3.mono HB.out.size))
      have HW3 := Lib.hid (HW.out.below B3)
      have j0 : w3.cell? ⟨wr.heap.size, 0, none⟩ = some (.int .i64 z) := by rw [← hw3]; simp
      obtain ⟨J, hJ⟩ : ∃ J, wr.heap.size = J := ⟨_, rfl⟩
      rw [hJ] at j0 ⊢
      have hbs := HB3.out.size
      clear hw3 B3 hJ HB HW e0 e1
      go_wp2_with (first | (at_builtin; go_must (refine wpList_append_win _ rfl (.tmp 15) (.tmp 18) 35 rfl w.heap.size 2 i2 _ 1 8 Try.underlying35 hi hz0 hz1 hz2 rfl (by decide) u3 k (idsOf (s.wt.take k)) (by simp [Act.eval]) (HW3.out.alloc _) ⟨w3.heap.size, 0, none⟩ 1 1 [.int .i64 z] (by simp [Act.eval]) rfl (new_cells w3 [.int .i64 z] _) (by simp [Value.oneCell']) (by decide) (by unfold maxLen; omega) (by omega) (by simp; omega) ?_); intro f' o' cap' w4 hown hgrow hat; have HO := Lib.hid hown; have HG := Lib.hid hgrow; clear hown hgrow hat))
      go_roundw
      case rel =>
        refine ⟨k + 1, by omega, by go_num, Lib.hid ?_, Lib.hid ?_⟩
        · rw [hlv.out]; exact HO.out
        · exact (HB3.out.alloc HB3.out.size _).grown HG.out (by simp; omega) (fun q e => (HW3.out.lt q e).1)
      case measure => simp [intOf]; omega
    · obtain rfl : k = s.wt.length := by omega
      go_wp2_with fail
      go_ret
      have hw := HW.out
      rw [List.take_length] at hw
      exact ⟨_, rfl, hw, HB.out⟩

def inside (rd : List (Int × Int)) (k : Nat) : List Nat := (List.range k).filter fun j => decide (0 < (rd.getD j (0, 0)).1)
theorem inside_out {rd : List (Int × Int)} {k : Nat} (h : ¬ 0 < (rd.getD k (0, 0)).1) : inside rd (k + 1) = inside rd k := by
  simp only [inside, List.range_succ, List.filter_append, List.filter_cons, h, List.filter_nil, decide_false, Bool.false_eq_true, if_false, List.append_nil]
theorem inside_in {rd : List (Int × Int)} {k : Nat} (h : 0 < (rd.getD k (0, 0)).1) : inside rd (k + 1) = inside rd k ++ [k] := by
  simp only [inside, List.range_succ, List.filter_append, List.filter_cons, h, List.filter_nil, decide_true, if_true]
theorem inside_length (rd : List (Int × Int)) (k : Nat) : (inside rd k).length ≤ k := by
  unfold inside; exact Nat.le_trans (List.length_filter_le _ _) (by simp)
def natsOf (l : List Nat) : List Value := l.map fun (x : Nat) => Value.int .i64 (x : Int)
set_option maxRecDepth 100000 in
set_option maxHeartbeats 1000000 in
theorem inside_any (h : Gr w base g rb v s) : Calls Try.prog 19 #[.pointer (some ⟨g, 0, none⟩)] w fun e w' => ∃ ov, e = .returned ov ∧ Win w' w.heap.size 3 1 ov (inside s.rd s.rd.length).length (natsOf (inside s.rd s.rd.length)) ∧ Below w.heap.size w w' := by
  have c0 : w.cell? ⟨g, 0, none⟩ = some (.slice (some ⟨rb, 0, none⟩) s.rd.length s.rd.length) := h.hg.cell 0
  have hlg := h.hg.lt
  have hlr := h.hr.lt
  have hn8 := h.n8
  have H := Lib.hid h
  clear h
  obtain ⟨i3, hi, hz0, hz1, hz2⟩ := info_parts info3
  go_enter Try.func19, Try.ntmps19
  go_wp2_with fail
  go_loopw [3, 11] (fun ov iv wr => ∃ k : Nat, k ≤ s.rd.length ∧ iv = .int .i64 k ∧ Hid (Win wr w.heap.size 3 1 ov (inside s.rd k).length (natsOf (inside s.rd k))) ∧ Hid (Below w.heap.size w wr)) (fun _ iv _ => s.rd.length - (intOf iv).toNat)
  case atStart => exact ⟨0, by omega, rfl, Lib.hid (by simpa [inside, natsOf] using Win.nil _ _ 3 1), Lib.hid (Below.refl _ _)⟩
  case round =>
    obtain ⟨k, hk, rfl, HW, HB⟩ := hrel
    by_cases hlt : k < s.rd.length
    · have hk0 : (0 : Int) ≤ (k : Int) := by omega
      have hk1 : (k : Int) < (s.rd.length : Int) := by omega
      obtain ⟨dp, hdp⟩ : ∃ z, (s.rd.getD k (0, 0)).1 = z := ⟨_, rfl⟩
      obtain ⟨lf, hlf⟩ : ∃ z, (s.rd.getD k (0, 0)).2 = z := ⟨_, rfl⟩
      have e0 := (HB.out.cell (p := ⟨rb, k * 2, none⟩) hlr).trans ((H.out.hr.cell _).trans (rd_at hlt).1)
      have e1 := (HB.out.cell (p := ⟨rb, k * 2 + 1, none⟩) hlr).trans ((H.out.hr.cell _).trans (rd_at hlt).2)
      rw [hdp] at e0
      rw [hlf] at e1
      have HDP := Lib.hid hdp
      clear hdp hlf
      go_upto_region 5 with fail
      obtain ⟨w3, hw3⟩ : ∃ w3, wr.alloc (.cells #[.int .i64 dp, .int .i64 lf] 57) = w3 := ⟨_, rfl⟩
      rw [hw3]
      have B3 : Below wr.heap.size wr w3 := by rw [← hw3]; exact (Below.refl _ _).alloc (Nat.le_refl _) _
      have HB3 := Lib.hid (HB.out.trans (B3.mono HB.out.size))
      have HW3 := Lib.hid (HW.out.below B3)
      have j0 : w3.cell? ⟨wr.heap.size, 0, none⟩ = some (.int .i64 dp) := by rw [← hw3]; simp
      obtain ⟨J, hJ⟩ : ∃ J, wr.heap.size = J := ⟨_, rfl⟩
      rw [hJ] at j0 ⊢
      have hbs := HB3.out.size
      have hil := inside_length s.rd k
      clear hw3 B3 hJ HB HW e0 e1
      by_cases hp : 0 < dp
      · have hd : dp > 0 := hp
        have hin : Hid (inside s.rd (k + 1) = inside s.rd k ++ [k]) := Lib.hid (inside_in (by rw [HDP.out]; exact hp))
        go_wp2_with (first | (at_builtin; go_must (refine wpList_append_win _ rfl (.tmp 19) (.tmp 21) 28 rfl w.heap.size 3 i3 _ 1 8 Try.underlying28 hi hz0 hz1 hz2 rfl (by decide) u3 (inside s.rd k).length (natsOf (inside s.rd k)) (by simp [Act.eval]) (HW3.out.alloc _) ⟨w3.heap.size, 0, none⟩ 1 1 [.int .i64 (k : Int)] (by simp [Act.eval]) rfl (new_cells w3 [.int .i64 (k : Int)] _) (by simp [Value.oneCell']) (by decide) (by unfold maxLen; omega) (by omega) (by simp; omega) ?_); intro f' o' cap' w4 hown hgrow hat; have HO := Lib.hid hown; have HG := Lib.hid hgrow; clear hown hgrow hat))
        go_roundw
        case rel =>
          refine ⟨k + 1, by omega, by go_num, Lib.hid ?_, Lib.hid ?_⟩
          · rw [hin.out]; simpa [natsOf] using HO.out
          · exact (HB3.out.alloc HB3.out.size _).grown HG.out (by simp; omega) (fun q e => (HW3.out.lt q e).1)
        case measure => simp [intOf]; omega
      · have hd : ¬ dp > 0 := hp
        have hin : Hid (inside s.rd (k + 1) = inside s.rd k) := Lib.hid (inside_out (by rw [HDP.out]; exact hp))
        go_wp2_with fail
        go_roundw
        case rel => exact ⟨k + 1, by omega, by go_num, Lib.hid (by rw [hin.out]; exact HW3.out), HB3⟩
        case measure => simp [intOf]; omega
    · obtain rfl : k = s.rd.length := by omega
      go_wp2_with fail
      go_ret
      exact ⟨_, rfl, HW.out, HB.out⟩
end
end Go.Proofs.Ytedfegbafjmkgaa
