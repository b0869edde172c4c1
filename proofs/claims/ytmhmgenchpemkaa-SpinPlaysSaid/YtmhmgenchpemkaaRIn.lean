/- The law's jobs turned to the reference's. -/
import Derived.Test.YtmhmgenchpemkaaSimLaw
namespace Go.Proofs.Ytmhmgenchpemkaa
open Go.RowKit

theorem info88 : (Try.prog.info? 88).map (fun i => (i.zero, i.size, i.bytes)) = some (some (.agg #[.int .i64 0, .int .i64 0, .int .i64 0, .int .i64 0, .int .i64 0]), 5, 40) := by kernel_rfl
theorem Win.jobs88 {w : World} {base n : Nat} {v : Value} {js : List Jb} (h : Win w base 88 5 v n (jcells js)) (hn : js.length = n) : JobsAt w v js := by
  by_cases h0 : n = 0
  · refine .inl ⟨List.eq_nil_of_length_eq_zero (by omega), ?_⟩
    obtain ⟨a, cap, e⟩ := h.value
    exact ⟨a, cap, by rw [e, h0]⟩
  · obtain ⟨f, o, cap, e⟩ := h.form (by omega)
    subst e
    refine .inr ⟨f, o, cap, by rw [hn], (h.lt f rfl).2, fun i j hj k v hv => ?_⟩
    have hi := (List.getElem?_eq_some_iff.1 hj).1
    have hk := (List.getElem?_eq_some_iff.1 hv).1
    rw [show j.cells.length = 5 from rfl] at hk
    have := h.cells (i * 5 + k) (by omega)
    rw [Nat.add_assoc, this]
    exact jobs_at js i j hj k v hv
set_option maxRecDepth 100000 in
set_option maxHeartbeats 4000000 in
theorem in_any {w : World} {v : Value} {js : List Jb} (hj : JobsAt w v js) (hl : js.length ≤ 1000) : Calls Try.prog 19 #[v] w fun e w' => ∃ v', e = .returned v' ∧ Win w' w.heap.size 88 5 v' js.length (jcells js) ∧ (js = [] → v' = .slice none 0 0) ∧ Below w.heap.size w w' := by
  obtain ⟨i88, hi, hz0, hz1, hz2⟩ := info_parts info88
  obtain ⟨a, cap, hva⟩ : ∃ a cap, v = .slice a js.length cap := by
    rcases hj with ⟨rfl, a, cap, e⟩ | ⟨f, o, cap, e, _⟩
    · exact ⟨a, cap, e⟩
    · exact ⟨_, _, e⟩
  have HJ : Hid (∀ k x, js[k]? = some x → ∃ f o, a = some ⟨f, o, none⟩ ∧ f < w.heap.size ∧ w.rangeAt f (o + k * 5) x.cells) := Lib.hid (by
    intro k x hx
    rcases hj with ⟨rfl, a, cap, e⟩ | ⟨f, o, cap', e, hf, hc⟩
    · simp at hx
    · rw [hva] at e
      cases e
      exact ⟨f, o, rfl, hf, hc k x hx⟩)
  subst hva
  clear hj
  go_enter Try.func19, Try.ntmps19
  go_wp2_with fail
  go_loopw [4, 3] (fun iv lv wr => ∃ k : Nat, k ≤ js.length ∧ iv = .int .i64 k ∧ Hid (Below w.heap.size w wr) ∧ Hid (Win wr w.heap.size 88 5 lv k (jcells (js.take k)) ∧ (k = 0 → lv = .slice none 0 0))) (fun iv _ _ => js.length - (intOf iv).toNat)
  case atStart => exact ⟨0, by omega, rfl, Lib.hid (Below.refl _ _), Lib.hid ⟨by simpa [jcells] using Win.nil _ _ 88 5, fun _ => rfl⟩⟩
  case round =>
    obtain ⟨k, hk, rfl, HB, HW0⟩ := hrel
    have HW := Lib.hid HW0.out.1
    have HZ := Lib.hid HW0.out.2
    clear HW0
    by_cases hlt : k < js.length
    · obtain ⟨x, hx⟩ : ∃ x, js[k]? = some x := ⟨_, List.getElem?_eq_getElem hlt⟩
      obtain ⟨f, o, rfl, hf, R⟩ := HJ.out k x hx
      have u0 : wr.cell? ⟨f, o + k * 5, none⟩ = some (.int .i64 x.kind) := (HB.out.cell (p := ⟨f, o + k * 5, none⟩) hf).trans (R 0 _ rfl)
      have u1 : wr.cell? ⟨f, o + k * 5 + 1, none⟩ = some (.int .i64 x.at_) := (HB.out.cell (p := ⟨f, o + k * 5 + 1, none⟩) hf).trans (R 1 _ rfl)
      have u2 : wr.cell? ⟨f, o + k * 5 + 2, none⟩ = some (.int .i64 x.work) := (HB.out.cell (p := ⟨f, o + k * 5 + 2, none⟩) hf).trans (R 2 _ rfl)
      have u4' : wr.cell? ⟨f, o + k * 5 + 3, none⟩ = some (.int .i64 x.a) := (HB.out.cell (p := ⟨f, o + k * 5 + 3, none⟩) hf).trans (R 3 _ rfl)
      have u5' : wr.cell? ⟨f, o + k * 5 + 4, none⟩ = some (.int .i64 x.b) := (HB.out.cell (p := ⟨f, o + k * 5 + 4, none⟩) hf).trans (R 4 _ rfl)
      have HX := Lib.hid hx
      have hk0 : (0 : Int) ≤ (k : Int) := by omega
      have hk1 : (k : Int) < (js.length : Int) := by omega
      have hfw : f < wr.heap.size := Nat.lt_of_lt_of_le hf HB.out.size
      have hlv : Hid (jcells (js.take (k + 1)) = jcells (js.take k) ++ x.cells) := Lib.hid (by rw [List.take_add_one, hx]; simp [jcells])
      have hbs := HB.out.size
      have hl0 : ∀ u ∈ x.cells, u.oneCell' = true := by simp [Jb.cells, Value.oneCell']
      have HFW : Hid (∀ w4 : World, ∀ ob : Obj, (wr.alloc ob).grownBy w4 u3.ownBlock → Below w.heap.size w w4) := Lib.hid (fun w4 ob hg => grown_below HB.out HB.out.size HW.out hg)
      have HFD : Hid (∀ w4 : World, ∀ ob : Obj, (wr.drew.alloc ob).grownBy w4 u3.ownBlock → Below w.heap.size w w4) := Lib.hid (fun w4 ob hg => grown_below HB.out.drew HB.out.size HW.out.drew hg)
      clear hx R
      go_upto_region 5 with fail
      go_region_held3 (fun w' => w'.cell? ⟨f, o + k * 5, none⟩ = some (.int .i64 x.kind) ∧ w'.cell? ⟨f, o + k * 5 + 1, none⟩ = some (.int .i64 x.at_) ∧ w'.cell? ⟨f, o + k * 5 + 2, none⟩ = some (.int .i64 x.work) ∧ w'.cell? ⟨f, o + k * 5 + 3, none⟩ = some (.int .i64 x.a) ∧ w'.cell? ⟨f, o + k * 5 + 4, none⟩ = some (.int .i64 x.b)) (first | with_reducible exact ⟨u0, u1, u2, u4', u5'⟩ | with_reducible exact ⟨cell_drew u0, cell_drew u1, cell_drew u2, cell_drew u4', cell_drew u5'⟩ | with_reducible exact ⟨cell_alloc hfw u0, cell_alloc hfw u1, cell_alloc hfw u2, cell_alloc hfw u4', cell_alloc hfw u5'⟩ | with_reducible exact ⟨p0, p1, p2, p3, p4⟩) ((refine step_append_win _ (by rfl) (.tmp 11) (.tmp 38) 51 (by rfl) w.heap.size 88 i88 _ 5 40 Try.underlying51 hi hz0 hz1 hz2 (by rfl) (by decide) u3 k (jcells (js.take k)) (by simp [Act.eval]) (by first | exact HW.out.alloc _ | exact HW.out.drew.alloc _) ⟨wr.heap.size, 0, none⟩ 1 1 x.cells (by simp [Act.eval]) (by rfl) (by first | exact new_cells wr x.cells _ | exact new_cells wr.drew x.cells _) hl0 (by decide) (by unfold maxLen; omega) (by omega) (by simp; omega) ?_; intro f' o' cap' w4 hown hgrow hat; have HO := Lib.hid hown; have HG : Hid (Below w.heap.size w w4) := Lib.hid (by first | exact HFW.out _ _ hgrow | exact HFD.out _ _ hgrow); have HR4 := HG.out; obtain ⟨f2, o2, e2, hf2, R⟩ := HJ.out k x HX.out; cases e2; have p0 : w4.cell? ⟨f, o + k * 5, none⟩ = some (.int .i64 x.kind) := (HG.out.cell (p := ⟨f, o + k * 5, none⟩) hf).trans (R 0 _ rfl); have p1 : w4.cell? ⟨f, o + k * 5 + 1, none⟩ = some (.int .i64 x.at_) := (HG.out.cell (p := ⟨f, o + k * 5 + 1, none⟩) hf).trans (R 1 _ rfl); have p2 : w4.cell? ⟨f, o + k * 5 + 2, none⟩ = some (.int .i64 x.work) := (HG.out.cell (p := ⟨f, o + k * 5 + 2, none⟩) hf).trans (R 2 _ rfl); have p3 : w4.cell? ⟨f, o + k * 5 + 3, none⟩ = some (.int .i64 x.a) := (HG.out.cell (p := ⟨f, o + k * 5 + 3, none⟩) hf).trans (R 3 _ rfl); have p4 : w4.cell? ⟨f, o + k * 5 + 4, none⟩ = some (.int .i64 x.b) := (HG.out.cell (p := ⟨f, o + k * 5 + 4, none⟩) hf).trans (R 4 _ rfl); clear hown hgrow hat R HR4))
      all_goals
        go_wp2_with fail
        go_roundw
        case rel => exact ⟨k + 1, by omega, by go_num, HG, Lib.hid ⟨by rw [hlv.out]; exact HO.out, fun h => absurd h (by omega)⟩⟩
        case measure => simp [intOf]; omega
    · obtain rfl : k = js.length := by omega
      have h1 : ¬ (js.length : Int) < (js.length : Int) := by omega
      go_wp2_with fail
      go_ret
      have := HW.out
      rw [List.take_length] at this
      exact ⟨_, rfl, this, fun e => HZ.out (by rw [e]; rfl), HB.out⟩
end Go.Proofs.Ytmhmgenchpemkaa
