/- A result's copy. -/
import Derived.Test.YtjefjonogbkknaaClone
namespace Go.Proofs.Ytjefjonogbkknaa
open Go.RowKit

theorem Den.drew {by_ : Nat} {w : World} {v : Value} {vs : List Value} (h : Den by_ w v vs) : Den by_ w.drew v vs := h
theorem From.mono {B B' : Nat} {v : Value} (h : From B' v) (hB : B ≤ B') : From B v := fun a n c e => Nat.le_trans hB (h a n c e)
theorem size33 : (Try.prog.info? 29).map (·.size) = some 11 := by kernel_rfl
theorem size40 : (Try.prog.info? 51).map (·.size) = some 23 := by kernel_rfl
theorem size51 : (Try.prog.info? 56).map (·.size) = some 23 := by kernel_rfl
theorem size35 : (Try.prog.info? 42).map (·.size) = some 22 := by kernel_rfl
theorem size28 : (Try.prog.info? 39).map (·.size) = some 9 := by kernel_rfl
theorem Holds.range {w : World} {b : Nat} {cs : Array Value} (h : Holds w b cs) : w.rangeAt b 0 cs.toList := fun j v hv => by
  rw [Nat.zero_add, h.cell j, ← hv]
  simp
theorem Holds.there {w : World} {b : Nat} {cs : Array Value} (h : Holds w b cs) : w.there b 0 cs.size := fun j hj => by
  rw [Nat.zero_add]
  exact ⟨by rw [h.cell j]; simp [hj], h.free j⟩
theorem Holds.setCells {w : World} {b : Nat} {cs : Array Value} (h : Holds w b cs) {vs : List Value} (hl : vs.length = cs.size) : Holds (w.setCells b 0 vs) b vs.toArray := by
  have ht := h.there
  refine ⟨fun j => ?_, fun j => ?_, ?_⟩
  · by_cases hj : j < vs.length
    · have := World.rangeAt_setCells_same w b 0 vs (by rw [hl]; exact ht) j _ (List.getElem?_eq_getElem hj)
      rw [Nat.zero_add] at this
      rw [this]; simp [hj]
    · rw [World.cell?_setCells_out b vs 0 w ⟨b, j, none⟩ (by intro _ _; right; simp; omega), h.cell j]
      simp [Array.getElem?_eq_none (show cs.size ≤ j by omega), Array.getElem?_eq_none (show vs.toArray.size ≤ j by simp; omega)]
  · have : ∀ (vs : List Value) (o : Nat) (w : World), (w.setCells b o vs).frozen? ⟨b, j, none⟩ = w.frozen? ⟨b, j, none⟩ := by
      intro vs
      induction vs with
      | nil => intro o w; rfl
      | cons v r ih => intro o w; exact (ih (o + 1) _).trans (World.frozen?_setCell _ _ _ _)
    rw [this]; exact h.free j
  · have : ∀ (vs : List Value) (o : Nat) (w : World), (w.setCells b o vs).heap.size = w.heap.size := by
      intro vs
      induction vs with
      | nil => intro o w; rfl
      | cons v r ih => intro o w; exact (ih (o + 1) _).trans (by simp)
    rw [this]; exact h.lt
theorem Frm.setCells {l : List Nat} {b : Nat} (hb : b ∈ l) : ∀ (vs : List Value) (o : Nat) {a w : World}, Frm l a w → Frm l a (w.setCells b o vs)
  | [], _, _, _, h => h
  | v :: r, o, _, _, h => Frm.setCells hb r (o + 1) (h.setCell hb v)
theorem results_cell {P : Program} {fn : Func} {tmps : Array Value} {w : World} {a : Nat} {t : TypeId} {b o : Nat} {v : Value} (hr : fn.results = #[.cell a t]) (ht : tmps.getD a undef = .pointer (some ⟨b, o, none⟩)) (hl : (loadVar t ⟨b, o, none⟩).run P w = .ok v w) : (results fn tmps).run P w = .ok v w := by
  unfold results
  rw [hr]
  have ht' : tmps[a]?.getD undef = .pointer (some ⟨b, o, none⟩) := by rw [← ht]; simp
  simp [asAddr, ht', hl]
theorem Res.one {r : Res} {y z : Value} (hy : y.oneCell' = true) (hz : z.oneCell' = true) : (r.cells y z).toArray.all (·.oneCell') = true := by
  unfold Res.cells
  simp only [List.all_toArray, List.all_cons, List.all_nil, hy, hz]
  rfl

set_option maxRecDepth 100000 in
set_option maxHeartbeats 4000000 in
theorem copy_any {w : World} {r : Res} {y z : Value} (hy : Den 1 w y (byts r.ds)) (hz : Den 16 w z (strs r.ss)) : Calls Try.prog 16 #[.agg (r.cells y z).toArray] w fun e w' => ∃ y' z', e = .returned (.agg (r.cells y' z').toArray) ∧ Den 1 w' y' (byts r.ds) ∧ Den 16 w' z' (strs r.ss) ∧ From w.heap.size y' ∧ From w.heap.size z' ∧ Below w.heap.size w w' := by
  obtain ⟨O, hO⟩ : ∃ O : Array Value, O = #[.int .i64 0, .int .i64 0, .slice none 0 0, .slice none 0 0, .int .i64 0, .int .i64 0, .int .i64 0, .int .i64 0, .int .i64 0, .int .i64 0, .int .i64 0] := ⟨_, rfl⟩
  have hOs : O.size = 11 := by rw [hO]; rfl
  obtain ⟨C, hC⟩ : ∃ C : Array Value, C = (r.cells y z).toArray := ⟨_, rfl⟩
  rw [← hC]
  have HCC := Lib.hid hC
  have HO := Lib.hid hO
  clear hO hC
  go_enter Try.func16, Try.ntmps16
  go_wp2_with fail
  rw [← HO.out]
  have HB : Hid (Holds ((w.alloc (.cells C 29)).alloc (.cells O 29)) w.heap.size C) := Lib.hid ((Holds.new _ _ _).alloc _)
  have HC : Hid (Holds ((w.alloc (.cells C 29)).alloc (.cells O 29)) (w.heap.size + 1) O) := Lib.hid (by
    have := Holds.new (w.alloc (.cells C 29)) O 29
    simpa using this)
  have HW := Lib.hid (((Below.refl w.heap.size w).alloc (Nat.le_refl _) (.cells C 29)).alloc (by simp) (.cells O 29))
  generalize ((w.alloc (.cells C 29)).alloc (.cells O 29)) = W at *
  have HY := Lib.hid (hy.below HW.out)
  have HZ := Lib.hid (hz.below HW.out)
  have CY : Hid (∀ X, Holds X w.heap.size C → X.cell? ⟨w.heap.size, 2, none⟩ = some y ∧ X.cell? ⟨w.heap.size, 3, none⟩ = some z ∧ X.frozen? ⟨w.heap.size, 2, none⟩ = false ∧ X.frozen? ⟨w.heap.size, 3, none⟩ = false) := Lib.hid (fun X h => ⟨by rw [h.cell, HCC.out]; rfl, by rw [h.cell, HCC.out]; rfl, h.free 2, h.free 3⟩)
  obtain ⟨c2, c3, f2, f3⟩ := CY.out _ HB.out
  clear hy hz
  go_region_with (first | (go_at_call 15; go_must ((first | refine (clone_bytes HY.out).mono ?_ | refine (clone_bytes HY.out.drew).mono ?_); rintro e w5 ⟨y', rfl, dy, fy, b5⟩; obtain ⟨p1, c1, rfl⟩ := dy.value; have b5 : Below W.heap.size W w5 := (by first | exact b5 | exact (Below.refl _ _).drew.trans b5); have H5 := Lib.hid (HB.out.below b5); have K5 := Lib.hid (HC.out.below b5); have Z5 := Lib.hid (HZ.out.below b5); have W5 := Lib.hid (HW.out.trans (b5.mono HW.out.size)); have FY := Lib.hid fy; have DY := Lib.hid dy; obtain ⟨c2, c3, f2, f3⟩ := CY.out _ H5.out; clear fy dy b5)) | (go_at_call 20; go_must (refine (clone_strs Z5.out).mono ?_; rintro e w6 ⟨z', rfl, dz, fz, b6⟩; obtain ⟨p2, c2', rfl⟩ := dz.value; have H6 := Lib.hid (H5.out.below b6); have K6 := Lib.hid (K5.out.below b6); have Y6 := Lib.hid (DY.out.below b6); have W6 := Lib.hid (W5.out.trans (b6.mono W5.out.size)); have FZ := Lib.hid fz; have DZ := Lib.hid dz; obtain ⟨c2, c3, f2, f3⟩ := CY.out _ H6.out; clear fz dz b6)))
  all_goals
    have F7 : Frm [w.heap.size] w6 ((w6.setCell ⟨w.heap.size, 2, none⟩ (.slice p1 (byts r.ds).length c1)).setCell ⟨w.heap.size, 3, none⟩ (.slice p2 (strs r.ss).length c2')) := ((Frm.refl _ _).setCell (by simp) _).setCell (by simp) _
    have hCs : C.size = 11 := by rw [HCC.out]; rfl
    have H7 := Lib.hid ((H6.out.set 2 (.slice p1 (byts r.ds).length c1) (by omega)).set 3 (.slice p2 (strs r.ss).length c2') (by simp; omega))
    have HS : ((C.setIfInBounds 2 (.slice p1 (byts r.ds).length c1)).setIfInBounds 3 (.slice p2 (strs r.ss).length c2')) = (r.cells (.slice p1 (byts r.ds).length c1) (.slice p2 (strs r.ss).length c2')).toArray := by rw [HCC.out]; rfl
    rw [HS] at H7
    have K7 := Lib.hid (K6.out.frm F7 (by simp))
    have hlt := HB.out.lt
    have fy1 : From (w.heap.size + 1) (.slice p1 (byts r.ds).length c1) := FY.out.mono hlt
    have hlt5 := H5.out.lt
    have fz1 : From (w.heap.size + 1) (.slice p2 (strs r.ss).length c2') := FZ.out.mono hlt5
    have Y7 := Lib.hid (Y6.out.frm F7 (by intro k hk; simp at hk; subst hk; exact fy1.off (by omega)))
    have Z7 := Lib.hid (DZ.out.frm F7 (by intro k hk; simp at hk; subst hk; exact fz1.off (by omega)))
    have W7 := Lib.hid (W6.out.trans (F7.below W6.out.size (by simp)))
    have hlt2 := HC.out.lt
    have OY := Lib.hid ((FY.out.mono hlt2 : From (w.heap.size + 1 + 1) _).off (Nat.lt_succ_self _))
    have OZ := Lib.hid ((FZ.out.mono K5.out.lt : From (w.heap.size + 1 + 1) _).off (Nat.lt_succ_self _))
    have FY' := Lib.hid (fy1.mono (Nat.le_succ _))
    have FZ' := Lib.hid (fz1.mono (Nat.le_succ _))
    generalize ((w6.setCell ⟨w.heap.size, 2, none⟩ (.slice p1 (byts r.ds).length c1)).setCell ⟨w.heap.size, 3, none⟩ (.slice p2 (strs r.ss).length c2')) = w7 at *
    clear fy1 fz1 F7 hlt5 f2 f3 c2 c3 b5
    have hT : w7.there (w.heap.size + 1) 0 (r.cells (.slice p1 (byts r.ds).length c1) (.slice p2 (strs r.ss).length c2')).toArray.size := by
      have := K7.out.there
      rwa [hOs] at this
    have K8 := Lib.hid (K7.out.setCells (vs := r.cells (.slice p1 (byts r.ds).length c1) (.slice p2 (strs r.ss).length c2')) hOs.symm)
    have F8 := Lib.hid (Frm.setCells (b := w.heap.size + 1) (l := [w.heap.size + 1]) (by simp) (r.cells (.slice p1 (byts r.ds).length c1) (.slice p2 (strs r.ss).length c2')) 0 (Frm.refl _ w7))
    go_wp2_with (first | refine wpList_load_mid rfl 29 (.tmp 1) rfl w.heap.size 0 rfl (r.cells (.slice p1 (byts r.ds).length c1) (.slice p2 (strs r.ss).length c2')) _ H7.out.range Try.underlying29 rfl size33 ?_ | refine wpList_store_mid rfl 29 (.tmp 2) (.tmp 11) rfl (w.heap.size + 1) 0 (r.cells (.slice p1 (byts r.ds).length c1) (.slice p2 (strs r.ss).length c2')).toArray rfl rfl hT size33 (Res.one rfl rfl) ?_)
    have Y8 := Lib.hid (Y7.out.frm F8.out (by intro k hk; simp at hk; subst hk; exact OY.out))
    have Z8 := Lib.hid (Z7.out.frm F8.out (by intro k hk; simp at hk; subst hk; exact OZ.out))
    have W8 := Lib.hid (W7.out.trans (F8.out.below W7.out.size (by simp)))
    generalize (w7.setCells (w.heap.size + 1) 0 (r.cells (Value.slice p1 (byts r.ds).length c1) (Value.slice p2 (strs r.ss).length c2'))) = w8 at *
    have hload := run_loadVar_mid (P := Try.prog) w8 (w.heap.size + 1) 0 29 (r.cells (Value.slice p1 (byts r.ds).length c1) (Value.slice p2 (strs r.ss).length c2')) _ K8.out.range Try.underlying29 rfl size33
    refine bodyPost_ret (results_cell rfl rfl hload) rfl ?_
    exact ⟨_, _, rfl, Y8.out, Z8.out, FY'.out, FZ'.out, W8.out⟩
end Go.Proofs.Ytjefjonogbkknaa
