/- A result's copy. -/
import Derived.Lib.Bytes
import Derived.Test.YtfjghemojnhmbaaGreatDen
namespace Go.Proofs.YtfjghemojnhmbaaGreat
open Go.RowKit

theorem Den.drew {by_ : Nat} {w : World} {v : Value} {vs : List Value} (h : Den by_ w v vs) : Den by_ w.drew v vs := h
theorem From.mono {B B' : Nat} {v : Value} (h : From B' v) (hB : B ≤ B') : From B v := fun a n c e => Nat.le_trans hB (h a n c e)
theorem size33 : (Tryz.prog.info? 40).map (·.size) = some 11 := by kernel_rfl
theorem size40 : (Tryz.prog.info? 97).map (·.size) = some 23 := by kernel_rfl
theorem size35 : (Tryz.prog.info? 44).map (·.size) = some 22 := by kernel_rfl
theorem size28 : (Tryz.prog.info? 42).map (·.size) = some 9 := by kernel_rfl
theorem Holds.setCells {w : World} {b : Nat} {cs : Array Value} (h : Holds w b cs) {vs : List Value} (hl : vs.length = cs.size) : Holds (w.setCells b 0 vs) b vs.toArray := by
  have ht := h.there
  refine ⟨fun j => ?_, fun j => ?_, ?_⟩
  · by_cases hj : j < vs.length
    · have := World.rangeAt_setCells_same w b 0 vs (by rw [hl]; exact ht) j _ (List.getElem?_eq_getElem hj)
      rw [Nat.zero_add] at this
      rw [this]; simp [hj]
    · rw [World.cell?_setCells_out b vs 0 w ⟨b, j, none⟩ (by intro _ _; right; simp; omega), h.cell j]
      simp [Array.getElem?_eq_none (show cs.size ≤ j by omega), Array.getElem?_eq_none (show vs.toArray.size ≤ j by simp; omega)]
  · have : ∀ (vs : List Value) (o : Nat) (w : World), (w.setCells b o vs).frozen? ⟨b, j, none⟩ = w.frozen? ⟨b, j, none⟩ := by
      intro vs
      induction vs with
      | nil => intro o w; rfl
      | cons v r ih => intro o w; exact (ih (o + 1) _).trans (World.frozen?_setCell _ _ _ _)
    rw [this]; exact h.free j
  · have : ∀ (vs : List Value) (o : Nat) (w : World), (w.setCells b o vs).heap.size = w.heap.size := by
      intro vs
      induction vs with
      | nil => intro o w; rfl
      | cons v r ih => intro o w; exact (ih (o + 1) _).trans (by simp)
    rw [this]; exact h.lt
theorem Frm.setCells {l : List Nat} {b : Nat} (hb : b ∈ l) : ∀ (vs : List Value) (o : Nat) {a w : World}, Frm l a w → Frm l a (w.setCells b o vs)
  | [], _, _, _, h => h
  | v :: r, o, _, _, h => Frm.setCells hb r (o + 1) (h.setCell hb v)
theorem results_cell {P : Program} {fn : Func} {tmps : Array Value} {w : World} {a : Nat} {t : TypeId} {b o : Nat} {v : Value} (hr : fn.results = #[.cell a t]) (ht : tmps.getD a undef = .pointer (some ⟨b, o, none⟩)) (hl : (loadVar t ⟨b, o, none⟩).run P w = .ok v w) : (results fn tmps).run P w = .ok v w := by
  unfold results
  rw [hr]
  have ht' : tmps[a]?.getD undef = .pointer (some ⟨b, o, none⟩) := by rw [← ht]; simp
  simp [asAddr, ht', hl]
theorem Res.one {r : Res} {y z : Value} (hy : y.oneCell' = true) (hz : z.oneCell' = true) : (r.cells y z).toArray.all (·.oneCell') = true := by
  unfold Res.cells
  simp only [List.all_toArray, List.all_cons, List.all_nil, hy, hz]
  rfl

set_option maxRecDepth 100000 in
set_option maxHeartbeats 4000000 in
theorem copy_any {w : World} {r : Res} {y z : Value} (hy : Den 1 w y (byts r.ds)) (hz : Den 16 w z (strs r.ss)) : Calls Tryz.prog 33 #[.agg (r.cells y z).toArray] w fun e w' => ∃ y' z', e = .returned (.agg (r.cells y' z').toArray) ∧ Den 1 w' y' (byts r.ds) ∧ Den 16 w' z' (strs r.ss) ∧ From w.heap.size y' ∧ From w.heap.size z' ∧ Below w.heap.size w w' := by
  obtain ⟨O, hO⟩ : ∃ O : Array Value, O = #[.int .i64 0, .int .i64 0, .slice none 0 0, .slice none 0 0, .int .i64 0, .int .i64 0, .int .i64 0, .int .i64 0, .int .i64 0, .int .i64 0, .int .i64 0] := ⟨_, rfl⟩
  have hOs : O.size = 11 := by rw [hO]; rfl
  obtain ⟨C, hC⟩ : ∃ C : Array Value, C = (r.cells y z).toArray := ⟨_, rfl⟩
  rw [← hC]
  have HCC := Lib.hid hC
  have HO := Lib.hid hO
  clear hO hC
  go_enter Tryz.func33, Tryz.ntmps33
  go_wp2_with fail
  rw [← HO.out]
  have HB : Hid (Holds ((w.alloc (.cells C 40)).alloc (.cells O 40)) w.heap.size C) := Lib.hid ((Holds.new _ _ _).alloc _)
  have HC : Hid (Holds ((w.alloc (.cells C 40)).alloc (.cells O 40)) (w.heap.size + 1) O) := Lib.hid (by
    have := Holds.new (w.alloc (.cells C 40)) O 40
    simpa using this)
  have HW := Lib.hid (((Below.refl w.heap.size w).alloc (Nat.le_refl _) (.cells C 40)).alloc (by simp) (.cells O 40))
  generalize ((w.alloc (.cells C 40)).alloc (.cells O 40)) = W at *
  have HY := Lib.hid (hy.below HW.out)
  have HZ := Lib.hid (hz.below HW.out)
  have CY : Hid (∀ X, Holds X w.heap.size C → X.cell? ⟨w.heap.size, 2, none⟩ = some y ∧ X.cell? ⟨w.heap.size, 3, none⟩ = some z ∧ X.frozen? ⟨w.heap.size, 2, none⟩ = false ∧ X.frozen? ⟨w.heap.size, 3, none⟩ = false) := Lib.hid (fun X h => ⟨by rw [h.cell, HCC.out]; rfl, by rw [h.cell, HCC.out]; rfl, h.free 2, h.free 3⟩)
  obtain ⟨c2, c3, f2, f3⟩ := CY.out _ HB.out
  clear hy hz
  go_region_with (first | (go_at_call 32; go_must ((first | refine (clone_bytes HY.out).mono ?_ | refine (clone_bytes HY.out.drew).mono ?_); rintro e w5 ⟨y', rfl, dy, fy, b5⟩; obtain ⟨p1, c1, rfl⟩ := dy.value; have b5 : Below W.heap.size W w5 := (by first | exact b5 | exact (Below.refl _ _).drew.trans b5); have H5 := Lib.hid (HB.out.below b5); have K5 := Lib.hid (HC.out.below b5); have Z5 := Lib.hid (HZ.out.below b5); have W5 := Lib.hid (HW.out.trans (b5.mono HW.out.size)); have FY := Lib.hid fy; have DY := Lib.hid dy; obtain ⟨c2, c3, f2, f3⟩ := CY.out _ H5.out; clear fy dy b5)) | (go_at_call 57; go_must (refine (clone_strs Z5.out).mono ?_; rintro e w6 ⟨z', rfl, dz, fz, b6⟩; obtain ⟨p2, c2', rfl⟩ := dz.value; have H6 := Lib.hid (H5.out.below b6); have K6 := Lib.hid (K5.out.below b6); have Y6 := Lib.hid (DY.out.below b6); have W6 := Lib.hid (W5.out.trans (b6.mono W5.out.size)); have FZ := Lib.hid fz; have DZ := Lib.hid dz; obtain ⟨c2, c3, f2, f3⟩ := CY.out _ H6.out; clear fz dz b6)))
  all_goals
    have F7 : Frm [w.heap.size] w6 ((w6.setCell ⟨w.heap.size, 2, none⟩ (.slice p1 (byts r.ds).length c1)).setCell ⟨w.heap.size, 3, none⟩ (.slice p2 (strs r.ss).length c2')) := ((Frm.refl _ _).setCell (by simp) _).setCell (by simp) _
    have hCs : C.size = 11 := by rw [HCC.out]; rfl
    have H7 := Lib.hid ((H6.out.set 2 (.slice p1 (byts r.ds).length c1) (by omega)).set 3 (.slice p2 (strs r.ss).length c2') (by simp; omega))
    have HS : ((C.setIfInBounds 2 (.slice p1 (byts r.ds).length c1)).setIfInBounds 3 (.slice p2 (strs r.ss).length c2')) = (r.cells (.slice p1 (byts r.ds).length c1) (.slice p2 (strs r.ss).length c2')).toArray := by rw [HCC.out]; rfl
    rw [HS] at H7
    have K7 := Lib.hid (K6.out.frm F7 (by simp))
    have hlt := HB.out.lt
    have fy1 : From (w.heap.size + 1) (.slice p1 (byts r.ds).length c1) := FY.out.mono hlt
    have hlt5 := H5.out.lt
    have fz1 : From (w.heap.size + 1) (.slice p2 (strs r.ss).length c2') := FZ.out.mono hlt5
    have Y7 := Lib.hid (Y6.out.frm F7 (by intro k hk; simp at hk; subst hk; exact fy1.off (by omega)))
    have Z7 := Lib.hid (DZ.out.frm F7 (by intro k hk; simp at hk; subst hk; exact fz1.off (by omega)))
    have W7 := Lib.hid (W6.out.trans (F7.below W6.out.size (by simp)))
    have hlt2 := HC.out.lt
    have OY := Lib.hid ((FY.out.mono hlt2 : From (w.heap.size + 1 + 1) _).off (Nat.lt_succ_self _))
    have OZ := Lib.hid ((FZ.out.mono K5.out.lt : From (w.heap.size + 1 + 1) _).off (Nat.lt_succ_self _))
    have FY' := Lib.hid (fy1.mono (Nat.le_succ _))
    have FZ' := Lib.hid (fz1.mono (Nat.le_succ _))
    generalize ((w6.setCell ⟨w.heap.size, 2, none⟩ (.slice p1 (byts r.ds).length c1)).setCell ⟨w.heap.size, 3, none⟩ (.slice p2 (strs r.ss).length c2')) = w7 at *
    clear fy1 fz1 F7 hlt5 f2 f3 c2 c3 b5
    have hT : w7.there (w.heap.size + 1) 0 (r.cells (.slice p1 (byts r.ds).length c1) (.slice p2 (strs r.ss).length c2')).toArray.size := by
      have := K7.out.there
      rwa [hOs] at this
    have K8 := Lib.hid (K7.out.setCells (vs := r.cells (.slice p1 (byts r.ds).length c1) (.slice p2 (strs r.ss).length c2')) hOs.symm)
    have F8 := Lib.hid (Frm.setCells (b := w.heap.size + 1) (l := [w.heap.size + 1]) (by simp) (r.cells (.slice p1 (byts r.ds).length c1) (.slice p2 (strs r.ss).length c2')) 0 (Frm.refl _ w7))
    go_wp2_with (first | refine wpList_load_mid rfl 40 (.tmp 1) rfl w.heap.size 0 rfl (r.cells (.slice p1 (byts r.ds).length c1) (.slice p2 (strs r.ss).length c2')) _ H7.out.range Tryz.underlying40 rfl size33 ?_ | refine wpList_store_mid rfl 40 (.tmp 2) (.tmp 11) rfl (w.heap.size + 1) 0 (r.cells (.slice p1 (byts r.ds).length c1) (.slice p2 (strs r.ss).length c2')).toArray rfl rfl hT size33 (Res.one rfl rfl) ?_)
    have Y8 := Lib.hid (Y7.out.frm F8.out (by intro k hk; simp at hk; subst hk; exact OY.out))
    have Z8 := Lib.hid (Z7.out.frm F8.out (by intro k hk; simp at hk; subst hk; exact OZ.out))
    have W8 := Lib.hid (W7.out.trans (F8.out.below W7.out.size (by simp)))
    generalize (w7.setCells (w.heap.size + 1) 0 (r.cells (Value.slice p1 (byts r.ds).length c1) (Value.slice p2 (strs r.ss).length c2'))) = w8 at *
    have hload := run_loadVar_mid (P := Tryz.prog) w8 (w.heap.size + 1) 0 40 (r.cells (Value.slice p1 (byts r.ds).length c1) (Value.slice p2 (strs r.ss).length c2')) _ K8.out.range Tryz.underlying40 rfl size33
    refine bodyPost_ret (results_cell rfl rfl hload) rfl ?_
    exact ⟨_, _, rfl, Y8.out, Z8.out, FY'.out, FZ'.out, W8.out⟩
end Go.Proofs.YtfjghemojnhmbaaGreat
/- Slices of strings, and slices of bytes, held against one another. -/
namespace Go.Proofs.YtfjghemojnhmbaaGreat
open Go.RowKit

theorem bytes_inj {x y : ByteArray} (h : x.toList = y.toList) : x = y := by
  rw [ByteArray.toList_eq, ByteArray.toList_eq] at h
  cases x; cases y
  simp at h
  rw [h]
theorem strs_get {ss : List ByteArray} {i : Nat} (hi : i < ss.length) : (strs ss)[i]? = some (.string (ss[i]'hi)) := by
  simp [strs, List.getElem?_map, List.getElem?_eq_getElem hi]

set_option maxRecDepth 100000 in
set_option maxHeartbeats 4000000 in
theorem equals_any {w : World} {u v : Value} {a b : List ByteArray} (hu : Den 16 w u (strs a)) (hv : Den 16 w v (strs b)) : Calls Tryz.prog 35 #[u, v] w fun e w' => e = .returned (.bool (decide (a = b))) ∧ Below w.heap.size w w' := by
  obtain ⟨p, c, rfl⟩ := hu.value
  obtain ⟨q, d, rfl⟩ := hv.value
  have la : (strs a).length = a.length := by simp [strs]
  have lb : (strs b).length = b.length := by simp [strs]
  rw [la] at hu ⊢
  rw [lb] at hv ⊢
  have ma := hu.most.2
  unfold maxLen at ma
  clear la lb
  by_cases hl : a.length = b.length
  · rw [← hl] at hv ⊢
    have HU := Lib.hid hu
    have HV := Lib.hid hv
    have HL := Lib.hid hl
    clear hu hv hl
    go_enter Tryz.func35, Tryz.ntmps35
    go_wp2_with fail
    go_loopw [13] (fun iv wr => ∃ i : Nat, i ≤ a.length ∧ iv = .int .i64 i ∧ Hid ((∀ j : Nat, j < i → a[j]? = b[j]?) ∧ Below w.heap.size w wr)) (fun iv _ => a.length - (intOf iv).toNat)
    case atStart => exact ⟨0, by omega, rfl, fun j h => absurd h (by omega), Below.refl _ _⟩
    case round =>
      obtain ⟨i, hi, rfl, HI⟩ := hrel
      by_cases hlt : i < a.length
      · have h0 : (0 : Int) ≤ (i : Int) := by omega
        have h1 : (i : Int) < (a.length : Int) := by omega
        have hib : i < b.length := by have := HL.out; omega
        obtain ⟨x, hx⟩ : ∃ x, a[i]'hlt = x := ⟨_, rfl⟩
        obtain ⟨y, hy⟩ : ∃ y, b[i]'hib = y := ⟨_, rfl⟩
        have HX := Lib.hid (show a[i]? = some x by rw [List.getElem?_eq_getElem hlt, hx])
        have HY := Lib.hid (show b[i]? = some y by rw [List.getElem?_eq_getElem hib, hy])
        obtain ⟨bu, ou, rfl, cu⟩ := (HU.out.below HI.out.2).at (by omega)
        obtain ⟨bv, ov, rfl, cv⟩ := (HV.out.below HI.out.2).at (by omega)
        have c1 : wr.cell? ⟨bu, ou + i, none⟩ = some (.string x) := by rw [cu i hlt, strs_get hlt, hx]
        have c2 : wr.cell? ⟨bv, ov + i, none⟩ = some (.string y) := by rw [cv i hlt, strs_get hib, hy]
        clear cu cv hx hy hib
        by_cases hxy : x = y
        · subst hxy
          go_wp2_with fail
          go_quiet (fail)
          go_wp2_with fail
          go_roundw
          case rel => exact ⟨i + 1, by omega, by go_num, fun j hj => by
            by_cases e : j = i
            · subst e; rw [HX.out, HY.out]
            · exact HI.out.1 j (by omega), below_drewN HI.out.2 nq⟩
          case measure => simp [intOf]; omega
        · have d1 : (x.toList == y.toList) = false := beq_eq_false_iff_ne.2 (fun e => hxy (bytes_inj e))
          have HXY := Lib.hid hxy
          clear hxy
          go_wp2_with fail
          go_quiet (fail)
          go_wp2_with fail
          go_ret
          refine ⟨?_, below_drewN HI.out.2 nq⟩
          have hne : ¬ a = b := fun e => by
            have := HX.out
            rw [e, HY.out] at this
            exact HXY.out (Option.some.inj this).symm
          rw [decide_eq_false hne]
          rfl
      · obtain rfl : i = a.length := by omega
        have e1 : ¬ (a.length : Int) < (a.length : Int) := by omega
        go_wp2_with fail
        go_ret
        have he : a = b := List.ext_getElem? fun j => by
          rcases Nat.lt_or_ge j a.length with h | h
          · exact HI.out.1 j h
          · have := HL.out
            rw [List.getElem?_eq_none h, List.getElem?_eq_none (by omega)]
        exact ⟨by rw [decide_eq_true he]; rfl, HI.out.2⟩
  · have hl' : ¬ (a.length : Int) = (b.length : Int) := by omega
    have d1 : ((a.length : Int) != (b.length : Int)) = true := by rw [bne_iff_ne]; omega
    have HL := Lib.hid hl
    clear hu hv hl
    go_enter Tryz.func35, Tryz.ntmps35
    go_wp2_with fail
    go_ret
    exact ⟨by rw [decide_eq_false (fun e => HL.out (by rw [e]))]; rfl, Below.refl _ _⟩

set_option maxRecDepth 100000 in
theorem byteq_any {w : World} {u v : Value} {a b : List Int} (hu : Den 1 w u (byts a)) (hv : Den 1 w v (byts b)) : Calls Tryz.prog 34 #[u, v] w fun e w' => e = .returned (.bool (Lib.bytesOf a == Lib.bytesOf b)) ∧ Below w.heap.size w w' := by
  obtain ⟨p, c, rfl⟩ := hu.value
  obtain ⟨q, d, rfl⟩ := hv.value
  have e1 := hu.convert 35 5 Tryz.underlying35 Tryz.underlying5 9 Tryz.underlying9
  have e2 := hv.convert 35 5 Tryz.underlying35 Tryz.underlying5 9 Tryz.underlying9
  rw [← Lib.strOfNums_toList, ← Lib.strOfNums_toList]
  clear hu hv
  go_enter Tryz.func34, Tryz.ntmps34
  go_wp2_with fail
  go_ret
  exact ⟨rfl, Below.refl _ _⟩
end Go.Proofs.YtfjghemojnhmbaaGreat
/- Results held against one another. -/
namespace Go.Proofs.YtfjghemojnhmbaaGreat
open Go.RowKit

def statI (a b : Res) : Bool := decide (a.s0 = b.s0 ∧ a.s1 = b.s1 ∧ a.s2 = b.s2 ∧ a.s3 = b.s3 ∧ a.s4 = b.s4 ∧ a.s5 = b.s5 ∧ a.s6 = b.s6)
def sameI (a b : Res) : Bool := decide (a.w = b.w) && (decide (a.n = b.n) && ((Lib.bytesOf a.ds == Lib.bytesOf b.ds) && (decide (a.ss = b.ss) && statI a b)))
theorem stat_run (a b : Res) (w : World) : (binOp .eql 38 (.agg #[.int .i64 a.s0, .int .i64 a.s1, .int .i64 a.s2, .int .i64 a.s3, .int .i64 a.s4, .int .i64 a.s5, .int .i64 a.s6]) (.agg #[.int .i64 b.s0, .int .i64 b.s1, .int .i64 b.s2, .int .i64 b.s3, .int .i64 b.s4, .int .i64 b.s5, .int .i64 b.s6])).run Tryz.prog w = .ok (.bool (statI a b)) w := by
  simp [go_sem]
  unfold statI
  repeat (split <;> simp_all)
theorem stat_run' (a b : Res) (w : World) : (binOp .neq 38 (.agg #[.int .i64 a.s0, .int .i64 a.s1, .int .i64 a.s2, .int .i64 a.s3, .int .i64 a.s4, .int .i64 a.s5, .int .i64 a.s6]) (.agg #[.int .i64 b.s0, .int .i64 b.s1, .int .i64 b.s2, .int .i64 b.s3, .int .i64 b.s4, .int .i64 b.s5, .int .i64 b.s6])).run Tryz.prog w = .ok (.bool (!statI a b)) w := by
  simp [go_sem]
  unfold statI
  repeat (split <;> simp_all)
theorem Res.at {W : World} {b : Nat} {r : Res} {y z : Value} (h : Holds W b (r.cells y z).toArray) : W.cell? ⟨b, 0, none⟩ = some (.int .i64 r.w) ∧ W.cell? ⟨b, 1, none⟩ = some (.int .i64 r.n) ∧ W.cell? ⟨b, 2, none⟩ = some y ∧ W.cell? ⟨b, 3, none⟩ = some z ∧
    W.cell? ⟨b, 4, none⟩ = some (.int .i64 r.s0) ∧ W.cell? ⟨b, 4 + 1, none⟩ = some (.int .i64 r.s1) ∧ W.cell? ⟨b, 4 + 2, none⟩ = some (.int .i64 r.s2) ∧ W.cell? ⟨b, 4 + 3, none⟩ = some (.int .i64 r.s3) ∧ W.cell? ⟨b, 4 + 4, none⟩ = some (.int .i64 r.s4) ∧ W.cell? ⟨b, 4 + 5, none⟩ = some (.int .i64 r.s5) ∧ W.cell? ⟨b, 4 + 6, none⟩ = some (.int .i64 r.s6) :=
  ⟨h.cell 0, h.cell 1, h.cell 2, h.cell 3, h.cell 4, h.cell 5, h.cell 6, h.cell 7, h.cell 8, h.cell 9, h.cell 10⟩

set_option maxRecDepth 100000 in
set_option maxHeartbeats 8000000 in
theorem same_any {w : World} {a b : Res} {y z y' z' : Value} (hy : Den 1 w y (byts a.ds)) (hz : Den 16 w z (strs a.ss)) (hy' : Den 1 w y' (byts b.ds)) (hz' : Den 16 w z' (strs b.ss)) :
    Calls Tryz.prog 16 #[.agg (a.cells y z).toArray, .agg (b.cells y' z').toArray] w fun e w' => e = .returned (.bool (sameI a b)) ∧ Below w.heap.size w w' := by
  obtain ⟨A, hA⟩ : ∃ A : Array Value, A = (a.cells y z).toArray := ⟨_, rfl⟩
  obtain ⟨B, hB⟩ : ∃ B : Array Value, B = (b.cells y' z').toArray := ⟨_, rfl⟩
  rw [← hA, ← hB]
  have H1 : Hid (Holds ((w.alloc (.cells A 40)).alloc (.cells B 40)) w.heap.size (a.cells y z).toArray) := Lib.hid (by rw [← hA]; exact (Holds.new _ _ _).alloc _)
  have H2 : Hid (Holds ((w.alloc (.cells A 40)).alloc (.cells B 40)) (w.heap.size + 1) (b.cells y' z').toArray) := Lib.hid (by
    have := Holds.new (w.alloc (.cells A 40)) B 40
    rw [← hB]
    simpa using this)
  have HW : Hid (Below w.heap.size w ((w.alloc (.cells A 40)).alloc (.cells B 40))) := Lib.hid (((Below.refl w.heap.size w).alloc (Nat.le_refl _) _).alloc (by simp) _)
  have DY := Lib.hid (hy.below HW.out)
  have DZ := Lib.hid (hz.below HW.out)
  have DY' := Lib.hid (hy'.below HW.out)
  have DZ' := Lib.hid (hz'.below HW.out)
  obtain ⟨p1, k1, rfl⟩ := hy.value
  obtain ⟨p2, k2, rfl⟩ := hz.value
  obtain ⟨p3, k3, rfl⟩ := hy'.value
  obtain ⟨p4, k4, rfl⟩ := hz'.value
  obtain ⟨u0, u1, u2, u3, u4, u5, u6, u7, u8, u9, u10⟩ := Res.at H1.out
  obtain ⟨v0, v1, v2, v3, v4, v5, v6, v7, v8, v9, v10⟩ := Res.at H2.out
  have sq := stat_run a b
  have sq' := stat_run' a b
  clear hA hB hy hz hy' hz'
  go_enter Tryz.func16, Tryz.ntmps16
  by_cases g1 : a.w = b.w
  · by_cases g2 : a.n = b.n
    · by_cases g3 : (Lib.bytesOf a.ds == Lib.bytesOf b.ds) = true
      · by_cases g4 : a.ss = b.ss
        · have G : Hid (sameI a b = statI a b) := Lib.hid (by simp [sameI, g1, g2, g3, g4])
          have G4 := Lib.hid (decide_eq_true g4)
          have G3 := Lib.hid g3
          clear g3
          clear g4
          go_wp2_with (first | (go_at_call 34; refine (byteq_any DY.out DY'.out).mono ?_; rintro e w5 ⟨rfl, b5⟩; rw [G3.out]; have HW := Lib.hid (HW.out.trans (b5.mono HW.out.size)); have H1 := Lib.hid (H1.out.below b5); have H2 := Lib.hid (H2.out.below b5); have DY := Lib.hid (DY.out.below b5); have DZ := Lib.hid (DZ.out.below b5); have DY' := Lib.hid (DY'.out.below b5); have DZ' := Lib.hid (DZ'.out.below b5); obtain ⟨u0, u1, u2, u3, u4, u5, u6, u7, u8, u9, u10⟩ := Res.at H1.out; obtain ⟨v0, v1, v2, v3, v4, v5, v6, v7, v8, v9, v10⟩ := Res.at H2.out; clear b5) | (go_at_call 35; refine (equals_any DZ.out DZ'.out).mono ?_; rintro e w5 ⟨rfl, b5⟩; rw [G4.out]; have HW := Lib.hid (HW.out.trans (b5.mono HW.out.size)); have H1 := Lib.hid (H1.out.below b5); have H2 := Lib.hid (H2.out.below b5); have DY := Lib.hid (DY.out.below b5); have DZ := Lib.hid (DZ.out.below b5); have DY' := Lib.hid (DY'.out.below b5); have DZ' := Lib.hid (DZ'.out.below b5); obtain ⟨u0, u1, u2, u3, u4, u5, u6, u7, u8, u9, u10⟩ := Res.at H1.out; obtain ⟨v0, v1, v2, v3, v4, v5, v6, v7, v8, v9, v10⟩ := Res.at H2.out; clear b5))
          go_ret
          exact ⟨by rw [G.out]; rfl, HW.out⟩
        · have G : Hid (sameI a b = false) := Lib.hid (by simp [sameI, g4])
          have G4 := Lib.hid (decide_eq_false g4)
          clear g4
          have G3 := Lib.hid g3
          clear g3
          go_wp2_with (first | (go_at_call 34; refine (byteq_any DY.out DY'.out).mono ?_; rintro e w5 ⟨rfl, b5⟩; rw [G3.out]; have HW := Lib.hid (HW.out.trans (b5.mono HW.out.size)); have H1 := Lib.hid (H1.out.below b5); have H2 := Lib.hid (H2.out.below b5); have DY := Lib.hid (DY.out.below b5); have DZ := Lib.hid (DZ.out.below b5); have DY' := Lib.hid (DY'.out.below b5); have DZ' := Lib.hid (DZ'.out.below b5); obtain ⟨u0, u1, u2, u3, u4, u5, u6, u7, u8, u9, u10⟩ := Res.at H1.out; obtain ⟨v0, v1, v2, v3, v4, v5, v6, v7, v8, v9, v10⟩ := Res.at H2.out; clear b5) | (go_at_call 35; refine (equals_any DZ.out DZ'.out).mono ?_; rintro e w5 ⟨rfl, b5⟩; rw [G4.out]; have HW := Lib.hid (HW.out.trans (b5.mono HW.out.size)); have H1 := Lib.hid (H1.out.below b5); have H2 := Lib.hid (H2.out.below b5); have DY := Lib.hid (DY.out.below b5); have DZ := Lib.hid (DZ.out.below b5); have DY' := Lib.hid (DY'.out.below b5); have DZ' := Lib.hid (DZ'.out.below b5); obtain ⟨u0, u1, u2, u3, u4, u5, u6, u7, u8, u9, u10⟩ := Res.at H1.out; obtain ⟨v0, v1, v2, v3, v4, v5, v6, v7, v8, v9, v10⟩ := Res.at H2.out; clear b5))
          go_ret
          exact ⟨by rw [G.out]; rfl, HW.out⟩
      · have G : Hid (sameI a b = false) := Lib.hid (by simp [sameI, g3])
        have g3 : (Lib.bytesOf a.ds == Lib.bytesOf b.ds) = false := by simpa using g3
        have G4 := Lib.hid (trivial)
        have G3 := Lib.hid g3
        clear g3
        go_wp2_with (first | (go_at_call 34; refine (byteq_any DY.out DY'.out).mono ?_; rintro e w5 ⟨rfl, b5⟩; rw [G3.out]; have HW := Lib.hid (HW.out.trans (b5.mono HW.out.size)); have H1 := Lib.hid (H1.out.below b5); have H2 := Lib.hid (H2.out.below b5); have DY := Lib.hid (DY.out.below b5); have DZ := Lib.hid (DZ.out.below b5); have DY' := Lib.hid (DY'.out.below b5); have DZ' := Lib.hid (DZ'.out.below b5); obtain ⟨u0, u1, u2, u3, u4, u5, u6, u7, u8, u9, u10⟩ := Res.at H1.out; obtain ⟨v0, v1, v2, v3, v4, v5, v6, v7, v8, v9, v10⟩ := Res.at H2.out; clear b5) | (go_at_call 35; refine (equals_any DZ.out DZ'.out).mono ?_; rintro e w5 ⟨rfl, b5⟩; rw [G4.out]; have HW := Lib.hid (HW.out.trans (b5.mono HW.out.size)); have H1 := Lib.hid (H1.out.below b5); have H2 := Lib.hid (H2.out.below b5); have DY := Lib.hid (DY.out.below b5); have DZ := Lib.hid (DZ.out.below b5); have DY' := Lib.hid (DY'.out.below b5); have DZ' := Lib.hid (DZ'.out.below b5); obtain ⟨u0, u1, u2, u3, u4, u5, u6, u7, u8, u9, u10⟩ := Res.at H1.out; obtain ⟨v0, v1, v2, v3, v4, v5, v6, v7, v8, v9, v10⟩ := Res.at H2.out; clear b5))
        go_ret
        exact ⟨by rw [G.out]; rfl, HW.out⟩
    · have G : Hid (sameI a b = false) := Lib.hid (by simp [sameI, g2])
      have d2 : (a.n == b.n) = false := beq_eq_false_iff_ne.2 g2
      have G4 := Lib.hid (trivial)
      have g3 := trivial
      have G3 := Lib.hid g3
      clear g3
      go_wp2_with (first | (go_at_call 34; refine (byteq_any DY.out DY'.out).mono ?_; rintro e w5 ⟨rfl, b5⟩; rw [G3.out]; have HW := Lib.hid (HW.out.trans (b5.mono HW.out.size)); have H1 := Lib.hid (H1.out.below b5); have H2 := Lib.hid (H2.out.below b5); have DY := Lib.hid (DY.out.below b5); have DZ := Lib.hid (DZ.out.below b5); have DY' := Lib.hid (DY'.out.below b5); have DZ' := Lib.hid (DZ'.out.below b5); obtain ⟨u0, u1, u2, u3, u4, u5, u6, u7, u8, u9, u10⟩ := Res.at H1.out; obtain ⟨v0, v1, v2, v3, v4, v5, v6, v7, v8, v9, v10⟩ := Res.at H2.out; clear b5) | (go_at_call 35; refine (equals_any DZ.out DZ'.out).mono ?_; rintro e w5 ⟨rfl, b5⟩; rw [G4.out]; have HW := Lib.hid (HW.out.trans (b5.mono HW.out.size)); have H1 := Lib.hid (H1.out.below b5); have H2 := Lib.hid (H2.out.below b5); have DY := Lib.hid (DY.out.below b5); have DZ := Lib.hid (DZ.out.below b5); have DY' := Lib.hid (DY'.out.below b5); have DZ' := Lib.hid (DZ'.out.below b5); obtain ⟨u0, u1, u2, u3, u4, u5, u6, u7, u8, u9, u10⟩ := Res.at H1.out; obtain ⟨v0, v1, v2, v3, v4, v5, v6, v7, v8, v9, v10⟩ := Res.at H2.out; clear b5))
      go_ret
      exact ⟨by rw [G.out]; rfl, HW.out⟩
  · have G : Hid (sameI a b = false) := Lib.hid (by simp [sameI, g1])
    have d1 : (a.w == b.w) = false := beq_eq_false_iff_ne.2 g1
    have G4 := Lib.hid (trivial)
    have g3 := trivial
    have G3 := Lib.hid g3
    clear g3
    go_wp2_with (first | (go_at_call 34; refine (byteq_any DY.out DY'.out).mono ?_; rintro e w5 ⟨rfl, b5⟩; rw [G3.out]; have HW := Lib.hid (HW.out.trans (b5.mono HW.out.size)); have H1 := Lib.hid (H1.out.below b5); have H2 := Lib.hid (H2.out.below b5); have DY := Lib.hid (DY.out.below b5); have DZ := Lib.hid (DZ.out.below b5); have DY' := Lib.hid (DY'.out.below b5); have DZ' := Lib.hid (DZ'.out.below b5); obtain ⟨u0, u1, u2, u3, u4, u5, u6, u7, u8, u9, u10⟩ := Res.at H1.out; obtain ⟨v0, v1, v2, v3, v4, v5, v6, v7, v8, v9, v10⟩ := Res.at H2.out; clear b5) | (go_at_call 35; refine (equals_any DZ.out DZ'.out).mono ?_; rintro e w5 ⟨rfl, b5⟩; rw [G4.out]; have HW := Lib.hid (HW.out.trans (b5.mono HW.out.size)); have H1 := Lib.hid (H1.out.below b5); have H2 := Lib.hid (H2.out.below b5); have DY := Lib.hid (DY.out.below b5); have DZ := Lib.hid (DZ.out.below b5); have DY' := Lib.hid (DY'.out.below b5); have DZ' := Lib.hid (DZ'.out.below b5); obtain ⟨u0, u1, u2, u3, u4, u5, u6, u7, u8, u9, u10⟩ := Res.at H1.out; obtain ⟨v0, v1, v2, v3, v4, v5, v6, v7, v8, v9, v10⟩ := Res.at H2.out; clear b5))
    go_ret
    exact ⟨by rw [G.out]; rfl, HW.out⟩
end Go.Proofs.YtfjghemojnhmbaaGreat
