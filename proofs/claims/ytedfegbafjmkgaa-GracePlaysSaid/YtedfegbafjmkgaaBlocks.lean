/- Chapter 4: Blocks. -/
import Derived.Test.YtedfegbafjmkgaaKnown
namespace Go.Proofs.Ytedfegbafjmkgaa
open Go.RowKit Go.Shelf

attribute [local go_sem] Oper.semAt_some

/-- Numbers in new memory. -/
def ApPost (w : World) (l : List Nat) (e : Ending) (W' : World) : Prop := ∃ v, e = .returned v ∧ Win W' w.heap.size 3 1 v l.length (natsOf l) ∧ Below w.heap.size w W'

set_option maxRecDepth 100000 in
set_option maxHeartbeats 2000000 in
theorem append_in (n : Nat) (hn : 3 ≤ n) (Bg Bw g rb f o cap : Nat) (rd : List (Int × Int)) (li : List Int) (w : World) (hn8 : rd.length ≤ 8)
    (hl : Bg < w.heap.size ∧ Bw < w.heap.size ∧ g < w.heap.size ∧ rb < w.heap.size ∧ f < w.heap.size)
    (hBg : w.cell? ⟨Bg, 0, none⟩ = some (.pointer (some ⟨g, 0, none⟩))) (hg : w.cell? ⟨g, 0, none⟩ = some (.slice (some ⟨rb, 0, none⟩) rd.length rd.length))
    (hBw : w.cell? ⟨Bw, 1, none⟩ = some (.slice (some ⟨f, o, none⟩) rd.length cap))
    (hr : ∀ j, j < rd.length → w.cell? ⟨rb, j * 2, none⟩ = some (.int .i64 (rd.getD j (0, 0)).1) ∧ w.cell? ⟨rb, j * 2 + 1, none⟩ = some (.int .i64 (rd.getD j (0, 0)).2))
    (hf : ∀ j, j < rd.length → w.cell? ⟨f, o + j, none⟩ = some (.int .i64 (li.getD j 0))) :
    CallsIn Fence.wide n Try.prog 33 #[.slice none 0 0, .func (.func 32) #[] #[.pointer (some ⟨Bg, 0, none⟩), .pointer (some ⟨Bw, 0, none⟩)]] w (ApPost w (blkd rd li rd.length)) := by
  have h1 : 1 ≤ n := by omega
  obtain ⟨i0, hi, hz0, hz1, hz2⟩ := info_parts info3
  refine callsIn_of_wp_marks Try.func33 rfl trivial ?_ rfl
  simp only [Try.ntmps33, List.size_toArray, List.length_cons, List.length_nil, Nat.reduceAdd, Nat.reduceSub, Array.replicate_succ, Array.replicate_zero, List.push_toArray, List.append_toArray, List.nil_append, List.cons_append]
  have bL := Boxed.new w 28 (.slice none 0 0)
  have hB0 : Below w.heap.size w (w.alloc (.cells #[.slice none 0 0] 28)) := (Below.refl _ w).alloc (Nat.le_refl _) _
  have HST := blk_stops (n - 1) (by omega) Bg Bw g rb f o cap rd li (w.alloc (.cells #[.slice none 0 0] 28)) hn8 (by simp; omega) ((hB0.cell (p := ⟨Bg, 0, none⟩) hl.1).trans hBg) ((hB0.cell (p := ⟨g, 0, none⟩) hl.2.2.1).trans hg)
    ((hB0.cell (p := ⟨Bw, 1, none⟩) hl.2.1).trans hBw) (fun j hj => ⟨(hB0.cell (p := ⟨rb, j * 2, none⟩) hl.2.2.2.1).trans (hr j hj).1, (hB0.cell (p := ⟨rb, j * 2 + 1, none⟩) hl.2.2.2.1).trans (hr j hj).2⟩)
    (fun j hj => (hB0.cell (p := ⟨f, o + j, none⟩) hl.2.2.2.2).trans (hf j hj))
  clear hBg hg hBw hr hf
  gi_wp2
  refine wpIn_rangeFunc_ownH rfl h1 (gf := 32) (lb := #[.pointer (some ⟨Bg, 0, none⟩), .pointer (some ⟨Bw, 0, none⟩)]) rfl trivial (enters_of Try.func32 (by kernel_rfl) rfl) HST
    (fun {A B C} => KL.trans) (KL.put (by intro k hk; simp at hk; simp; omega)) (Below.refl _ _) (fun _ => rfl)
    (fun pre W => (∃ v, Boxed W w.heap.size 28 v ∧ W.ownsRow w.heap.size 3 1 v pre.length (natsOf pre) ∧ True) ∧ Below w.heap.size w W)
    (fun _ _ _ => False)
    (OwnFrom.and (Own.from (holdsRow_own w.heap.size w.heap.size 28 3 1 (fun pre : List Nat => pre.length) natsOf (fun _ _ => True)) _) (ownFrom_below (Nat.le_refl _) (by simp)))
    (fun _ _ _ _ _ hs _ _ => hs)
    ⟨⟨_, bL, World.ownsRow_nil _ _ _ _, trivial⟩, hB0⟩
    (fun (x : Nat) a' _ => a' = { tmps := #[.slice none 0 0, .func (.func 32) #[] #[.pointer (some ⟨Bg, 0, none⟩), .pointer (some ⟨Bw, 0, none⟩)], .pointer (some ⟨w.heap.size, 0, none⟩), undef, .slice none 0 0, .int .i64 (x : Int), .func (.func 32) #[] #[.pointer (some ⟨Bg, 0, none⟩), .pointer (some ⟨Bw, 0, none⟩)], .int .i64 (x : Int), undef, undef, undef, undef, undef], defers := [] })
    (fun _ _ _ _ _ _ h _ _ => h) ?assign ?body ?done ?stop
  case assign =>
    rintro l pre x W K hI hK
    gi_wp2
    exact hK _ _ (KeepsFrom.refl _ _) (KL.refl _ _) hI rfl
  case body =>
    rintro l pre x a' W hl' hr ⟨⟨v, hv, hrow, _⟩, hB⟩ rfl hlt
    have hc := hv.cell
    gi_wp2_with (gi_at_builtin; refine wpListIn_append_own _ rfl _ _ 28 rfl w.heap.size 3 i0 _ 1 8 Try.underlying28 hi hz0 hz1 hz2 rfl (by decide) _ _ _ rfl (hrow.alloc _) ⟨W.heap.size, 0, none⟩ 1 1 [.int .i64 (x : Int)] rfl rfl (new_cells _ _ _) (by simp [Value.oneCell']) (by unfold maxLen; omega) (by omega) (by have := hB.size; simp; omega) ?_; intro v' w1 hown' hgrow _; obtain ⟨g', cap', rfl⟩ := ownsRow_succ hown'; obtain ⟨hv1, hv2, hr2, hk2, hb2⟩ := hv.appended (by decide) hrow hB.size (Nat.le_refl _) hown' hgrow; have hc1 := hv1.cell; have hf1 := hv1.frozen)
    exact ⟨hk2.from _, ⟨hb2.size, fun k hk => hb2.block k (by simp at hk; omega)⟩, ⟨_, hv2, by simpa [natsOf] using hr2, trivial⟩, hB.trans hb2⟩
  case done =>
    rintro D ys W hD rfl ⟨⟨v, hv, hrow, _⟩, hB⟩ hK
    have hc := hv.cell
    gi_wp2
    refine ⟨by simp, .inl ⟨_, _, rfl, run_takeDeferred hK, ?_⟩⟩
    refine ⟨_, results_tmp rfl _ _ _, v, rfl, ?_, hB.trans (belowK_b (w := w) (Nat.le_refl _) W D _ _ (by simp at hD; omega) hK rfl rfl)⟩
    exact Win.of_own (ownsRow_putObj hrow (.deferred none) hK rfl)
  case stop =>
    rintro D c pre W _ _ h _
    exact h.elim
theorem collect_in (n : Nat) (hn : 4 ≤ n) (sv : Value) (l : List Nat) (w : World) (h : CallsIn Fence.wide (n - 1) Try.prog 33 #[.slice none 0 0, sv] w (ApPost w l)) :
    CallsIn Fence.wide n Try.prog 30 #[sv] w (ApPost w l) := by
  have h1' : 1 ≤ n := by omega
  refine callsIn_of_wp Try.func30 rfl trivial ?_ rfl
  simp only [Try.ntmps30, List.size_toArray, List.length_cons, List.length_nil, Nat.reduceAdd, Nat.reduceSub, Array.replicate_succ, Array.replicate_zero, List.push_toArray, List.append_toArray, List.nil_append, List.cons_append]
  gi_wp2_with (refine ⟨trivial, ?_⟩; gi_at_call 33; refine h.mono ?_; rintro e w' ⟨v, rfl, h1, h2⟩)
  go_ret
  exact ⟨v, rfl, h1, h2⟩

/-- Those that an id waits for. -/
def blocksOf (s : GS) (id : Int) : List Nat :=
  match s.wt.find? (fun x => x.id == id) with
  | some x => blkd s.rd x.l s.rd.length
  | none => []
theorem blocksOf_at {s : GS} {id : Int} {k : Nat} {x : WE} (hx : s.wt[k]? = some x) (he : x.id = id) (hn : ∀ y ∈ s.wt.take k, y.id ≠ id) : blocksOf s id = blkd s.rd x.l s.rd.length := by
  have hk := (List.getElem?_eq_some_iff.1 hx).1
  have hs : s.wt = s.wt.take k ++ x :: s.wt.drop (k + 1) := by
    have := List.take_append_drop k s.wt
    rw [List.drop_eq_getElem_cons hk] at this
    rw [← (List.getElem?_eq_some_iff.1 hx).2]
    exact this.symm
  have h1 : (s.wt.take k).find? (fun y => y.id == id) = none := by
    rw [List.find?_eq_none]
    intro y hy
    simpa using hn y hy
  have : s.wt.find? (fun y => y.id == id) = some x := by
    rw [hs, List.find?_append, h1]
    simp [he]
  simp only [blocksOf, this]
theorem blocksOf_no {s : GS} {id : Int} (hn : ∀ y ∈ s.wt, y.id ≠ id) : blocksOf s id = [] := by
  have : s.wt.find? (fun y => y.id == id) = none := by
    rw [List.find?_eq_none]
    intro y hy
    simpa using hn y hy
  simp only [blocksOf, this]
section
variable {w : World} {base g rb : Nat} {v : Value} {s : GS}
set_option maxRecDepth 100000 in
set_option maxHeartbeats 2000000 in
theorem blocks_any (h : Gr w base g rb v s) (id : Int) : Calls Try.prog 18 #[.pointer (some ⟨g, 0, none⟩), .int .i64 id] w fun e w' => ∃ ov, e = .returned ov ∧ Win w' w.heap.size 3 1 ov (blocksOf s id).length (natsOf (blocksOf s id)) ∧ Below w.heap.size w w' := by
  have c0 : w.cell? ⟨g, 0, none⟩ = some (.slice (some ⟨rb, 0, none⟩) s.rd.length s.rd.length) := h.hg.cell 0
  have c1 : w.cell? ⟨g, 1, none⟩ = some v := h.hg.cell 1
  have hlg := h.hg.lt
  have hlr := h.hr.lt
  have hm16 := h.m16
  obtain ⟨va, vc, hva⟩ := h.hv.value
  rw [hva] at c1
  have HVA := Lib.hid hva
  have H := Lib.hid h
  have C0 := Lib.hid c0
  clear h hva c0
  go_enter Try.func18, Try.ntmps18
  go_wp2_with fail
  go_loopw [12] (fun iv wr => ∃ k : Nat, k ≤ s.wt.length ∧ iv = .int .i64 k ∧ Hid (∀ y ∈ s.wt.take k, y.id ≠ id) ∧ Hid (Below w.heap.size w wr)) (fun iv _ => s.wt.length - (intOf iv).toNat)
  case atStart => exact ⟨0, by omega, rfl, Lib.hid (by simp), Lib.hid (Below.refl _ _)⟩
  case round =>
    obtain ⟨k, hk, rfl, HN, HB⟩ := hrel
    by_cases hlt : k < s.wt.length
    · have hk0 : (0 : Int) ≤ (k : Int) := by omega
      have hk1 : (k : Int) < (s.wt.length : Int) := by omega
      obtain ⟨x, hx⟩ : ∃ x, s.wt[k]? = some x := ⟨_, List.getElem?_eq_getElem hlt⟩
      obtain ⟨f, o, cp, hxv, hfb, hfl, hfc⟩ := (H.out.hs x (List.mem_of_getElem? hx)).laid
      obtain ⟨fw, ow, cw, hv⟩ := H.out.hv.form (by omega)
      obtain ⟨rfl, rfl⟩ : va = some ⟨fw, ow, none⟩ ∧ vc = cw := by have := HVA.out; rw [hv] at this; cases this; exact ⟨rfl, rfl⟩
      have hvw := H.out.hv
      rw [hv] at hvw
      have hfw := (hvw.lt fw rfl).2
      have hw0 := wcells_at hx
      have e0 := HB.out.cell (p := ⟨fw, ow + k * 2, none⟩) hfw
      have e1 := HB.out.cell (p := ⟨fw, ow + k * 2 + 1, none⟩) hfw
      rw [hvw.cells (k * 2) (by omega), hw0.1] at e0
      rw [Nat.add_assoc, hvw.cells (k * 2 + 1) (by omega), hw0.2, ← Nat.add_assoc, hxv] at e1
      obtain ⟨z, hz⟩ : ∃ z, x.id = z := ⟨_, rfl⟩
      rw [hz] at e0
      have HX := Lib.hid hx
      have HZ := Lib.hid hz
      have HFC := Lib.hid hfc
      clear hx hxv hz hw0 hv hvw hfc c1
      go_upto_region 4 with fail
      obtain ⟨w3, hw3⟩ : ∃ w3, wr.alloc (.cells #[.int .i64 z, .slice (some ⟨f, o, none⟩) s.rd.length cp] 60) = w3 := ⟨_, rfl⟩
      rw [hw3]
      have B3 : Below wr.heap.size wr w3 := by rw [← hw3]; exact (Below.refl _ _).alloc (Nat.le_refl _) _
      have HB3 := Lib.hid (HB.out.trans (B3.mono HB.out.size))
      have j0 : w3.cell? ⟨wr.heap.size, 0, none⟩ = some (.int .i64 z) := by rw [← hw3]; simp
      have j1 : w3.cell? ⟨wr.heap.size, 1, none⟩ = some (.slice (some ⟨f, o, none⟩) s.rd.length cp) := by rw [← hw3]; simp
      obtain ⟨J, hJ⟩ : ∃ J, wr.heap.size = J := ⟨_, rfl⟩
      rw [hJ] at j0 j1 ⊢
      have hbs := HB3.out.size
      clear hw3 B3 hJ HB e0 e1
      by_cases hid : z = id
      · have hd : (z == id) = true := by simpa using hid
        have HID := Lib.hid hid
        clear hid
        have hrest : Hid (∀ e' w', ApPost ((w3.alloc (.cells #[.pointer (some ⟨g, 0, none⟩)] 23)).alloc (.cells #[.int .i64 z, .slice (some ⟨f, o, none⟩) s.rd.length cp] 60)) (blkd s.rd x.l s.rd.length) e' w' → ∃ ov, e' = .returned ov ∧ Win w' w.heap.size 3 1 ov (blocksOf s id).length (natsOf (blocksOf s id)) ∧ Below w.heap.size w w') := Lib.hid (by
          rintro e' w' ⟨ov, rfl, q1, q2⟩
          have q3 := (HB3.out.alloc HB3.out.size (.cells #[.pointer (some ⟨g, 0, none⟩)] 23)).alloc (by simp; omega) (.cells #[.int .i64 z, .slice (some ⟨f, o, none⟩) s.rd.length cp] 60)
          rw [blocksOf_at HX.out (HZ.out.trans HID.out) HN.out]
          exact ⟨ov, rfl, q1.of_base (by simp; omega), q3.trans (q2.mono q3.size)⟩)
        have hcall : Hid (Calls Try.prog 30 #[.func (.func 32) #[] #[.pointer (some ⟨w3.heap.size, 0, none⟩), .pointer (some ⟨w3.heap.size + 1, 0, none⟩)]] ((w3.alloc (.cells #[.pointer (some ⟨g, 0, none⟩)] 23)).alloc (.cells #[.int .i64 z, .slice (some ⟨f, o, none⟩) s.rd.length cp] 60))
            (ApPost ((w3.alloc (.cells #[.pointer (some ⟨g, 0, none⟩)] 23)).alloc (.cells #[.int .i64 z, .slice (some ⟨f, o, none⟩) s.rd.length cp] 60)) (blkd s.rd x.l s.rd.length))) := Lib.hid (by
          obtain ⟨W3, hW3⟩ : ∃ W3, (w3.alloc (.cells #[.pointer (some ⟨g, 0, none⟩)] 23)).alloc (.cells #[.int .i64 z, .slice (some ⟨f, o, none⟩) s.rd.length cp] 60) = W3 := ⟨_, rfl⟩
          have hs3 : W3.heap.size = w3.heap.size + 2 := by rw [← hW3]; simp
          have q3 : Below w.heap.size w W3 := by rw [← hW3]; exact (HB3.out.alloc HB3.out.size _).alloc (by simp; omega) _
          have hbg : W3.cell? ⟨w3.heap.size, 0, none⟩ = some (.pointer (some ⟨g, 0, none⟩)) := by
            rw [← hW3, World.cell?_alloc_lt _ _ _ (by simp)]
            exact World.cell?_alloc_new w3 #[.pointer (some ⟨g, 0, none⟩)] 23 0
          have hbw : W3.cell? ⟨w3.heap.size + 1, 1, none⟩ = some (.slice (some ⟨f, o, none⟩) s.rd.length cp) := by
            rw [← hW3]
            have := World.cell?_alloc_new (w3.alloc (.cells #[.pointer (some ⟨g, 0, none⟩)] 23)) #[.int .i64 z, .slice (some ⟨f, o, none⟩) s.rd.length cp] 60 1
            simp only [World.size_alloc] at this
            exact this
          rw [hW3]
          refine (callsIn_wide (n := 4)).1 (collect_in 4 (by omega) _ _ _ (append_in 3 (by omega) w3.heap.size (w3.heap.size + 1) g rb f o cp s.rd x.l W3 H.out.n8 (by omega) hbg ((q3.cell (p := ⟨g, 0, none⟩) hlg).trans C0.out) hbw
            (fun j hj => ⟨(q3.cell (p := ⟨rb, j * 2, none⟩) hlr).trans ((H.out.hr.cell _).trans (rd_at hj).1), (q3.cell (p := ⟨rb, j * 2 + 1, none⟩) hlr).trans ((H.out.hr.cell _).trans (rd_at hj).2)⟩)
            (fun j hj => (q3.cell (p := ⟨f, o + j, none⟩) hfl).trans (HFC.out j hj)))))
        go_wp2_with (first | (go_at_call 29; refine ((callsIn_wide (n := 1)).1 (blocking_in 1 _ _ _ _)).mono ?_; rintro e w4 ⟨rfl, rfl⟩) | (go_at_call 30; refine hcall.out.mono ?_; intro e' w5 hp; have HP := Lib.hid (hrest.out e' w5 hp); obtain ⟨ov, rfl, _⟩ := hp))
        go_ret
        exact HP.out
      · have hd : (z == id) = false := by simpa using hid
        have HID := Lib.hid hid
        clear hid
        go_wp2_with fail
        go_roundw
        case rel =>
          refine ⟨k + 1, by omega, by go_num, Lib.hid ?_, HB3⟩
          intro y hy
          rw [List.take_add_one, HX.out] at hy
          rcases List.mem_append.1 hy with hy | hy
          · exact HN.out y hy
          · simp at hy
            rw [hy, HZ.out]; exact HID.out
        case measure => simp [intOf]; omega
    · obtain rfl : k = s.wt.length := by omega
      go_wp2_with fail
      go_ret
      rw [blocksOf_no (by simpa using HN.out)]
      exact ⟨_, rfl, by simpa [natsOf] using Win.nil _ _ 3 1, HB.out⟩
end
end Go.Proofs.Ytedfegbafjmkgaa
