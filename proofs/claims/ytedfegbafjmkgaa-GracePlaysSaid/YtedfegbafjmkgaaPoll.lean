/- Chapter 4: Poll. -/
import Derived.Test.YtedfegbafjmkgaaPollKit
namespace Go.Proofs.Ytedfegbafjmkgaa
open Go.RowKit Go.Shelf

attribute [local go_sem] Oper.semAt_some

section
variable {F : Fence} {n : Nat} {P : Program} {Q : Exit → Act → World → Prop} {a : Act} {w : World} {b : Frame} {k : List Item} {cs : List Frame}
theorem stepR_scope {c : Code} : step P (lone (b.atR a (.code (.scope c) :: k)) cs w) = .next (lone (b.atR a (.code c :: .inScope c :: k)) cs w) :=
  step_lone_go (by simp [stepG, stepG.exec, Frame.atR])
theorem stepR_inScope {c : Code} : step P (lone (b.atR a (.inScope c :: k)) cs w) = .next (lone (b.atR a k) cs w) :=
  step_lone_go (by simp [stepG, stepG.exec, Frame.atR])
/-- A scope that no goto leaves, within a fence. -/
theorem wpIn_scope {c : Code} (h : c.wpIn F n P (Exit.noGoto Q) a w) : (Code.scope c).wpIn F n P Q a w := by
  intro b k cs hro hb hr
  have h0 : (lone (b.atR a (.code (.scope c) :: k)) cs w).fenced P F := fenced_calm hb hr rfl
  obtain ⟨e, a₁, w₁, hq, harr⟩ := h b (.inScope c :: k) cs hro hb hr
  cases e with
  | normal => exact ⟨.normal, a₁, w₁, hq, .head h0 stepR_scope (StepsIn.trans harr (.one (fenced_calm hb hr rfl) stepR_inScope))⟩
  | exit id =>
    have hx : exitTo id (.inScope c :: k) = exitTo id k := by simp [exitTo]
    exact ⟨.exit id, a₁, w₁, hq, fun k' hk => .head h0 stepR_scope (harr.1 k' (by rw [hx]; exact hk)),
      fun hr' hk => let ⟨k₁, h1, h2⟩ := harr.2 hr' (by rw [hx]; exact hk); ⟨k₁, h1, .head h0 stepR_scope h2⟩⟩
  | goto l => exact hq.elim
  | ret => exact ⟨_, a₁, w₁, hq, .of_steps (.one h0 stepR_scope) harr⟩
  | panic ch => exact ⟨_, a₁, w₁, hq, .of_steps (.one h0 stepR_scope) harr⟩
  | outgrown => exact ⟨_, a₁, w₁, hq, .of_steps (.one h0 stepR_scope) harr⟩
end

def free (rd : List (Int × Int)) (x : WE) : Bool := (blkd rd x.l rd.length).isEmpty
def keptOf (s : GS) (i : Nat) : List WE := (s.wt.take i).filter fun x => !free s.rd x
def outOf (s : GS) (i : Nat) : List Int := ((s.wt.take i).filter (free s.rd)).map WE.id
theorem poll_free {s : GS} {i : Nat} {x : WE} (hx : s.wt[i]? = some x) (hf : free s.rd x = true) : keptOf s (i + 1) = keptOf s i ∧ outOf s (i + 1) = outOf s i ++ [x.id] := by
  simp [keptOf, outOf, List.take_add_one, hx, hf, List.filter_append]
theorem poll_kept {s : GS} {i : Nat} {x : WE} (hx : s.wt[i]? = some x) (hf : free s.rd x = false) : keptOf s (i + 1) = keptOf s i ++ [x] ∧ outOf s (i + 1) = outOf s i := by
  simp [keptOf, outOf, List.take_add_one, hx, hf, List.filter_append]

set_option maxRecDepth 100000 in
set_option maxHeartbeats 4000000 in
theorem poll_in (n : Nat) (hn : 3 ≤ n) {w : World} {base g rb : Nat} {v : Value} {s : GS} (h : Gr w base g rb v s) :
    CallsIn Fence.wide n Try.prog 13 #[.pointer (some ⟨g, 0, none⟩)] w fun e X => ∃ lv ov W Ds, e = .returned ov ∧ PI w W lv ov (keptOf s s.wt.length) (outOf s s.wt.length) ∧ Marks w.heap.size W Ds ∧ Frm Ds (W.setCell ⟨g, 1, none⟩ lv) X := by
  have h1 : 1 ≤ n := by omega
  have hlg := h.hg.lt
  have hlr := h.hr.lt
  have c0 : w.cell? ⟨g, 0, none⟩ = some (.slice (some ⟨rb, 0, none⟩) s.rd.length s.rd.length) := h.hg.cell 0
  have c1 : w.cell? ⟨g, 1, none⟩ = some v := h.hg.cell 1
  have f1 := h.hg.free
  have hm16 := h.m16
  have hn8 := h.n8
  obtain ⟨va, vc, hva⟩ := h.hv.value
  have HVA := Lib.hid hva
  have H := Lib.hid h
  clear h
  obtain ⟨i60, hi60, hz60, hs60, hb60⟩ := info_parts info60
  obtain ⟨i2, hi2, hz2, hs2, hb2⟩ := info_parts info2
  refine callsIn_of_wp_marks Try.func13 rfl trivial ?_ rfl
  simp only [Try.ntmps13, List.size_toArray, List.length_cons, List.length_nil, Nat.reduceAdd, Nat.reduceSub, Array.replicate_succ, Array.replicate_zero, List.push_toArray, List.append_toArray, List.nil_append, List.cons_append]
  gi_wp2
  refine wpIn_scope ?_
  subst hva
  gi_wp2
  refine wpIn_label ?_
  gi_wp2
  have bL := Boxed.new w 52 (.slice none 0 0)
  have P0 : PI w (w.alloc (.cells #[.slice none 0 0] 52)) (.slice none 0 0) (.slice none 0 0) (keptOf s 0) (outOf s 0) := ⟨bL, by simpa [keptOf, wcells] using World.ownsRow_nil _ _ _ _, by simpa [outOf] using World.ownsRow_nil _ _ _ _, (Below.refl _ _).alloc (Nat.le_refl _) _⟩
  refine wpIn_loop (fun a' W' => ∃ (i : Nat) (Ds : List Nat) (lv ov b6 u13 u14 u15 u16 u17 u18 u19 u20 u21 u22 u23 u24 u25 u26 u27 u28 u29 : Value), i ≤ s.wt.length ∧ PI w W' lv ov (keptOf s i) (outOf s i) ∧ Marks w.heap.size W' Ds ∧ a' = { tmps := #[.pointer (some ⟨g, 0, none⟩), undef, .slice none 0 0, ov, .pointer (some ⟨w.heap.size, 0, none⟩), undef, b6, .pointer (some ⟨g, 0, none⟩), .pointer (some ⟨g, 0, none⟩), .pointer (some ⟨g, 1, none⟩), .slice va s.wt.length vc, .int .i64 (s.wt.length : Int), .int .i64 (i : Int), u13, u14, u15, u16, u17, u18, u19, u20, u21, u22, u23, u24, u25, u26, u27, u28, u29, undef, undef, undef, undef, undef], defers := Ds.map mk }) (fun a' _ => s.wt.length - (intOf (a'.tmps.getD 12 undef)).toNat) ?_ ?_
  · exact ⟨0, [], _, _, _, _, _, _, _, _, _, _, _, _, _, _, _, _, _, _, _, _, by omega, P0, ⟨List.nodup_nil, by simp⟩, rfl⟩
  · rintro a' W ⟨i, Ds, lv, ov, b6, u13, u14, u15, u16, u17, u18, u19, u20, u21, u22, u23, u24, u25, u26, u27, u28, u29, hi, HP, HM, rfl⟩
    clear P0 bL
    by_cases hlt : i < s.wt.length
    · have hi0 : (0 : Int) ≤ (i : Int) := by omega
      have hi1 : (i : Int) < (s.wt.length : Int) := by omega
      obtain ⟨x, hx⟩ : ∃ x, s.wt[i]? = some x := ⟨_, List.getElem?_eq_getElem hlt⟩
      obtain ⟨f, o, cp, hxv, hfb, hfl, hfc⟩ := (H.out.hs x (List.mem_of_getElem? hx)).laid
      obtain ⟨fw, ow, cw, hv⟩ := H.out.hv.form (by omega)
      cases hv
      have hfw := (H.out.hv.lt fw rfl).2
      have hw0 := wcells_at hx
      have e0 := HP.bel.cell (p := ⟨fw, ow + i * 2, none⟩) hfw
      have e1 := HP.bel.cell (p := ⟨fw, ow + i * 2 + 1, none⟩) hfw
      rw [H.out.hv.cells (i * 2) (by omega), hw0.1] at e0
      rw [Nat.add_assoc, H.out.hv.cells (i * 2 + 1) (by omega), hw0.2, ← Nat.add_assoc, hxv] at e1
      obtain ⟨z, hz⟩ : ∃ z, x.id = z := ⟨_, rfl⟩
      rw [hz] at e0
      have HX := Lib.hid hx
      have HXV := Lib.hid hxv
      have HZ := Lib.hid hz
      have hsz := HP.bel.size
      clear hx hxv hz hw0 c0 c1
      gi_wp2_with (refine ⟨trivial, ?_⟩; gi_at_call 29; refine (blocking_in (n - 1) _ _ _ _).mono ?_; rintro e w' ⟨rfl, rfl⟩)
      try simp only [World.size_alloc]
      obtain ⟨W3, hW3⟩ : ∃ W3, ((W.alloc (.cells #[.int .i64 z, .slice (some ⟨f, o, none⟩) s.rd.length cp] 60)).alloc (.cells #[.pointer (some ⟨g, 0, none⟩)] 23)).alloc (.cells #[.int .i64 z, .slice (some ⟨f, o, none⟩) s.rd.length cp] 60) = W3 := ⟨_, rfl⟩
      have hs3 : W3.heap.size = W.heap.size + 3 := by rw [← hW3]; simp
      have P3 : PI w W3 lv ov (keptOf s i) (outOf s i) := by rw [← hW3]; exact ((HP.alloc _).alloc _).alloc _
      have M3 : Marks w.heap.size W3 Ds := by
        rw [← hW3]
        exact ((HM.keep (KeepsOthers.alloc _ _).same).keep (KeepsOthers.alloc _ _).same).keep (KeepsOthers.alloc _ _).same
      have hbx : W3.heap[W.heap.size]? = some (.cells #[.int .i64 z, .slice (some ⟨f, o, none⟩) s.rd.length cp] 60 (0, 0)) := by
        rw [← hW3]
        exact (((Below.refl _ _).alloc (Nat.le_refl _) _).block W.heap.size (by simp; omega)).trans ((((Below.refl _ _).alloc (Nat.le_refl _) _).block W.heap.size (by simp)).trans (World.alloc_heap_new _ _))
      have hbg : W3.cell? ⟨W.heap.size + 1, 0, none⟩ = some (.pointer (some ⟨g, 0, none⟩)) := by
        rw [← hW3, World.cell?_alloc_lt _ _ _ (by simp)]
        have := World.cell?_alloc_new (W.alloc (.cells #[.int .i64 z, .slice (some ⟨f, o, none⟩) s.rd.length cp] 60)) #[.pointer (some ⟨g, 0, none⟩)] 23 0
        rw [World.size_alloc] at this
        exact this
      have hbw : W3.cell? ⟨W.heap.size + 1 + 1, 1, none⟩ = some (.slice (some ⟨f, o, none⟩) s.rd.length cp) := by
        rw [← hW3]
        have := World.cell?_alloc_new ((W.alloc (.cells #[.int .i64 z, .slice (some ⟨f, o, none⟩) s.rd.length cp] 60)).alloc (.cells #[.pointer (some ⟨g, 0, none⟩)] 23)) #[.int .i64 z, .slice (some ⟨f, o, none⟩) s.rd.length cp] 60 1
        simp only [World.size_alloc] at this
        exact this
      rw [hW3]
      obtain ⟨Bx, hBx⟩ : ∃ Bx, W.heap.size = Bx := ⟨_, rfl⟩
      rw [hBx] at hbx hbg hbw hs3 hsz ⊢
      have hmB : ∀ D ∈ Ds, D < W3.heap.size := M3.lt
      have HST := blk_stops (n - 1) (by omega) (Bx + 1) (Bx + 1 + 1) g rb f o cp s.rd x.l W3 hn8 (by omega) hbg ((P3.bel.cell (p := ⟨g, 0, none⟩) hlg).trans (H.out.hg.cell 0)) hbw
        (fun j hj => ⟨(P3.bel.cell (p := ⟨rb, j * 2, none⟩) hlr).trans ((H.out.hr.cell _).trans (rd_at hj).1), (P3.bel.cell (p := ⟨rb, j * 2 + 1, none⟩) hlr).trans ((H.out.hr.cell _).trans (rd_at hj).2)⟩)
        (fun j hj => (P3.bel.cell (p := ⟨f, o + j, none⟩) hfl).trans (hfc j hj))
      have hB3 : w.heap.size ≤ W3.heap.size := by omega
      clear hW3 HP HM hbg hbw e0 e1
      refine wpIn_rangeFunc_ownH rfl h1 (gf := 32) (lb := #[.pointer (some ⟨Bx + 1, 0, none⟩), .pointer (some ⟨Bx + 1 + 1, 0, none⟩)]) rfl trivial (enters_of Try.func32 (by kernel_rfl) rfl) HST
        (fun {A B C} => KL.trans) (KL.put (by intro k hk; simp at hk; omega)) (Below.refl _ _) (fun _ => rfl)
        (fun pre X => pre = [] ∧ PI w X lv ov (keptOf s i) (outOf s i) ∧ Marks w.heap.size X Ds ∧ X.heap[Bx]? = some (.cells #[.int .i64 z, .slice (some ⟨f, o, none⟩) s.rd.length cp] 60 (0, 0)))
        (fun c pre X => c = .exit 1 ∧ pre ≠ [] ∧ ∃ lv', PI w X lv' ov (keptOf s i ++ [x]) (outOf s i) ∧ Marks w.heap.size X Ds)
        (fun pre X Y row hs hg hr => ⟨hs.1, PI.own hB3 pre X Y row hs.2.1 hg hr, marks_own hmB pre X Y row hs.2.2.1 hg hr, (block_own (β := List Nat) Bx _ 60).from _ pre X Y row hs.2.2.2 hg hr⟩)
        (fun c pre X Y row hs hg hr => ⟨hs.1, hs.2.1, hs.2.2.elim fun lv' q => ⟨lv', PI.own hB3 pre X Y row q.1 hg hr, marks_own hmB pre X Y row q.2 hg hr⟩⟩)
        ⟨rfl, P3, M3, hbx⟩
        (fun (xx : Nat) a' _ => a' = { tmps := #[.pointer (some ⟨g, 0, none⟩), undef, .slice none 0 0, ov, .pointer (some ⟨w.heap.size, 0, none⟩), undef, .pointer (some ⟨Bx, 0, none⟩), .pointer (some ⟨g, 0, none⟩), .pointer (some ⟨g, 0, none⟩), .pointer (some ⟨g, 1, none⟩), .slice (some ⟨fw, ow, none⟩) s.wt.length vc, .int .i64 (s.wt.length : Int), .int .i64 (i : Int), .bool true, .pointer (some ⟨fw, ow + i * 2, none⟩), .agg #[.int .i64 z, .slice (some ⟨f, o, none⟩) s.rd.length cp], .pointer (some ⟨g, 0, none⟩), .agg #[.int .i64 z, .slice (some ⟨f, o, none⟩) s.rd.length cp], .func (.func 32) #[] #[.pointer (some ⟨Bx + 1, 0, none⟩), .pointer (some ⟨Bx + 1 + 1, 0, none⟩)], .int .i64 (xx : Int), u20, u21, u22, u23, u24, u25, u26, u27, u28, u29, undef, undef, undef, undef, undef], defers := [] })
        (fun _ _ _ _ _ _ h _ _ => h) ?assign ?body ?done ?stop
      case assign =>
        rintro l pre xx X K hI hK
        gi_wp2
        exact hK _ _ (KeepsFrom.refl _ _) (KL.refl _ _) hI rfl
      case body =>
        rintro l pre xx a' X hl hr ⟨rfl, hP, hM, hbX⟩ rfl hlt
        have hc := hP.box.cell
        have b0 : X.cell? ⟨Bx, 0, none⟩ = some (.int .i64 z) := by simp [World.cell?, hbX]
        have b1 : X.cell? ⟨Bx, 1, none⟩ = some (.slice (some ⟨f, o, none⟩) s.rd.length cp) := by simp [World.cell?, hbX]
        have hkl : (keptOf s i).length ≤ 16 := by
          refine Nat.le_trans (List.length_filter_le _ _) ?_
          rw [List.length_take]; omega
        have hxs := hP.bel.size
        gi_wp2_with (gi_at_builtin; refine wpListIn_append_own _ rfl _ _ 52 rfl w.heap.size 60 i60 _ 2 32 Try.underlying52 hi60 hz60 hs60 hb60 rfl (by decide) _ _ _ rfl (hP.lrow.alloc _) ⟨X.heap.size, 0, none⟩ 1 1 [.int .i64 z, .slice (some ⟨f, o, none⟩) s.rd.length cp] rfl rfl (new_cells _ _ _) (by simp [Value.oneCell']) (by unfold maxLen; omega) (by omega) (by simp; omega) ?_; intro v' w1 hown' hgrow _; obtain ⟨g', cap', rfl⟩ := ownsRow_succ hown'; obtain ⟨hv1, hv2, hr2, hk2, hb2⟩ := hP.box.appended (by decide) hP.lrow hxs (Nat.le_refl _) hown' hgrow; have hc1 := hv1.cell; have hf1 := hv1.frozen)
        refine ⟨hk2.from _, rfl, by simp, _, hP.kept hgrow hv1 hv2 ?_ hb2, hM.keep hk2.same⟩
        rw [HZ.out, HXV.out]
        exact hr2
      case done =>
        rintro D ys X hD rfl ⟨hnil, hP, hM, hbX⟩ hK
        dsimp only
        have b0 : X.cell? ⟨Bx, 0, none⟩ = some (.int .i64 z) := by simp [World.cell?, hbX]
        have hfr : free s.rd x = true := by simp [free, hnil]
        have HPF := Lib.hid (poll_free HX.out hfr)
        have hol : (outOf s i).length ≤ 16 := by
          unfold outOf
          rw [List.length_map]
          refine Nat.le_trans (List.length_filter_le _ _) ?_
          rw [List.length_take]; omega
        have hxs := hP.bel.size
        clear hnil hfr
        gi_wp2_with (gi_at_builtin; refine wpListIn_append_own _ rfl _ _ 35 rfl w.heap.size 2 i2 _ 1 8 Try.underlying35 hi2 hz2 hs2 hb2 rfl (by decide) _ _ _ rfl (hP.orow.alloc _) ⟨X.heap.size, 0, none⟩ 1 1 [.int .i64 z] rfl rfl (new_cells _ _ _) (by simp [Value.oneCell']) (by unfold maxLen; omega) (by omega) (by simp; omega) ?_; intro v' w1 hown' hgrow _; have HO := Lib.hid hown'; have HG := Lib.hid hgrow; clear hown' hgrow)
        have kk := (KeepsOthers.alloc X _).trans (row_keeps (hP.orow.alloc _) HG.out)
        refine ⟨⟨i + 1, D :: Ds, lv, v', _, _, _, _, _, _, _, _, _, _, _, _, _, _, _, _, _, _, by omega, ?_, (hM.keep kk.same).cons hmB hD hB3 (kk.same _ _ hK rfl), rfl⟩, ?_⟩
        · rw [HPF.out.1, HPF.out.2, HZ.out]
          exact hP.told HO.out HG.out
        · simp [intOf]; omega
      case stop =>
        rintro D c pre X hD ⟨k, hk, rfl⟩ ⟨rfl, hne, lv', hP, hM⟩ hK
        dsimp only
        have hfr : free s.rd x = false := by
          have := blkd_more hk hne
          simpa [free] using this
        have HPF := Lib.hid (poll_kept HX.out hfr)
        clear hfr hne
        gi_wp2
        refine ⟨⟨i + 1, D :: Ds, lv', ov, _, _, _, _, _, _, _, _, _, _, _, _, _, _, _, _, _, _, by omega, ?_, hM.cons hmB hD hB3 hK, rfl⟩, ?_⟩
        · rw [HPF.out.1, HPF.out.2]
          exact hP
        · simp [intOf]; omega
    · obtain rfl : i = s.wt.length := by omega
      obtain ⟨la, lc, rfl⟩ : ∃ la lc, lv = .slice la (keptOf s s.wt.length).length lc := by
        rcases HP.lrow.2 with ⟨e, q⟩ | ⟨g', c', _, e, _⟩
        · exact ⟨none, 0, by rw [e, q]⟩
        · exact ⟨_, _, e⟩
      have hc := HP.box.cell
      have g1 := (HP.bel.cell (p := ⟨g, 1, none⟩) hlg).trans c1
      have g2 := (HP.bel.frozen (p := ⟨g, 1, none⟩) hlg).trans (f1 1)
      gi_wp2
      refine leaves_marks (fun X => results_tmp rfl _ _ _) Ds _ HM.1 (fun D hD => (KeepsOthers.setCell _ _ _).same _ _ (HM.2 D hD).2 rfl) (fun X hX => ⟨_, ov, W, Ds, rfl, HP, HM, hX⟩)
end Go.Proofs.Ytedfegbafjmkgaa
