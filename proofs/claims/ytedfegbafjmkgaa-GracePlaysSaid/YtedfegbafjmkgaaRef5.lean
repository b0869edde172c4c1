/- Chapter 4, the document's answer: Poll. -/
import Derived.Test.YtedfegbafjmkgaaRef4
namespace Go.Proofs.Ytedfegbafjmkgaa
open Go.RowKit

def rfree (x : RE) : Bool := (trues x.who).isEmpty
def rkept (t : RS) (k : Nat) : List RE := (t.l.take k).filter fun x => !rfree x
def rout (t : RS) (k : Nat) : List Int := ((t.l.take k).filter rfree).map RE.id
theorem rpoll_free {t : RS} {i : Nat} {x : RE} (hx : t.l[i]? = some x) (hf : rfree x = true) : rkept t (i + 1) = rkept t i ∧ rout t (i + 1) = rout t i ++ [x.id] := by
  simp [rkept, rout, List.take_add_one, hx, hf, List.filter_append]
theorem rpoll_kept {t : RS} {i : Nat} {x : RE} (hx : t.l[i]? = some x) (hf : rfree x = false) : rkept t (i + 1) = rkept t i ++ [x] ∧ rout t (i + 1) = rout t i := by
  simp [rkept, rout, List.take_add_one, hx, hf, List.filter_append]
/-- Poll on its way. -/
structure RP (w W : World) (lv ov : Value) (K : List RE) (O : List Int) : Prop where
  l : Win W w.heap.size 70 2 lv K.length (recells K)
  o : Win W w.heap.size 2 1 ov O.length (O.map (Value.int .i64))
  bel : Below w.heap.size w W
section
variable {w W W' : World} {base gb ib : Nat} {v lv ov : Value} {t : RS} {K : List RE} {O : List Int}
theorem RP.on (h : RP w W lv ov K O) (hB : Below W.heap.size W W') : RP w W' lv ov K O := ⟨h.l.below hB, h.o.below hB, h.bel.trans (hB.mono h.bel.size)⟩
theorem Win.apart {b b' : Nat} {e e' : TypeId} {s s' n n' : Nat} {u u' : Value} {xs xs' : List Value} (h : Win W b e s u n xs) (h' : Win W b' e' s' u' n' xs') (hne : e ≠ e') : ∀ k, u.ownBlock = some k → u'.ownBlock ≠ some k := by
  intro k h1 h2
  rcases h.2 with ⟨e1, _⟩ | ⟨f, o, cap, cur, e1, _, h4, _⟩
  · rw [e1] at h1; cases h1
  · rcases h'.2 with ⟨e2, _⟩ | ⟨f', o', cap', cur', e2, _, h4', _⟩
    · rw [e2] at h2; cases h2
    · rw [e1] at h1; rw [e2] at h2
      cases h1; cases h2
      rw [h4] at h4'; cases h4'; exact hne rfl
theorem RP.told (h : RP w W lv ov K O) {tmp : Obj} {v' : Value} {z : Int} (ho : Win W' w.heap.size 2 1 v' (O.length + 1) (O.map (Value.int .i64) ++ [.int .i64 z])) (hg : (W.alloc tmp).grownBy W' ov.ownBlock) : RP w W' lv v' K (O ++ [z]) := by
  have f0 : Frm ov.ownBlock.toList W W' := ((Frm.refl _ _).alloc tmp).trans (Frm.of_grown hg (fun k hk _ => by rw [hk]; simp))
  exact ⟨h.l.frm f0 (fun k hk => h.o.apart h.l (by decide) k (by simpa using hk)), by simpa using ho, (h.bel.alloc h.bel.size tmp).grown hg (by have := h.bel.size; simp; omega) (fun k e => (h.o.lt k e).1)⟩
theorem RP.kept (h : RP w W lv ov K O) {tmp : Obj} {v' : Value} {x : RE} (ho : Win W' w.heap.size 70 2 v' (K.length + 1) (recells K ++ [.int .i64 x.id, x.v])) (hg : (W.alloc tmp).grownBy W' lv.ownBlock) : RP w W' v' ov (K ++ [x]) O := by
  have f0 : Frm lv.ownBlock.toList W W' := ((Frm.refl _ _).alloc tmp).trans (Frm.of_grown hg (fun k hk _ => by rw [hk]; simp))
  exact ⟨by simpa [recells, RE.cells] using ho, h.o.frm f0 (fun k hk => h.l.apart h.o (by decide) k (by simpa using hk)), (h.bel.alloc h.bel.size tmp).grown hg (by have := h.bel.size; simp; omega) (fun k e => (h.l.lt k e).1)⟩
/-- What Poll leaves. -/
theorem RP.rf (h : Rf w base gb ib v t) (hP : RP w W lv ov K O) (hK : K.Sublist t.l) : Rf (W.setCell ⟨gb, 1, none⟩ lv) base gb ib lv { t with l := K } ∧ Win (W.setCell ⟨gb, 1, none⟩ lv) w.heap.size 2 1 ov O.length (O.map (Value.int .i64)) ∧ TFrm [70, 4] base [gb, ib] w (W.setCell ⟨gb, 1, none⟩ lv) := by
  have f1 : Frm [gb] W (W.setCell ⟨gb, 1, none⟩ lv) := (Frm.refl _ _).setCell (by simp) _
  have hgl := h.hg.lt
  have hgb := h.gbb
  have row : ∀ {e size k : Nat} {u : Value} {xs : List Value}, Win W w.heap.size e size u k xs → Win (W.setCell ⟨gb, 1, none⟩ lv) w.heap.size e size u k xs := fun hw => hw.frm f1 (fun q hq e' => by have := (hw.lt q e').1; simp at hq; omega)
  refine ⟨⟨(h.hg.below hP.bel).set 1 lv (by simp), (h.hi.below hP.bel).frm f1 (by simpa using h.ne.symm), (row hP.l).of_base h.bs, fun x hx => ?_, List.Nodup.sublist (hK.map _) h.nd, h.n1, h.n8, Nat.le_trans hK.length_le h.m16, h.gbb, h.ibb, h.ne, Nat.le_trans h.bs (Nat.le_trans hP.bel.size f1.size)⟩, row hP.o, (TFrm.of_below hP.bel).trans (.of_frm f1 (by simp))⟩
  obtain ⟨f, e, a1, a2, a3⟩ := h.hs x (hK.subset hx)
  exact ⟨f, e, a1, (f1.block f (Nat.lt_of_lt_of_le (heapLt a2) hP.bel.size) (by simp; omega)).trans ((hP.bel.block f (heapLt a2)).trans a2), a3⟩
set_option maxRecDepth 100000 in
set_option maxHeartbeats 1000000 in
theorem rpoll_any (h : Rf w base gb ib v t) : Calls Try.prog 24 #[.pointer (some ⟨gb, 0, none⟩)] w fun e w' => ∃ lv ov, e = .returned ov ∧ Rf w' base gb ib lv { t with l := rkept t t.l.length } ∧ Win w' w.heap.size 2 1 ov (rout t t.l.length).length ((rout t t.l.length).map (Value.int .i64)) ∧ TFrm [70, 4] base [gb, ib] w w' := by
  have hlg := h.hg.lt
  have hn8 := h.n8
  have hm16 := h.m16
  obtain ⟨va, vc, hva⟩ := h.hv.value
  have HVA := Lib.hid hva
  have H := Lib.hid h
  clear h hva
  obtain ⟨i2, hi, hz0, hz1, hz2⟩ := info_parts info2
  obtain ⟨i70, hi70, hz70, hs70, hb70⟩ := info_parts info70
  go_enter Try.func24, Try.ntmps24
  go_wp2_with fail
  go_loopw [3, 4, 5] (fun ov lv iv wr => ∃ k : Nat, k ≤ t.l.length ∧ iv = .int .i64 k ∧ Hid (RP w wr lv ov (rkept t k) (rout t k))) (fun _ _ iv _ => t.l.length - (intOf iv).toNat)
  case atStart => exact ⟨0, by omega, rfl, Lib.hid ⟨by simpa [rkept, recells] using Win.nil _ _ 70 2, by simpa [rout] using Win.nil _ _ 2 1, Below.refl _ _⟩⟩
  case round =>
    obtain ⟨k, hk, rfl, HP⟩ := hrel
    have c1 : wr.cell? ⟨gb, 1, none⟩ = some (.slice va t.l.length vc) := by rw [← HVA.out]; exact (HP.out.bel.cell (p := ⟨gb, 1, none⟩) hlg).trans (H.out.hg.cell 1)
    have hlr := Nat.lt_of_lt_of_le hlg HP.out.bel.size
    by_cases hlt : k < t.l.length
    · have hk0 : (0 : Int) ≤ (k : Int) := by omega
      have hk1 : (k : Int) < (t.l.length : Int) := by omega
      obtain ⟨z, fw, ow, f, hz, rfl, hfw, e0, e1, e2, e3, e4⟩ := H.out.nth HVA.out hlt
      have HE0 := Lib.hid e0
      have HE1 := Lib.hid e1
      have d0 := (HP.out.bel.cell (p := ⟨fw, ow + k * 2, none⟩) hfw).trans e0
      have d1 := (HP.out.bel.cell (p := ⟨fw, ow + k * 2 + 1, none⟩) hfw).trans e1
      have HS := Lib.hid (some_any wr f t.ins.length z.who ((HP.out.bel.block f (heapLt e3)).trans e3) e4 hn8)
      have HZV := Lib.hid e2
      clear e0 e1 e2 e3 e4
      by_cases hf : rfree z = true
      · have HPF := Lib.hid (rpoll_free hz hf)
        have hnil : trues z.who = [] := by simpa [rfree] using hf
        have HNIL := Lib.hid hnil
        clear hnil hf hz
        obtain ⟨zi, hzi⟩ : ∃ x, z.id = x := ⟨_, rfl⟩
        rw [hzi] at HE0 HPF d0
        clear hzi
        have hol : (rout t k).length ≤ 16 := by
          unfold rout
          rw [List.length_map]
          refine Nat.le_trans (List.length_filter_le _ _) ?_
          rw [List.length_take]; omega
        go_upto_region 7 with (first | (go_at_call 31; refine HS.out.mono ?_; rintro e w4 ⟨sv, rfl, n4, b4⟩; rw [HNIL.out] at n4; have HP4 := Lib.hid (HP.out.on b4); obtain ⟨ps, cs, rfl⟩ : ∃ p c, sv = .slice p 0 c := n4.value; clear n4 b4))
        have c1 : w4.cell? ⟨gb, 1, none⟩ = some (.slice (some ⟨fw, ow, none⟩) t.l.length vc) := by rw [← HVA.out]; exact (HP4.out.bel.cell (p := ⟨gb, 1, none⟩) hlg).trans (H.out.hg.cell 1)
        have d0 := (HP4.out.bel.cell (p := ⟨fw, ow + k * 2, none⟩) hfw).trans HE0.out
        have hl4 := Nat.lt_of_lt_of_le hlg HP4.out.bel.size
        have hs4 := HP4.out.bel.size
        clear HP HS
        go_wp2_with (first | (at_builtin; go_must (refine wpList_append_win _ rfl (.tmp 26) (.tmp 35) 35 rfl w.heap.size 2 i2 _ 1 8 Try.underlying35 hi hz0 hz1 hz2 rfl (by decide) u3 (rout t k).length ((rout t k).map (Value.int .i64)) (by simp [Act.eval]) (HP4.out.o.alloc _) ⟨w4.heap.size, 0, none⟩ 1 1 [.int .i64 zi] (by simp [Act.eval]) rfl (new_cells w4 [.int .i64 zi] _) (by simp [Value.oneCell']) (by decide) (by unfold maxLen; omega) (by omega) (by simp; omega) ?_); intro f' o' cap' w5 hown hgrow hat; have HR := Lib.hid (HP4.out.told hown hgrow); clear hown hgrow hat))
        go_roundw
        case rel =>
          refine ⟨k + 1, by omega, by go_num, Lib.hid ?_⟩
          rw [HPF.out.1, HPF.out.2]; exact HR.out
        case measure => simp [intOf]; omega
      · have hf' : rfree z = false := by simpa using hf
        have HPF := Lib.hid (rpoll_kept hz hf')
        have hnil : (trues z.who).length ≠ 0 := by
          intro e
          rw [List.length_eq_zero_iff] at e
          exact hf (by simp [rfree, e])
        obtain ⟨tl, htl⟩ : ∃ tl, trues z.who = tl := ⟨_, rfl⟩
        rw [htl] at HS hnil
        have hnz : ((tl.length : Int) == 0) = false := by rw [beq_eq_false_iff_ne]; omega
        clear hf hf' hz htl hnil
        have hkl : (rkept t k).length ≤ 16 := by
          unfold rkept
          refine Nat.le_trans (List.length_filter_le _ _) ?_
          rw [List.length_take]; omega
        go_upto_region 8 with (first | (go_at_call 31; refine HS.out.mono ?_; rintro e w4 ⟨sv, rfl, n4, b4⟩; have HP4 := Lib.hid (HP.out.on b4); obtain ⟨ps, cs, rfl⟩ := n4.value; clear n4 b4))
        have c1 : w4.cell? ⟨gb, 1, none⟩ = some (.slice (some ⟨fw, ow, none⟩) t.l.length vc) := by rw [← HVA.out]; exact (HP4.out.bel.cell (p := ⟨gb, 1, none⟩) hlg).trans (H.out.hg.cell 1)
        have d0 := (HP4.out.bel.cell (p := ⟨fw, ow + k * 2, none⟩) hfw).trans HE0.out
        have d1 := (HP4.out.bel.cell (p := ⟨fw, ow + k * 2 + 1, none⟩) hfw).trans HE1.out
        have hl4 := Nat.lt_of_lt_of_le hlg HP4.out.bel.size
        have hs4 := HP4.out.bel.size
        clear HP HS
        go_wp2_with (first | (at_builtin; go_must (refine wpList_append_win _ rfl (.tmp 37) (.tmp 45) 65 rfl w.heap.size 70 i70 _ 2 32 Try.underlying65 hi70 hz70 hs70 hb70 rfl (by decide) u4 (rkept t k).length (recells (rkept t k)) (by simp [Act.eval]) (HP4.out.l.alloc _) ⟨w4.heap.size, 0, none⟩ 1 1 [.int .i64 z.id, .slice (some ⟨f, 0, none⟩) t.ins.length t.ins.length] (by simp [Act.eval]) rfl (new_cells w4 [.int .i64 z.id, .slice (some ⟨f, 0, none⟩) t.ins.length t.ins.length] _) (by simp [Value.oneCell']) (by decide) (by unfold maxLen; omega) (by omega) (by simp; omega) ?_); intro f' o' cap' w5 hown hgrow hat; rw [← HZV.out] at hown; have HR := Lib.hid (HP4.out.kept (x := z) hown hgrow); clear hown hgrow hat))
        go_roundw
        case rel =>
          refine ⟨k + 1, by omega, by go_num, Lib.hid ?_⟩
          rw [HPF.out.1, HPF.out.2]; exact HR.out
        case measure => simp [intOf]; omega
    · obtain rfl : k = t.l.length := by omega
      obtain ⟨la, lc, rfl⟩ := HP.out.l.value
      have g2 := (HP.out.bel.frozen (p := ⟨gb, 1, none⟩) hlg).trans (H.out.hg.free 1)
      have HF := Lib.hid (RP.rf H.out HP.out (by unfold rkept; rw [List.take_length]; exact List.filter_sublist))
      go_wp2_with fail
      go_ret
      exact ⟨_, _, rfl, HF.out⟩
end
end Go.Proofs.Ytedfegbafjmkgaa
