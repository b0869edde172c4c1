/- Chapter 4: Defer; what Poll leaves. -/
import Derived.Test.YtedfegbafjmkgaaOps
namespace Go.Proofs.Ytedfegbafjmkgaa
open Go.RowKit

section
variable {w w' : World} {base g rb : Nat} {v : Value} {s : GS}
/-- One more waits. -/
theorem Gr.push {w4 : World} {v' sv : Value} {id : Int} {li : List Int} {tmp : Obj} (h : Gr w base g rb v s) (hgrow : (w.alloc tmp).grownBy w4 v.ownBlock) (hown : Win w4 base 60 2 v' (s.wt.length + 1) (wcells s.wt ++ [.int .i64 id, sv]))
    (hsv : SinceAt w base s.rd.length sv li) (hm : s.wt.length < 16) :
    Gr (w4.setCell ⟨g, 1, none⟩ v') base g rb v' { s with wt := s.wt ++ [⟨id, sv, li⟩] } ∧ Frm (g :: v.ownBlock.toList) w (w4.setCell ⟨g, 1, none⟩ v') := by
  have f0 : Frm v.ownBlock.toList w w4 := ((Frm.refl _ _).alloc tmp).trans (Frm.of_grown hgrow (fun k hk _ => by rw [hk]; simp))
  have f1 : Frm [g] w4 (w4.setCell ⟨g, 1, none⟩ v') := (Frm.refl _ _).setCell (by simp) _
  have ob : ∀ k ∈ v.ownBlock.toList, base ≤ k := fun k hk => (h.hv.lt k (by simpa using hk)).1
  have hgb := h.gb
  have hrbb := h.rbb
  have hg4 := h.hg.frm f0 (fun hk => by have := ob g hk; omega)
  have hr4 := h.hr.frm f0 (fun hk => by have := ob rb hk; omega)
  have sn : ∀ x l, SinceAt w base s.rd.length x l → SinceAt (w4.setCell ⟨g, 1, none⟩ v') base s.rd.length x l := fun x l hx => by
    have a := hx.apart h.hv
    have q := hx.lt
    refine (hx.frm f0 (fun k hk hk' => a (hk.trans (show v.ownBlock = some k by simpa using hk').symm))).frm f1 (fun k hk hk' => ?_)
    have := (q k hk).1
    simp at hk'; omega
  refine ⟨⟨hg4.set 1 v' (by simp), hr4.frm f1 (by simpa using h.ne.symm), ?_, ?_, h.n1, h.n8, by simp; omega, h.gb, h.rbb, h.ne, ?_⟩, ?_⟩
  · have := hown.frm f1 (fun k hk e => by have := (hown.lt k e).1; simp at hk; omega)
    simpa [wcells, WE.cells] using this
  · intro x hx
    rcases List.mem_append.1 hx with hx | hx
    · exact sn _ _ (h.hs x hx)
    · rw [List.mem_singleton.1 hx]; exact sn _ _ hsv
  · exact Nat.le_trans h.bs (Nat.le_trans f0.size f1.size)
  · exact (f0.mono fun k hk => by simp [hk]).trans (f1.mono fun k hk => by simp at hk; simp [hk])
/-- What Poll leaves. -/
theorem PI.gr {W X : World} {lv ov : Value} {K : List WE} {O : List Int} {Ds : List Nat} (h : Gr w base g rb v s) (hP : PI w W lv ov K O) (hM : Marks w.heap.size W Ds) (hF : Frm Ds (W.setCell ⟨g, 1, none⟩ lv) X) (hK : ∀ x ∈ K, x ∈ s.wt) (hl : K.length ≤ s.wt.length) :
    Gr X base g rb lv { s with wt := K } ∧ Win X w.heap.size 2 1 ov O.length (O.map (Value.int .i64)) ∧ Frm [g] w X := by
  have hgl := h.hg.lt
  have hrl := h.hr.lt
  have hbs := h.bs
  have hDs : ∀ k, k < w.heap.size → k ∉ Ds := fun k hk hk' => by have := (hM.2 k hk').1; omega
  have f1 : Frm [g] W (W.setCell ⟨g, 1, none⟩ lv) := (Frm.refl _ _).setCell (by simp) _
  have fw : Frm [g] w (W.setCell ⟨g, 1, none⟩ lv) := ⟨f1.os.trans hP.bel.os, f1.tape.trans hP.bel.tape, f1.output.trans hP.bel.output, Nat.le_trans hP.bel.size f1.size, fun k hk hn => (f1.block k (Nat.lt_of_lt_of_le hk hP.bel.size) hn).trans (hP.bel.block k hk)⟩
  have fx : Frm [g] w X := ⟨hF.os.trans fw.os, hF.tape.trans fw.tape, hF.output.trans fw.output, Nat.le_trans fw.size hF.size, fun k hk hn => (hF.block k (Nat.lt_of_lt_of_le hk fw.size) (hDs k hk)).trans (fw.block k hk hn)⟩
  have row : ∀ {e size k : Nat} {u : Value} {xs : List Value}, W.ownsRow w.heap.size e size u k xs → Win X w.heap.size e size u k xs := fun {e size k u xs} hr => by
    have hw := Win.of_own hr
    have h1 := hw.frm f1 (fun q hq e' => by have := (hw.lt q e').1; simp at hq; omega)
    refine h1.frm hF (fun q hq e' => ?_)
    have hd := (hM.2 q hq).2
    rcases hr.2 with ⟨rfl, _⟩ | ⟨g', cap, cur, rfl, _, hgb, _⟩
    · simp [Value.ownBlock] at e'
    · obtain rfl : g' = q := by simpa [Value.ownBlock] using e'
      rw [hd] at hgb; cases hgb
  refine ⟨⟨((h.hg.below hP.bel).set 1 lv (by simp)).frm hF (hDs g hgl), ((h.hr.below hP.bel).frm f1 (by simpa using h.ne.symm)).frm hF (hDs rb hrl), (row hP.lrow).of_base hbs, fun x hx => ?_, h.n1, h.n8, Nat.le_trans hl h.m16, h.gb, h.rbb, h.ne, Nat.le_trans hbs fx.size⟩, row hP.orow, fx⟩
  have hx' := h.hs x (hK x hx)
  have q := hx'.lt
  have := h.gb
  exact hx'.frm fx (fun k hk hk' => by have := (q k hk).1; simp at hk'; omega)
theorem poll_any (h : Gr w base g rb v s) : Calls Try.prog 13 #[.pointer (some ⟨g, 0, none⟩)] w fun e X => ∃ lv ov, e = .returned ov ∧ Gr X base g rb lv { s with wt := keptOf s s.wt.length } ∧ Win X w.heap.size 2 1 ov (outOf s s.wt.length).length ((outOf s s.wt.length).map (Value.int .i64)) ∧ Frm [g] w X := by
  refine ((callsIn_wide (n := 3)).1 (poll_in 3 (by omega) h)).mono ?_
  rintro e X ⟨lv, ov, W, Ds, rfl, hP, hM, hF⟩
  obtain ⟨h1, h2, h3⟩ := PI.gr h hP hM hF (fun x hx => by
    simp only [keptOf, List.take_length, List.mem_filter] at hx
    exact hx.1) (by simp only [keptOf, List.take_length]; exact List.length_filter_le _ _)
  exact ⟨lv, ov, rfl, h1, h2, h3⟩
theorem defer_full (h : Gr w base g rb v s) {id : Int} (hm : 16 ≤ s.wt.length) : Calls Try.prog 12 #[.pointer (some ⟨g, 0, none⟩), .int .i64 id] w fun e w' => e = .returned (.tuple #[.bool false, .int .i64 13]) ∧ w = w' := by
  have c1 : w.cell? ⟨g, 1, none⟩ = some v := h.hg.cell 1
  have hlg := h.hg.lt
  obtain ⟨va, vc, hva⟩ := h.hv.value
  rw [hva] at c1
  have d : (s.wt.length : Int) ≥ 16 := by omega
  clear h hva
  go_enter Try.func12, Try.ntmps12
  go_wp2_with fail
  go_ret2
  exact ⟨rfl, rfl⟩
/-- How often those that are inside had left; below 0: not inside. -/
def sinceOf (rd : List (Int × Int)) : List Int := rd.map fun x => if 0 < x.1 then x.2 else -1
theorem since_succ {rd : List (Int × Int)} {k : Nat} (hk : k < rd.length) : ((sinceOf rd).take (k + 1)).map (Value.int .i64) = ((sinceOf rd).take k).map (Value.int .i64) ++ [.int .i64 (if 0 < (rd.getD k (0, 0)).1 then (rd.getD k (0, 0)).2 else -1)] := by
  rw [List.take_add_one]
  simp [sinceOf, List.getElem?_eq_getElem hk, List.getD_eq_getElem?_getD]
set_option maxRecDepth 100000 in
set_option maxHeartbeats 2000000 in
theorem defer_new (h : Gr w base g rb v s) {id : Int} (hm : s.wt.length < 16) : Calls Try.prog 12 #[.pointer (some ⟨g, 0, none⟩), .int .i64 id] w fun e w' => ∃ sv v', e = .returned (.tuple #[.bool (((inside s.rd s.rd.length).length : Int) == 0), .int .i64 0]) ∧
    Gr w' base g rb v' { s with wt := s.wt ++ [⟨id, sv, sinceOf s.rd⟩] } ∧ Frm (g :: v.ownBlock.toList) w w' ∧ (∀ k, sv.ownBlock = some k → w.heap.size ≤ k) := by
  have c0 : w.cell? ⟨g, 0, none⟩ = some (.slice (some ⟨rb, 0, none⟩) s.rd.length s.rd.length) := h.hg.cell 0
  have c1 : w.cell? ⟨g, 1, none⟩ = some v := h.hg.cell 1
  have f1 := h.hg.free
  have hlg := h.hg.lt
  have hlr := h.hr.lt
  have hn8 := h.n8
  have hn1 := h.n1
  obtain ⟨va, vc, hva⟩ := h.hv.value
  rw [hva] at c1
  have HVA := Lib.hid hva
  have H := Lib.hid h
  have hm' : ¬ (s.wt.length : Int) ≥ 16 := by omega
  have hsl : (sinceOf s.rd).length = s.rd.length := by simp [sinceOf]
  clear h hva
  obtain ⟨i3, hi, hz0, hz1, hz2⟩ := info_parts info3
  obtain ⟨i60, hi60, hz60, hs60, hb60⟩ := info_parts info60
  go_enter Try.func12, Try.ntmps12
  go_upto_region 4 with fail
  have HB0 := Holds.new w #[.int .i64 id, .slice none 0 0] 60
  have B0 : Below w.heap.size w (w.alloc (.cells #[.int .i64 id, .slice none 0 0] 60)) := (Below.refl _ _).alloc (Nat.le_refl _) _
  have HH := Lib.hid HB0
  have HBB := Lib.hid B0
  obtain ⟨w1, hw1⟩ : ∃ w1, w.alloc (.cells #[.int .i64 id, .slice none 0 0] 60) = w1 := ⟨_, rfl⟩
  rw [hw1] at HH HBB ⊢
  have d0 : w1.cell? ⟨g, 0, none⟩ = some (.slice (some ⟨rb, 0, none⟩) s.rd.length s.rd.length) := (HBB.out.cell (p := ⟨g, 0, none⟩) hlg).trans c0
  have hs1 := HBB.out.size
  clear HB0 B0 hw1 c0
  obtain ⟨B, hB⟩ : ∃ B, w.heap.size = B := ⟨_, rfl⟩
  have HB := Lib.hid hB
  rw [hB] at HH ⊢
  clear hB
  go_wp2_with fail
  go_loopw [23] (fun iv wr => ∃ (k : Nat) (sv : Value), k ≤ s.rd.length ∧ iv = .int .i64 k ∧ Hid (Holds wr B #[.int .i64 id, sv]) ∧ Hid (Win wr (B + 1) 3 1 sv k (((sinceOf s.rd).take k).map (Value.int .i64))) ∧ Hid (Below w.heap.size w wr)) (fun iv _ => s.rd.length - (intOf iv).toNat)
  case atStart => exact ⟨0, _, by omega, rfl, HH, Lib.hid (by simpa using Win.nil _ _ 3 1), HBB⟩
  case round =>
    obtain ⟨k, sv, hk, rfl, HH, HW, HBB⟩ := hrel
    by_cases hlt : k < s.rd.length
    · have hk0 : (0 : Int) ≤ (k : Int) := by omega
      have hk1 : (k : Int) < (s.rd.length : Int) := by omega
      obtain ⟨dp, hdp⟩ : ∃ z, (s.rd.getD k (0, 0)).1 = z := ⟨_, rfl⟩
      obtain ⟨lf, hlf⟩ : ∃ z, (s.rd.getD k (0, 0)).2 = z := ⟨_, rfl⟩
      have e0 := (HBB.out.cell (p := ⟨rb, k * 2, none⟩) hlr).trans ((H.out.hr.cell _).trans (rd_at hlt).1)
      have e1 := (HBB.out.cell (p := ⟨rb, k * 2 + 1, none⟩) hlr).trans ((H.out.hr.cell _).trans (rd_at hlt).2)
      have hsu := since_succ hlt
      rw [hdp] at e0
      rw [hlf] at e1
      rw [hdp, hlf] at hsu
      have HSU := Lib.hid hsu
      clear hdp hlf hsu
      go_upto_region 7 with fail
      obtain ⟨w3, hw3⟩ : ∃ w3, wr.alloc (.cells #[.int .i64 dp, .int .i64 lf] 57) = w3 := ⟨_, rfl⟩
      rw [hw3]
      have B3 : Below wr.heap.size wr w3 := by rw [← hw3]; exact (Below.refl _ _).alloc (Nat.le_refl _) _
      have HB3 := Lib.hid (HBB.out.trans (B3.mono HBB.out.size))
      have HH3 := Lib.hid (HH.out.below B3)
      have HW3 := Lib.hid (HW.out.below B3)
      have j0 : w3.cell? ⟨wr.heap.size, 0, none⟩ = some (.int .i64 dp) := by rw [← hw3]; simp
      have j1 : w3.cell? ⟨wr.heap.size, 1, none⟩ = some (.int .i64 lf) := by rw [← hw3]; simp
      have hJw : wr.heap.size < w3.heap.size := by rw [← hw3]; simp
      obtain ⟨J, hJ⟩ : ∃ J, wr.heap.size = J := ⟨_, rfl⟩
      rw [hJ] at j0 j1 hJw ⊢
      have hbs := HB3.out.size
      have b1 : w3.cell? ⟨B, 1, none⟩ = some sv := HH3.out.cell 1
      have hBl := HH3.out.lt
      clear hw3 B3 hJ HBB HW HH e0 e1
      obtain ⟨nn, hnn⟩ : ∃ nn, (if 0 < dp then lf else (-1 : Int)) = nn := ⟨_, rfl⟩
      rw [hnn] at HSU
      have fin : ∀ (w4 : World) (f' o' cap' : Nat) (tmp : Obj), Win w4 (B + 1) 3 1 (.slice (some ⟨f', o', none⟩) (k + 1) cap') (k + 1) (((sinceOf s.rd).take k).map (Value.int .i64) ++ [.int .i64 nn]) → (w3.alloc tmp).grownBy w4 sv.ownBlock →
          (w4.cell? ⟨B, 1, none⟩ = some sv ∧ w4.frozen? ⟨B, 1, none⟩ = false) ∧ Holds (w4.setCell ⟨B, 1, none⟩ (.slice (some ⟨f', o', none⟩) (k + 1) cap')) B #[.int .i64 id, .slice (some ⟨f', o', none⟩) (k + 1) cap'] ∧
          Win (w4.setCell ⟨B, 1, none⟩ (.slice (some ⟨f', o', none⟩) (k + 1) cap')) (B + 1) 3 1 (.slice (some ⟨f', o', none⟩) (k + 1) cap') (k + 1) (((sinceOf s.rd).take (k + 1)).map (Value.int .i64)) ∧ Below w.heap.size w (w4.setCell ⟨B, 1, none⟩ (.slice (some ⟨f', o', none⟩) (k + 1) cap')) := by
        intro w4 f' o' cap' tmp hO hG
        have hf : Frm sv.ownBlock.toList w3 w4 := ((Frm.refl _ _).alloc tmp).trans (Frm.of_grown hG (fun k hk _ => by rw [hk]; simp))
        have ob : ∀ q, sv.ownBlock = some q → B + 1 ≤ q := fun q e => (HW3.out.lt q e).1
        have hh := HH3.out.frm hf (fun hq => by have := ob B (by simpa using hq); omega)
        have fb : Frm [B] w4 (w4.setCell ⟨B, 1, none⟩ (.slice (some ⟨f', o', none⟩) (k + 1) cap')) := (Frm.refl _ _).setCell (by simp) _
        have hbel : Below w.heap.size w w4 := (HB3.out.alloc HB3.out.size tmp).grown hG (by have := HB.out; simp; omega) (fun q e => by have := ob q e; have := HB.out; omega)
        refine ⟨⟨hh.cell 1, hh.free 1⟩, hh.set 1 _ (by simp), ?_, hbel.setCell (p := ⟨B, 1, none⟩) (by have := HB.out; simp; omega) _⟩
        rw [HSU.out]
        exact hO.frm fb (fun q hq e => by have := (hO.lt q e).1; simp at hq; omega)
      have FIN := Lib.hid fin
      clear fin HH3
      by_cases hp : 0 < dp
      · have hd : dp > 0 := hp
        rw [if_pos hp] at hnn
        subst hnn
        go_wp2_with (first | (at_builtin; go_must (refine wpList_append_win _ rfl (.tmp 33) (.tmp 35) 28 rfl (B + 1) 3 i3 _ 1 8 Try.underlying28 hi hz0 hz1 hz2 rfl (by decide) sv k (((sinceOf s.rd).take k).map (Value.int .i64)) (by simp [Act.eval]) (HW3.out.alloc _) ⟨w3.heap.size, 0, none⟩ 1 1 [.int .i64 lf] (by simp [Act.eval]) rfl (new_cells w3 [.int .i64 lf] _) (by simp [Value.oneCell']) (by decide) (by unfold maxLen; omega) (by omega) (by simp; omega) ?_); intro f' o' cap' w4 hown hgrow hat; have R := Lib.hid (FIN.out w4 f' o' cap' _ hown hgrow); have r1 := R.out.1.1; have r2 := R.out.1.2; clear hown hgrow hat))
        go_roundw
        case rel => exact ⟨k + 1, _, by omega, by go_num, Lib.hid R.out.2.1, Lib.hid R.out.2.2.1, Lib.hid R.out.2.2.2⟩
        case measure => simp [intOf]; omega
      · have hd : ¬ dp > 0 := hp
        rw [if_neg hp] at hnn
        subst hnn
        go_wp2_with (first | (at_builtin; go_must (refine wpList_append_win _ rfl (.tmp 33) (.tmp 35) 28 rfl (B + 1) 3 i3 _ 1 8 Try.underlying28 hi hz0 hz1 hz2 rfl (by decide) sv k (((sinceOf s.rd).take k).map (Value.int .i64)) (by simp [Act.eval]) (HW3.out.alloc _) ⟨w3.heap.size, 0, none⟩ 1 1 [.int .i64 (-1)] (by simp [Act.eval]) rfl (new_cells w3 [.int .i64 (-1)] _) (by simp [Value.oneCell']) (by decide) (by unfold maxLen; omega) (by omega) (by simp; omega) ?_); intro f' o' cap' w4 hown hgrow hat; have R := Lib.hid (FIN.out w4 f' o' cap' _ hown hgrow); have r1 := R.out.1.1; have r2 := R.out.1.2; clear hown hgrow hat))
        go_roundw
        case rel => exact ⟨k + 1, _, by omega, by go_num, Lib.hid R.out.2.1, Lib.hid R.out.2.2.1, Lib.hid R.out.2.2.2⟩
        case measure => simp [intOf]; omega
    · obtain rfl : k = s.rd.length := by omega
      obtain ⟨fs, os, cs, rfl⟩ := HW.out.form (by omega)
      have HG := Lib.hid (H.out.below (w' := wr) HBB.out)
      have b0 : wr.cell? ⟨B, 0, none⟩ = some (.int .i64 id) := HH.out.cell 0
      have b1 : wr.cell? ⟨B, 1, none⟩ = some (.slice (some ⟨fs, os, none⟩) s.rd.length cs) := HH.out.cell 1
      have q1 : wr.cell? ⟨g, 1, none⟩ = some (.slice va s.wt.length vc) := by rw [← HVA.out]; exact HG.out.hg.cell 1
      have hSV : SinceAt wr base s.rd.length (.slice (some ⟨fs, os, none⟩) s.rd.length cs) (sinceOf s.rd) := by
        have hw := HW.out
        rw [← hsl, List.take_length, hsl] at hw
        rcases hw.2 with ⟨e, _⟩ | ⟨f', o', cap', cur, e, hbf, hcur, _, _, _, hc⟩
        · cases e
        · cases e
          have := H.out.bs
          have := HB.out
          refine ⟨fs, os, cs, cur, rfl, by omega, hcur, fun j hj => ?_⟩
          rw [hc j (by omega)]
          simp [List.getElem?_eq_getElem (show j < (sinceOf s.rd).length by omega)]
      have HSV := Lib.hid hSV
      have HFS : Hid (w.heap.size ≤ fs) := Lib.hid (by have := (HW.out.lt fs rfl).1; have := HB.out; omega)
      have HB1 := Lib.hid b1
      have HBL := HH.out.lt
      clear hSV HW HH
      have hwsz := HBB.out.size
      have PUSH : Hid (∀ (wz : World), Below wr.heap.size wr wz → ∀ (w4 : World) (f' o' cap' : Nat) (tmp : Obj), Win w4 base 60 2 (.slice (some ⟨f', o', none⟩) (s.wt.length + 1) cap') (s.wt.length + 1) (wcells s.wt ++ [.int .i64 id, .slice (some ⟨fs, os, none⟩) s.rd.length cs]) → (wz.alloc tmp).grownBy w4 v.ownBlock →
          (w4.cell? ⟨g, 1, none⟩ = some v ∧ w4.frozen? ⟨g, 1, none⟩ = false) ∧ Gr (w4.setCell ⟨g, 1, none⟩ (.slice (some ⟨f', o', none⟩) (s.wt.length + 1) cap')) base g rb (.slice (some ⟨f', o', none⟩) (s.wt.length + 1) cap') { s with wt := s.wt ++ [⟨id, .slice (some ⟨fs, os, none⟩) s.rd.length cs, sinceOf s.rd⟩] } ∧ Frm (g :: v.ownBlock.toList) wr (w4.setCell ⟨g, 1, none⟩ (.slice (some ⟨f', o', none⟩) (s.wt.length + 1) cap'))) := Lib.hid (by
        intro wz hz w4 f' o' cap' tmp hO hG
        have HGz := HG.out.below hz
        have hf : Frm v.ownBlock.toList wz w4 := ((Frm.refl _ _).alloc tmp).trans (Frm.of_grown hG (fun k hk _ => by rw [hk]; simp))
        have hgb := H.out.gb
        have hh := HGz.hg.frm hf (fun hq => by have := (HGz.hv.lt g (by simpa using hq)).1; omega)
        have P := Gr.push HGz hG hO (HSV.out.frm (l := []) (.of_below hz) (by simp)) hm
        exact ⟨⟨hh.cell 1, hh.free 1⟩, P.1, (Frm.of_below hz).trans P.2⟩)
      obtain rfl := HVA.out
      have ng : ¬ g = wr.heap.size := by have := HG.out.hg.lt; omega
      have nb : ¬ B = wr.heap.size := by omega
      have q2 : ((wr.alloc (.cells #[.int .i64 id, .slice (some ⟨fs, os, none⟩) s.rd.length cs] 60)).drew).cell? ⟨g, 1, none⟩ = some (.slice va s.wt.length vc) := by
        show (wr.alloc (.cells #[.int .i64 id, .slice (some ⟨fs, os, none⟩) s.rd.length cs] 60)).cell? ⟨g, 1, none⟩ = _
        rw [World.cell?_alloc_old _ _ _ ng]; exact q1
      clear b1 HSV HBL
      have b1 : wr.cell? ⟨B, 1, none⟩ = some (.slice (some ⟨fs, os, none⟩) s.rd.length cs) := HB1.out
      go_upto_region 12 with fail
      go_region_law (first | (refine step_append_win _ rfl (.tmp 43) (.tmp 45) 52 rfl base 60 i60 _ 2 32 Try.underlying52 hi60 hz60 hs60 hb60 rfl (by decide) (.slice va s.wt.length vc) s.wt.length (wcells s.wt) (by simp [Act.eval]) (by first | exact HG.out.hv.alloc _ | exact HG.out.hv.drew.alloc _) ⟨wr.heap.size, 0, none⟩ 1 1 [.int .i64 id, .slice (some ⟨fs, os, none⟩) s.rd.length cs] (by simp [Act.eval]) rfl (by first | exact new_cells wr [.int .i64 id, .slice (some ⟨fs, os, none⟩) s.rd.length cs] _ | exact new_cells wr.drew [.int .i64 id, .slice (some ⟨fs, os, none⟩) s.rd.length cs] _) (by simp [Value.oneCell']) (by decide) (by unfold maxLen; omega) (by omega) (by have := H.out.bs; simp; omega) ?_; intro f' o' cap' w4 hown hgrow hat; have R := Lib.hid (by first | exact PUSH.out wr (Below.refl _ _) w4 f' o' cap' _ hown hgrow | exact PUSH.out wr.drew (Below.refl _ _).drew w4 f' o' cap' _ hown hgrow); have r1 := R.out.1.1; have r2 := R.out.1.2; clear hown hgrow hat))
      all_goals (
        have HG5 := Lib.hid R.out.2.1
        have HF5 := Lib.hid R.out.2.2
        clear r1 r2 R PUSH
        obtain ⟨w5, hw5⟩ : ∃ w5, w4.setCell ⟨g, 1, none⟩ (.slice (some ⟨f', o', none⟩) (s.wt.length + 1) cap') = w5 := ⟨_, rfl⟩
        rw [hw5] at HG5 HF5 ⊢
        clear hw5
        have IN := Lib.hid (inside_any HG5.out)
        obtain ⟨q, hq⟩ : ∃ q, (inside s.rd s.rd.length).length = q := ⟨_, rfl⟩
        have HQ := Lib.hid hq
        have fin : ∀ w6, Below w5.heap.size w5 w6 → Gr w6 base g rb (.slice (some ⟨f', o', none⟩) (s.wt.length + 1) cap') { s with wt := s.wt ++ [⟨id, .slice (some ⟨fs, os, none⟩) s.rd.length cs, sinceOf s.rd⟩] } ∧ Frm (g :: (Value.slice va s.wt.length vc).ownBlock.toList) w w6 := fun w6 hb => ⟨HG5.out.below hb, ((Frm.of_below HBB.out).trans HF5.out).trans (.of_below hb)⟩
        have FIN := Lib.hid fin
        clear fin hq HG5 HF5
        go_wp2_with (first | (go_at_call 19; refine IN.out.mono ?_; rintro e w6 ⟨ov, rfl, hw6, hb6⟩; have hw7 := hw6; rw [show (inside s.rd s.rd.length).length = q from HQ.out] at hw7; obtain ⟨oa, oc, rfl⟩ := hw7.value; have HB6 := Lib.hid hb6; clear hw6 hw7 hb6))
        go_ret2
        exact ⟨_, _, by rw [HQ.out]; rfl, (FIN.out _ HB6.out).1, (FIN.out _ HB6.out).2, fun k hk => by cases hk; exact HFS.out⟩)
theorem defer_yes (h : Gr w base g rb v s) {id : Int} (hm : s.wt.length < 16) : Calls Try.prog 12 #[.pointer (some ⟨g, 0, none⟩), .int .i64 id] w fun e w' => ∃ sv v', e = .returned (.tuple #[.bool (((inside s.rd s.rd.length).length : Int) == 0), .int .i64 0]) ∧
    Gr w' base g rb v' { s with wt := s.wt ++ [⟨id, sv, sinceOf s.rd⟩] } ∧ Frm (g :: v.ownBlock.toList) w w' :=
  (defer_new h hm).mono fun _ _ ⟨sv, v', e, h1, h2, _⟩ => ⟨sv, v', e, h1, h2⟩
end
end Go.Proofs.Ytedfegbafjmkgaa
