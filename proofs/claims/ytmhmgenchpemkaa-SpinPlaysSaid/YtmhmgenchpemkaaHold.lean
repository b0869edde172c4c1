/- A holder's access. -/
import Derived.Test.YtmhmgenchpemkaaRun
namespace Go.Proofs.Ytmhmgenchpemkaa
open Go.RowKit

set_option maxRecDepth 100000 in
set_option maxHeartbeats 8000000 in
theorem hold_any {w : World} {f o i b c : Nat} {L : List Mch} {x : Mch} {s : MS} {num : Int} (h : RowsAt w f o L) (hx : L[i]? = some x) (hm : IsMem w b c s) (hfb : f ≠ b) (hfc : f ≠ c) :
    Calls Try.prog 32 #[.pointer (some ⟨f, o + i * 14, none⟩), .pointer (some ⟨b, 0, none⟩), .int .i64 num] w fun e w' => e = .returned (.tuple #[]) ∧ RowsAt w' f o (L.set i (holdM s x num).1) ∧ IsMem w' b c (holdM s x num).2 ∧ Frm [f, b, c] w w' := by
  obtain ⟨u0, u1, u2, u3, u4, u5, u6, u7, u8, u9, u10, u11, u12, u13⟩ := h.at hx
  have H := Lib.hid h
  have HX := Lib.hid hx
  have HM := Lib.hid hm
  have fz := h.2.1
  have HNL : Hid (f ∉ [b, c]) := Lib.hid (by simp [hfb, hfc])
  have HFB := Lib.hid hfb
  have HFC := Lib.hid hfc
  clear h hx hm hfb hfc
  go_enter Try.func32, Try.ntmps32
  by_cases p0 : x.pc = 0
  · rw [p0] at u9
    have P0 := Lib.hid p0
    clear p0
    by_cases c1 : (s.swap x.at_ 0 num).1 = true
    · have C1 := Lib.hid c1
      clear c1
      by_cases q : x.work = 0
      · have E : Hid (holdM s x num = ({ x with left := x.work, pc := 5 }, (s.swap x.at_ 0 num).2.2)) := Lib.hid (by rw [holdM, if_pos P0.out, if_pos C1.out, if_pos q])
        go_upto_region 7 with (first | (go_at_call 42; refine (swap_any b c s x.at_ 0 num _ HM.out).mono ?_; rintro e w1 ⟨rfl, m1, f1⟩; rw [C1.out]; have M1 := Lib.hid m1; have F1 := Lib.hid f1; have H1 := Lib.hid (H.out.frm f1 HNL.out); obtain ⟨u0, u1, u2, u3, u4, u5, u6, u7, u8, u9, u10, u11, u12, u13⟩ := H1.out.at HX.out; have fz := H1.out.2.1; clear m1 f1))
        rw [q] at u2
        have Q := Lib.hid q
        clear q
        go_wp2_with fail
        go_end0
        rw [E.out]
        refine ⟨rfl, ?_, ((M1.out.set HFB.out HFC.out _ _).set HFB.out HFC.out _ _).set HFB.out HFC.out _ _, (F1.out.rows.trans (((Frm.refl _ _).setCell (by simp) _).setCell (by simp) _)).trans ((Frm.refl _ _).setCell (by simp) _)⟩
        exact (((H1.out.put (j := 11) (x' := { x with left := 0 }) HX.out (by omega) rfl).again (j := 9) (y' := { x with left := 0, pc := 3 }) HX.out (by omega) rfl).again (j := 9) (y' := { x with left := x.work, pc := 5 }) HX.out (by omega) (by rw [Q.out]; rfl))
      · have E : Hid (holdM s x num = ({ x with left := x.work, pc := 3 }, (s.swap x.at_ 0 num).2.2)) := Lib.hid (by rw [holdM, if_pos P0.out, if_pos C1.out, if_neg q])
        have d1 : (x.work == 0) = false := beq_eq_false_iff_ne.2 q
        go_wp2_with (first | (go_at_call 42; refine (swap_any b c s x.at_ 0 num _ HM.out).mono ?_; rintro e w1 ⟨rfl, m1, f1⟩; rw [C1.out]; have M1 := Lib.hid m1; have F1 := Lib.hid f1; have H1 := Lib.hid (H.out.frm f1 HNL.out); obtain ⟨u0, u1, u2, u3, u4, u5, u6, u7, u8, u9, u10, u11, u12, u13⟩ := H1.out.at HX.out; have fz := H1.out.2.1; clear m1 f1))
        go_end0
        rw [E.out]
        refine ⟨rfl, ?_, (M1.out.set HFB.out HFC.out _ _).set HFB.out HFC.out _ _, F1.out.rows.trans (((Frm.refl _ _).setCell (by simp) _).setCell (by simp) _)⟩
        exact ((H1.out.put (j := 11) (x' := { x with left := x.work }) HX.out (by omega) rfl).again (j := 9) (y' := { x with left := x.work, pc := 3 }) HX.out (by omega) rfl)
    · have c1 : (s.swap x.at_ 0 num).1 = false := by simpa using c1
      have C1 := Lib.hid c1
      clear c1
      have E : Hid (holdM s x num = (x.again, (s.swap x.at_ 0 num).2.2)) := Lib.hid (by rw [holdM, if_pos P0.out, C1.out]; rfl)
      go_wp2_with (first | (go_at_call 42; refine (swap_any b c s x.at_ 0 num _ HM.out).mono ?_; rintro e w1 ⟨rfl, m1, f1⟩; rw [C1.out]; have M1 := Lib.hid m1; have F1 := Lib.hid f1; have H1 := Lib.hid (H.out.frm f1 HNL.out); obtain ⟨u0, u1, u2, u3, u4, u5, u6, u7, u8, u9, u10, u11, u12, u13⟩ := H1.out.at HX.out; have fz := H1.out.2.1; clear m1 f1) | (go_at_call 43; refine (again_any H1.out HX.out).mono ?_; rintro e w2 ⟨rfl, a1, a2⟩; have A1 := Lib.hid a1; have A2 := Lib.hid a2; clear a1 a2))
      refine bodyPost_ret (results_none rfl _ _ _) rfl ?_
      rw [E.out]
      exact ⟨rfl, A1.out, M1.out.frm A2.out (by simp; exact fun e => HFB.out e.symm) (by simp; exact fun e => HFC.out e.symm), F1.out.rows.trans A2.out.row1⟩
  · have d0 : (x.pc == 0) = false := beq_eq_false_iff_ne.2 p0
    have P0 := Lib.hid p0
    by_cases p3 : x.pc = 3
    · rw [p3] at u9
      have P3 := Lib.hid p3
      clear p3 p0 d0
      by_cases q : wrap64 (x.left - 1) = 0
      · have E : Hid (holdM s x num = ({ x with left := 0, pc := 5 }, (s.load x.at_).2.2)) := Lib.hid (by rw [holdM, if_neg P0.out, if_pos P3.out, q]; rfl)
        go_wp2_with (first | (go_at_call 44; refine (load_any b c s x.at_ _ HM.out).mono ?_; rintro e w1 ⟨rfl, m1, f1⟩; have M1 := Lib.hid m1; have F1 := Lib.hid f1; have H1 := Lib.hid (H.out.frm f1 HNL.out); obtain ⟨u0, u1, u2, u3, u4, u5, u6, u7, u8, u9, u10, u11, u12, u13⟩ := H1.out.at HX.out; have fz := H1.out.2.1; clear m1 f1))
        go_end0
        rw [E.out]
        refine ⟨rfl, ?_, (M1.out.set HFB.out HFC.out _ _).set HFB.out HFC.out _ _, F1.out.rows.trans (((Frm.refl _ _).setCell (by simp) _).setCell (by simp) _)⟩
        exact ((H1.out.put (j := 11) (x' := { x with left := 0 }) HX.out (by omega) rfl).again (j := 9) (y' := { x with left := 0, pc := 5 }) HX.out (by omega) rfl)
      · have E : Hid (holdM s x num = ({ x with left := wrap64 (x.left - 1), pc := 3 }, (s.load x.at_).2.2)) := Lib.hid (by rw [holdM, if_neg P0.out, if_pos P3.out, if_neg q])
        have d1 : (wrap64 (x.left - 1) == 0) = false := beq_eq_false_iff_ne.2 q
        go_wp2_with (first | (go_at_call 44; refine (load_any b c s x.at_ _ HM.out).mono ?_; rintro e w1 ⟨rfl, m1, f1⟩; have M1 := Lib.hid m1; have F1 := Lib.hid f1; have H1 := Lib.hid (H.out.frm f1 HNL.out); obtain ⟨u0, u1, u2, u3, u4, u5, u6, u7, u8, u9, u10, u11, u12, u13⟩ := H1.out.at HX.out; have fz := H1.out.2.1; clear m1 f1))
        go_end0
        rw [E.out]
        refine ⟨rfl, ?_, M1.out.set HFB.out HFC.out _ _, F1.out.rows.trans ((Frm.refl _ _).setCell (by simp) _)⟩
        exact H1.out.put (j := 11) (x' := { x with left := wrap64 (x.left - 1), pc := 3 }) HX.out (by omega) (by rw [← P3.out]; rfl)
    · have d3 : (x.pc == 3) = false := beq_eq_false_iff_ne.2 p3
      have E : Hid (holdM s x num = ({ x with done := true }, (s.store x.at_ 0).2)) := Lib.hid (by rw [holdM, if_neg P0.out, if_neg p3])
      go_wp2_with (first | (go_at_call 26; refine (store_any b c s x.at_ 0 _ HM.out).mono ?_; rintro e w1 ⟨rfl, m1, f1⟩; have M1 := Lib.hid m1; have F1 := Lib.hid f1; have H1 := Lib.hid (H.out.frm f1 HNL.out); obtain ⟨u0, u1, u2, u3, u4, u5, u6, u7, u8, u9, u10, u11, u12, u13⟩ := H1.out.at HX.out; have fz := H1.out.2.1; clear m1 f1))
      go_end0
      rw [E.out]
      refine ⟨rfl, ?_, M1.out.set HFB.out HFC.out _ _, F1.out.rows.trans ((Frm.refl _ _).setCell (by simp) _)⟩
      exact H1.out.put (j := 5) (x' := { x with done := true }) HX.out (by omega) rfl
end Go.Proofs.Ytmhmgenchpemkaa
