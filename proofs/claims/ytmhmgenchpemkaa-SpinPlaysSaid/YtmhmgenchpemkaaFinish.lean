/- The last access of a pair. -/
import Derived.Test.YtmhmgenchpemkaaRun
import Derived.Deep.RegionHeld3
import Derived.StillTailTactics
namespace Go.Proofs.Ytmhmgenchpemkaa
open Go.RowKit

theorem off_ne {f a b : Nat} (h : a ≠ b) : (⟨f, a, none⟩ : Addr) ≠ ⟨f, b, none⟩ := fun e => by injection e; exact h (by assumption)
theorem set_off {w : World} {f a b : Nat} {v u : Value} (h : w.cell? ⟨f, b, none⟩ = some u) (hne : a ≠ b) : (w.setCell ⟨f, a, none⟩ v).cell? ⟨f, b, none⟩ = some u := by
  rw [World.cell?_setCell_other _ _ _ _ (off_ne hne)]
  exact h
theorem IsMem.drew {w : World} {b c : Nat} {s : MS} (h : IsMem w b c s) : IsMem w.drew b c s := h.frm (l := []) ((Frm.refl _ _).drew) (by simp) (by simp)
theorem RowsAt.drew {w : World} {f o : Nat} {L : List Mch} (h : RowsAt w f o L) : RowsAt w.drew f o L := h
set_option maxRecDepth 100000 in
set_option maxHeartbeats 8000000 in
theorem finish_any {w : World} {f o i b c : Nat} {L : List Mch} {x : Mch} {s : MS} (h : RowsAt w f o L) (hx : L[i]? = some x) (hm : IsMem w b c s) (hfb : f ≠ b) (hfc : f ≠ c) :
    Calls Try.prog 45 #[.pointer (some ⟨f, o + i * 14, none⟩), .pointer (some ⟨b, 0, none⟩)] w fun e w' => e = .returned (.tuple #[]) ∧ RowsAt w' f o (L.set i (finishM s x).1) ∧ IsMem w' b c (finishM s x).2 ∧ Frm [f, b, c] w w' := by
  obtain ⟨u0, u1, u2, u3, u4, u5, u6, u7, u8, u9, u10, u11, u12, u13⟩ := h.at hx
  have H := Lib.hid h
  have HX := Lib.hid hx
  have HM := Lib.hid hm
  have fz := h.2.1
  have HNL : Hid (f ∉ [b, c]) := Lib.hid (by simp [hfb, hfc])
  have HFB := Lib.hid hfb
  have HFC := Lib.hid hfc
  clear h hx hm hfb hfc
  go_enter Try.func45, Try.ntmps45
  by_cases k2 : x.kind = 2
  · rw [k2] at u0
    have E : Hid (finishM s x = ({ x with done := true }, (s.store x.at_ (wrap64 (x.count + 2))).2)) := Lib.hid (by rw [finishM, if_pos k2])
    clear k2
    go_wp2_with fail
    go_still_tail 11, (by kernel_rfl)
    change wpList _ _ _ _ _ (World.drew _)
    go_wp2_with fail
    refine (store_any b c s x.at_ (wrap64 (x.count + 2)) _ HM.out.drew).mono ?_
    rintro e w1 ⟨rfl, m1, f1⟩
    have f1 : Frm [b, c] w w1 := ((Frm.refl _ _).drew).trans f1
    have M1 := Lib.hid m1; have F1 := Lib.hid f1; have H1 := Lib.hid (H.out.frm f1 HNL.out); obtain ⟨u0, u1, u2, u3, u4, u5, u6, u7, u8, u9, u10, u11, u12, u13⟩ := H1.out.at HX.out; have fz := H1.out.2.1; clear m1 f1
    go_wp2_with fail
    refine bodyPost_ret (results_none rfl _ _ _) rfl ?_
    rw [E.out]
    refine ⟨rfl, ?_, M1.out.set HFB.out HFC.out _ _, F1.out.rows.trans ((Frm.refl _ _).setCell (by simp) _)⟩
    exact H1.out.put (j := 5) (x' := { x with done := true }) HX.out (by omega) rfl
  · have d0 : (x.kind == 2) = false := beq_eq_false_iff_ne.2 k2
    by_cases cc : (s.load x.at_).1 = x.count
    · have E : Hid (finishM s x = ({ x with done := true, sa := x.ra, sb := x.rb }, (s.load x.at_).2.2)) := Lib.hid (by rw [finishM, if_neg k2, if_pos cc])
      clear k2
      go_wp2_with (first | (go_at_call 44; refine (load_any b c s x.at_ _ HM.out).mono ?_; rintro e w1 ⟨rfl, m1, f1⟩; have M1 := Lib.hid m1; have F1 := Lib.hid f1; have H1 := Lib.hid (H.out.frm f1 HNL.out); obtain ⟨u0, u1, u2, u3, u4, u5, u6, u7, u8, u9, u10, u11, u12, u13⟩ := H1.out.at HX.out; have fz := H1.out.2.1; clear m1 f1))
      have z5 := fz (o + i * 14 + 5)
      go_region_held3 (fun w' => w'.cell? ⟨f, o + i * 14 + 12, none⟩ = some (.int .i64 x.ra) ∧ w'.cell? ⟨f, o + i * 14 + 13, none⟩ = some (.int .i64 x.rb)) (first | with_reducible exact ⟨u12, u13⟩ | (refine ⟨?_, ?_⟩ <;> (repeat (first | with_reducible exact u12 | with_reducible exact u13 | (refine set_off ?_ (by omega)))); done) | exact ⟨u12, u13⟩) (fail)
      go_end0
      rw [E.out]
      refine ⟨rfl, ?_, (((M1.out.set HFB.out HFC.out _ _).set HFB.out HFC.out _ _).set HFB.out HFC.out _ _).drew, F1.out.rows.trans ((((((Frm.refl _ _).setCell (by simp) _).setCell (by simp) _).setCell (by simp) _).drew))⟩
      exact (((H1.out.put (j := 5) (x' := { x with done := true }) HX.out (by omega) rfl).again (j := 6) (y' := { x with done := true, sa := x.ra }) HX.out (by omega) rfl).again (j := 7) (y' := { x with done := true, sa := x.ra, sb := x.rb }) HX.out (by omega) rfl).drew
    · have E : Hid (finishM s x = (x.again, (s.load x.at_).2.2)) := Lib.hid (by rw [finishM, if_neg k2, if_neg cc])
      go_wp2_with (first | (go_at_call 44; refine (load_any b c s x.at_ _ HM.out).mono ?_; rintro e w1 ⟨rfl, m1, f1⟩; have M1 := Lib.hid m1; have F1 := Lib.hid f1; have H1 := Lib.hid (H.out.frm f1 HNL.out); obtain ⟨u0, u1, u2, u3, u4, u5, u6, u7, u8, u9, u10, u11, u12, u13⟩ := H1.out.at HX.out; have fz := H1.out.2.1; clear m1 f1) | (go_at_call 43; refine (again_any H1.out HX.out).mono ?_; rintro e w2 ⟨rfl, a1, a2⟩; have A1 := Lib.hid a1; have A2 := Lib.hid a2; clear a1 a2))
      refine bodyPost_ret (results_none rfl _ _ _) rfl ?_
      rw [E.out]
      exact ⟨rfl, A1.out, M1.out.frm A2.out (by simp; exact fun e => HFB.out e.symm) (by simp; exact fun e => HFC.out e.symm), F1.out.rows.trans A2.out.row1⟩
end Go.Proofs.Ytmhmgenchpemkaa
