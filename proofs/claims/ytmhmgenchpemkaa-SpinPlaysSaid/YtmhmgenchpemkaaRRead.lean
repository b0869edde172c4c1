/- The reference's read walked. -/
import Derived.Test.YtmhmgenchpemkaaRWrite
namespace Go.Proofs.Ytmhmgenchpemkaa
open Go.RowKit

section
variable {w : World} {q rb c A C L S : Nat} {vJ : Value} {js : List Jb} {Y : List RS} {s : MS} {k : Nat} {y : RS} {j : Jb}
set_option maxRecDepth 100000 in
set_option maxHeartbeats 1000000 in
theorem rread_any (h : RSys w q rb c A C L S vJ js Y s) (hy : Y[k]? = some y) (hk : js[k]? = some j) (e0 : wrap64 (j.at_ + 0) = j.at_) (hp : y.pc = 0 ∨ y.pc = 1 ∨ y.pc = 2 ∨ y.pc = 3 ∨ y.pc = 4) :
    Calls Try.prog 36 #[.pointer (some ⟨q, 0, none⟩), .int .i64 k] w fun e w' => e = .returned (.tuple #[]) ∧ RSys w' q rb c A C L S vJ js (Y.set k (readR s j y).1) (readR s j y).2 ∧ Frm [A, C, L, S, rb, c] w w' := by
  obtain ⟨f, o, cap, rfl⟩ := h.form hk
  have H := Lib.hid h
  have HY := Lib.hid hy
  have HK := Lib.hid hk
  have F0 : Hid (Frm [A, C, L, S, rb, c] w w) := Lib.hid (Frm.refl _ _)
  have hkl := (List.getElem?_eq_some_iff.1 hk).1
  have hyl := (List.getElem?_eq_some_iff.1 hy).1
  have h8 := h.le
  have k0 : (0 : Int) ≤ (k : Int) := by omega
  have k1 : (k : Int) < (js.length : Int) := by omega
  obtain ⟨⟨a1, a2, a3, a4⟩, _⟩ := h.apart
  clear h hy hk
  have E0 := Lib.hid e0
  clear e0
  obtain ⟨q0, q1, j0, j1, j2, j3, j4⟩ := H.out.job HK.out
  obtain ⟨r2, r3, r4, r5, y0, y1, y2⟩ := H.out.row HY.out
  obtain ⟨s0, s1, s2, s3⟩ := H.out.hS.at HY.out
  obtain ⟨fA, fC, fL, fS⟩ := H.out.free
  have hCq : ¬ C = q := fun e => a2 e.symm
  have hSq : ¬ S = q := fun e => a4 e.symm
  go_enter Try.func36, Try.ntmps36
  rcases hp with hp | hp | hp | hp | hp
  · by_cases ev : (s.load j.at_).1 % 2 = 0
    · have E : Hid (readR s j y = ({ y with cnt := (s.load j.at_).1, pc := 1 }, (s.load j.at_).2.2)) := Lib.hid (by rw [readR, if_pos hp, if_pos ev])
      obtain ⟨V, hV⟩ : ∃ V, V = (s.load j.at_).1 := ⟨_, rfl⟩
      have HV := Lib.hid hV
      rw [← hV] at E ev
      have tm : (V.tmod 2 == 0) = true := tmod2 ev
      skip
      rw [hp] at y0
      clear hp ev hV
      go_upto_region 2 with fail
      go_region_held3 (fun w' => w'.cell? ⟨q, 3, none⟩ = some (.slice (some ⟨C, 0, none⟩) js.length js.length)) (first | with_reducible exact r3 | with_reducible exact cell_drew r3 | with_reducible exact p3 | with_reducible exact set_blk p3 hCq) (first | (go_at_call 50; refine (rload_any (H.out.below (w' := w.drew) ⟨rfl, rfl, rfl, Nat.le_refl _, fun _ _ => rfl⟩) HK.out (more := 0) E0.out).mono ?_; rintro e w1 ⟨rfl, m1, f1⟩; have f1 : Frm [rb, c] w w1 := ((Frm.refl _ _).drew).trans f1; have H1 := Lib.hid m1; have F1 : Hid (Frm [A, C, L, S, rb, c] w w1) := Lib.hid (f1.mono (by simp)); obtain ⟨p2, p3, p4, p5, t0, t1, t2⟩ := H1.out.row HY.out; obtain ⟨x0, x1, x2, x3⟩ := H1.out.hS.at HY.out; obtain ⟨gA, gC, gL, gS⟩ := H1.out.free; clear m1 f1))
      all_goals
        clear t0 t1 t2 p2 p3 p4 p5 x0 x1 x2 x3 gA gC gL gS
        clear q0 q1 j0 j1 j2 j3 j4 r2 r3 r4 r5 y0 y1 y2 s0 s1 s2 s3 fA fC fL fS
        rw [← HV.out]
        obtain ⟨q0, q1, j0, j1, j2, j3, j4⟩ := H1.out.job HK.out
        obtain ⟨r2, r3, r4, r5, y0, y1, y2⟩ := H1.out.row HY.out
        obtain ⟨s0, s1, s2, s3⟩ := H1.out.hS.at HY.out
        obtain ⟨fA, fC, fL, fS⟩ := H1.out.free
        have H2 : Hid (RSys (w1.setCell ⟨C, k, none⟩ (.int .i64 (V))) q rb c A C L S (.slice (some ⟨f, o, none⟩) js.length cap) js (Y.set k { y with cnt := V }) (s.load j.at_).2.2) := Lib.hid (by
          have := H1.out.setC HY.out (V)
          first | exact this | (rw [List.set_set] at this; exact this))
        have F2 : Hid (Frm [A, C, L, S, rb, c] w (w1.setCell ⟨C, k, none⟩ (.int .i64 (V)))) := Lib.hid (F1.out.setCell (by simp) _)
        clear q0 q1 j0 j1 j2 j3 j4 r2 r3 r4 r5 y0 y1 y2 s0 s1 s2 s3 fA fC fL fS
        generalize (w1.setCell ⟨C, k, none⟩ (.int .i64 (V))) = w2 at *
        have HY3 := Lib.hid (show (Y.set k { y with cnt := V })[k]? = some { y with cnt := V } from List.getElem?_set_self hyl)
        obtain ⟨q0, q1, j0, j1, j2, j3, j4⟩ := H2.out.job HK.out
        obtain ⟨r2, r3, r4, r5, y0, y1, y2⟩ := H2.out.row HY3.out
        obtain ⟨s0, s1, s2, s3⟩ := H2.out.hS.at HY3.out
        obtain ⟨fA, fC, fL, fS⟩ := H2.out.free
        replace y1 : w2.cell? ⟨C, k, none⟩ = some (.int .i64 (V)) := y1
        go_wp2_with fail
        go_end0
        refine ⟨rfl, ?_, F2.out.setCell (by simp) _⟩
        rw [E.out]
        have := H2.out.setA HY3.out 1
        first | exact this | (rw [List.set_set] at this; exact this)
    · have E : Hid (readR s j y = ({ y with cnt := (s.load j.at_).1, tries := wrap64 (y.tries + 1) }, (s.load j.at_).2.2)) := Lib.hid (by rw [readR, if_pos hp, if_neg ev])
      obtain ⟨V, hV⟩ : ∃ V, V = (s.load j.at_).1 := ⟨_, rfl⟩
      have HV := Lib.hid hV
      rw [← hV] at E ev
      have tm : (V.tmod 2 == 0) = false := tmod2n ev
      skip
      rw [hp] at y0
      clear hp ev hV
      go_upto_region 2 with fail
      go_region_held3 (fun w' => w'.cell? ⟨q, 3, none⟩ = some (.slice (some ⟨C, 0, none⟩) js.length js.length)) (first | with_reducible exact r3 | with_reducible exact cell_drew r3 | with_reducible exact p3 | with_reducible exact set_blk p3 hCq) (first | (go_at_call 50; refine (rload_any (H.out.below (w' := w.drew) ⟨rfl, rfl, rfl, Nat.le_refl _, fun _ _ => rfl⟩) HK.out (more := 0) E0.out).mono ?_; rintro e w1 ⟨rfl, m1, f1⟩; have f1 : Frm [rb, c] w w1 := ((Frm.refl _ _).drew).trans f1; have H1 := Lib.hid m1; have F1 : Hid (Frm [A, C, L, S, rb, c] w w1) := Lib.hid (f1.mono (by simp)); obtain ⟨p2, p3, p4, p5, t0, t1, t2⟩ := H1.out.row HY.out; obtain ⟨x0, x1, x2, x3⟩ := H1.out.hS.at HY.out; obtain ⟨gA, gC, gL, gS⟩ := H1.out.free; clear m1 f1))
      all_goals
        clear t0 t1 t2 p2 p3 p4 p5 x0 x1 x2 x3 gA gC gL gS
        clear q0 q1 j0 j1 j2 j3 j4 r2 r3 r4 r5 y0 y1 y2 s0 s1 s2 s3 fA fC fL fS
        rw [← HV.out]
        obtain ⟨q0, q1, j0, j1, j2, j3, j4⟩ := H1.out.job HK.out
        obtain ⟨r2, r3, r4, r5, y0, y1, y2⟩ := H1.out.row HY.out
        obtain ⟨s0, s1, s2, s3⟩ := H1.out.hS.at HY.out
        obtain ⟨fA, fC, fL, fS⟩ := H1.out.free
        have H2 : Hid (RSys (w1.setCell ⟨C, k, none⟩ (.int .i64 (V))) q rb c A C L S (.slice (some ⟨f, o, none⟩) js.length cap) js (Y.set k { y with cnt := V }) (s.load j.at_).2.2) := Lib.hid (by
          have := H1.out.setC HY.out (V)
          first | exact this | (rw [List.set_set] at this; exact this))
        have F2 : Hid (Frm [A, C, L, S, rb, c] w (w1.setCell ⟨C, k, none⟩ (.int .i64 (V)))) := Lib.hid (F1.out.setCell (by simp) _)
        clear q0 q1 j0 j1 j2 j3 j4 r2 r3 r4 r5 y0 y1 y2 s0 s1 s2 s3 fA fC fL fS
        generalize (w1.setCell ⟨C, k, none⟩ (.int .i64 (V))) = w2 at *
        have HY3 := Lib.hid (show (Y.set k { y with cnt := V })[k]? = some { y with cnt := V } from List.getElem?_set_self hyl)
        obtain ⟨q0, q1, j0, j1, j2, j3, j4⟩ := H2.out.job HK.out
        obtain ⟨r2, r3, r4, r5, y0, y1, y2⟩ := H2.out.row HY3.out
        obtain ⟨s0, s1, s2, s3⟩ := H2.out.hS.at HY3.out
        obtain ⟨fA, fC, fL, fS⟩ := H2.out.free
        replace y1 : w2.cell? ⟨C, k, none⟩ = some (.int .i64 (V)) := y1
        go_wp2_with fail
        refine bodyPost_ret (results_none rfl _ _ _) rfl ?_
        refine ⟨rfl, ?_, F2.out.setCell (by simp) _⟩
        rw [E.out]
        have := H2.out.setS (j := 3) (y' := { y with cnt := V, tries := wrap64 (y.tries + 1) }) HY3.out (by omega) rfl rfl rfl rfl
        first | exact this | (rw [List.set_set] at this; exact this)
  · have E : Hid (readR s j y = (({ y with a := (s.load (wrap64 (j.at_ + 1))).1 } : RS).next j 2 3, (s.load (wrap64 (j.at_ + 1))).2.2)) := Lib.hid (by rw [readR, if_neg (show ¬ y.pc = 0 by omega), if_pos hp])
    rw [hp] at y0
    clear hp
    obtain ⟨V, hV⟩ : ∃ V, V = (s.load (wrap64 (j.at_ + 1))).1 := ⟨_, rfl⟩
    have HV := Lib.hid hV
    rw [← hV] at E
    clear hV
    go_upto_region 7 with fail
    go_region_held3 (fun w' => w'.cell? ⟨q, 5, none⟩ = some (.slice (some ⟨S, 0, none⟩) js.length js.length)) (first | with_reducible exact r5 | with_reducible exact cell_drew r5 | with_reducible exact p5 | with_reducible exact set_blk p5 hSq) (first | (go_at_call 50; refine (rload_any (H.out.below (w' := w.drew) ⟨rfl, rfl, rfl, Nat.le_refl _, fun _ _ => rfl⟩) HK.out (more := 1) rfl).mono ?_; rintro e w1 ⟨rfl, m1, f1⟩; have f1 : Frm [rb, c] w w1 := ((Frm.refl _ _).drew).trans f1; have H1 := Lib.hid m1; have F1 : Hid (Frm [A, C, L, S, rb, c] w w1) := Lib.hid (f1.mono (by simp)); obtain ⟨p2, p3, p4, p5, t0, t1, t2⟩ := H1.out.row HY.out; obtain ⟨x0, x1, x2, x3⟩ := H1.out.hS.at HY.out; obtain ⟨gA, gC, gL, gS⟩ := H1.out.free; clear m1 f1))
    all_goals
      clear t0 t1 t2 p2 p3 p4 p5 x0 x1 x2 x3 gA gC gL gS
      clear q0 q1 j0 j1 j2 j3 j4 r2 r3 r4 r5 y0 y1 y2 s0 s1 s2 s3 fA fC fL fS
      rw [← HV.out]
      obtain ⟨q0, q1, j0, j1, j2, j3, j4⟩ := H1.out.job HK.out
      obtain ⟨r2, r3, r4, r5, y0, y1, y2⟩ := H1.out.row HY.out
      obtain ⟨s0, s1, s2, s3⟩ := H1.out.hS.at HY.out
      obtain ⟨fA, fC, fL, fS⟩ := H1.out.free
      have H2 : Hid (RSys (w1.setCell ⟨S, k * 4 + 1, none⟩ (.int .i64 (V))) q rb c A C L S (.slice (some ⟨f, o, none⟩) js.length cap) js (Y.set k { y with a := V }) (s.load (wrap64 (j.at_ + 1))).2.2) := Lib.hid (by
        have := H1.out.setS (j := 1) (v := .int .i64 (V)) (y' := { y with a := V }) HY.out (by omega) rfl rfl rfl rfl
        first | exact this | (rw [List.set_set] at this; exact this))
      have F2 : Hid (Frm [A, C, L, S, rb, c] w (w1.setCell ⟨S, k * 4 + 1, none⟩ (.int .i64 (V)))) := Lib.hid (F1.out.setCell (by simp) _)
      clear q0 q1 j0 j1 j2 j3 j4 r2 r3 r4 r5 y0 y1 y2 s0 s1 s2 s3 fA fC fL fS
      generalize (w1.setCell ⟨S, k * 4 + 1, none⟩ (.int .i64 (V))) = w2 at *
      have HY3 := Lib.hid (show (Y.set k { y with a := V })[k]? = some { y with a := V } from List.getElem?_set_self hyl)
      obtain ⟨q0, q1, j0, j1, j2, j3, j4⟩ := H2.out.job HK.out
      obtain ⟨r2, r3, r4, r5, y0, y1, y2⟩ := H2.out.row HY3.out
      obtain ⟨s0, s1, s2, s3⟩ := H2.out.hS.at HY3.out
      obtain ⟨fA, fC, fL, fS⟩ := H2.out.free
      replace s1 : w2.cell? ⟨S, k * 4 + 1, none⟩ = some (.int .i64 (V)) := s1
      go_wp2_with fail
      refine (rnext_any H2.out HY3.out HK.out).mono ?_
      rintro e w4 ⟨rfl, m1, f1⟩
      have HN := Lib.hid m1
      have FN := Lib.hid (F2.out.trans (f1.mono (l' := [A, C, L, S, rb, c]) (by simp)))
      clear m1 f1
      clear q0 q1 j0 j1 j2 j3 j4 r2 r3 r4 r5 y0 y1 y2 s0 s1 s2 s3 fA fC fL fS
      go_wp2_with fail
      go_end0
      refine ⟨rfl, ?_, FN.out⟩
      rw [E.out]
      have := HN.out
      rw [List.set_set] at this
      exact this
  · have E : Hid (readR s j y = (y.work 3, (s.load j.at_).2.2)) := Lib.hid (by rw [readR, if_neg (show ¬ y.pc = 0 by omega), if_neg (show ¬ y.pc = 1 by omega), if_pos hp])
    rw [hp] at y0
    clear hp
    go_wp2_with fail
    refine (rwork_any H.out HY.out HK.out E0.out).mono ?_
    rintro e w1 ⟨rfl, m1, f1⟩
    have H1 := Lib.hid m1
    have F1 : Hid (Frm [A, C, L, S, rb, c] w w1) := Lib.hid (F0.out.trans (f1.mono (by simp)))
    clear m1 f1
    clear q0 q1 j0 j1 j2 j3 j4 r2 r3 r4 r5 y0 y1 y2 s0 s1 s2 s3 fA fC fL fS
    go_wp2_with fail
    go_end0
    refine ⟨rfl, ?_, F1.out⟩
    rw [E.out]
    exact H1.out
  · have E : Hid (readR s j y = ({ y with b := (s.load (wrap64 (j.at_ + 2))).1, pc := 4 }, (s.load (wrap64 (j.at_ + 2))).2.2)) := Lib.hid (by rw [readR, if_neg (show ¬ y.pc = 0 by omega), if_neg (show ¬ y.pc = 1 by omega), if_neg (show ¬ y.pc = 2 by omega), if_pos hp])
    rw [hp] at y0
    clear hp
    obtain ⟨V, hV⟩ : ∃ V, V = (s.load (wrap64 (j.at_ + 2))).1 := ⟨_, rfl⟩
    have HV := Lib.hid hV
    rw [← hV] at E
    clear hV
    go_upto_region 12 with fail
    go_region_held3 (fun w' => w'.cell? ⟨q, 5, none⟩ = some (.slice (some ⟨S, 0, none⟩) js.length js.length)) (first | with_reducible exact r5 | with_reducible exact cell_drew r5 | with_reducible exact p5 | with_reducible exact set_blk p5 hSq) (first | (go_at_call 50; refine (rload_any (H.out.below (w' := w.drew) ⟨rfl, rfl, rfl, Nat.le_refl _, fun _ _ => rfl⟩) HK.out (more := 2) rfl).mono ?_; rintro e w1 ⟨rfl, m1, f1⟩; have f1 : Frm [rb, c] w w1 := ((Frm.refl _ _).drew).trans f1; have H1 := Lib.hid m1; have F1 : Hid (Frm [A, C, L, S, rb, c] w w1) := Lib.hid (f1.mono (by simp)); obtain ⟨p2, p3, p4, p5, t0, t1, t2⟩ := H1.out.row HY.out; obtain ⟨x0, x1, x2, x3⟩ := H1.out.hS.at HY.out; obtain ⟨gA, gC, gL, gS⟩ := H1.out.free; clear m1 f1))
    all_goals
      clear t0 t1 t2 p2 p3 p4 p5 x0 x1 x2 x3 gA gC gL gS
      clear q0 q1 j0 j1 j2 j3 j4 r2 r3 r4 r5 y0 y1 y2 s0 s1 s2 s3 fA fC fL fS
      rw [← HV.out]
      obtain ⟨q0, q1, j0, j1, j2, j3, j4⟩ := H1.out.job HK.out
      obtain ⟨r2, r3, r4, r5, y0, y1, y2⟩ := H1.out.row HY.out
      obtain ⟨s0, s1, s2, s3⟩ := H1.out.hS.at HY.out
      obtain ⟨fA, fC, fL, fS⟩ := H1.out.free
      have H2 : Hid (RSys (w1.setCell ⟨S, k * 4 + 2, none⟩ (.int .i64 (V))) q rb c A C L S (.slice (some ⟨f, o, none⟩) js.length cap) js (Y.set k { y with b := V }) (s.load (wrap64 (j.at_ + 2))).2.2) := Lib.hid (by
        have := H1.out.setS (j := 2) (v := .int .i64 (V)) (y' := { y with b := V }) HY.out (by omega) rfl rfl rfl rfl
        first | exact this | (rw [List.set_set] at this; exact this))
      have F2 : Hid (Frm [A, C, L, S, rb, c] w (w1.setCell ⟨S, k * 4 + 2, none⟩ (.int .i64 (V)))) := Lib.hid (F1.out.setCell (by simp) _)
      clear q0 q1 j0 j1 j2 j3 j4 r2 r3 r4 r5 y0 y1 y2 s0 s1 s2 s3 fA fC fL fS
      generalize (w1.setCell ⟨S, k * 4 + 2, none⟩ (.int .i64 (V))) = w2 at *
      have HY3 := Lib.hid (show (Y.set k { y with b := V })[k]? = some { y with b := V } from List.getElem?_set_self hyl)
      obtain ⟨q0, q1, j0, j1, j2, j3, j4⟩ := H2.out.job HK.out
      obtain ⟨r2, r3, r4, r5, y0, y1, y2⟩ := H2.out.row HY3.out
      obtain ⟨s0, s1, s2, s3⟩ := H2.out.hS.at HY3.out
      obtain ⟨fA, fC, fL, fS⟩ := H2.out.free
      replace s2 : w2.cell? ⟨S, k * 4 + 2, none⟩ = some (.int .i64 (V)) := s2
      go_wp2_with fail
      go_end0
      refine ⟨rfl, ?_, F2.out.setCell (by simp) _⟩
      rw [E.out]
      have := H2.out.setA HY3.out 4
      first | exact this | (rw [List.set_set] at this; exact this)
  · by_cases ev : (s.load j.at_).1 = y.cnt
    · have E : Hid (readR s j y = ({ y with done := true }, (s.load j.at_).2.2)) := Lib.hid (by rw [readR, if_neg (show ¬ y.pc = 0 by omega), if_neg (show ¬ y.pc = 1 by omega), if_neg (show ¬ y.pc = 2 by omega), if_neg (show ¬ y.pc = 3 by omega), if_pos ev])
      obtain ⟨V, hV⟩ : ∃ V, V = (s.load j.at_).1 := ⟨_, rfl⟩
      have HV := Lib.hid hV
      rw [← hV] at ev
      have dv : (V == y.cnt) = true := by simpa using ev
      have dv2 : (V != y.cnt) = false := by simpa using ev
      rw [hp] at y0
      clear hp ev hV
      go_upto_region 15 with fail
      go_region_held3 (fun w' => w'.cell? ⟨q, 3, none⟩ = some (.slice (some ⟨C, 0, none⟩) js.length js.length) ∧ w'.cell? ⟨C, k, none⟩ = some (.int .i64 y.cnt)) (first | with_reducible exact ⟨r3, y1⟩ | with_reducible exact ⟨cell_drew r3, cell_drew y1⟩ | with_reducible exact ⟨p3, t1⟩) (first | (go_at_call 50; refine (rload_any (H.out.below (w' := w.drew) ⟨rfl, rfl, rfl, Nat.le_refl _, fun _ _ => rfl⟩) HK.out (more := 0) E0.out).mono ?_; rintro e w1 ⟨rfl, m1, f1⟩; rw [← HV.out]; have f1 : Frm [rb, c] w w1 := ((Frm.refl _ _).drew).trans f1; have H1 := Lib.hid m1; have F1 : Hid (Frm [A, C, L, S, rb, c] w w1) := Lib.hid (f1.mono (by simp)); obtain ⟨_, p3, _, _, _, t1, _⟩ := H1.out.row HY.out; clear m1 f1))
      all_goals
        clear p3 t1
        clear q0 q1 j0 j1 j2 j3 j4 r2 r3 r4 r5 y0 y1 y2 s0 s1 s2 s3 fA fC fL fS
        obtain ⟨q0, q1, j0, j1, j2, j3, j4⟩ := H1.out.job HK.out
        obtain ⟨r2, r3, r4, r5, y0, y1, y2⟩ := H1.out.row HY.out
        obtain ⟨s0, s1, s2, s3⟩ := H1.out.hS.at HY.out
        obtain ⟨fA, fC, fL, fS⟩ := H1.out.free
        go_wp2_with fail
        go_end0
        refine ⟨rfl, ?_, F1.out.setCell (by simp) _⟩
        rw [E.out]
        have := H1.out.setS (j := 0) (y' := { y with done := true }) HY.out (by omega) rfl rfl rfl rfl
        first | exact this | (rw [List.set_set] at this; exact this)
    · have E : Hid (readR s j y = ({ y with tries := wrap64 (y.tries + 1), a := 0, b := 0, pc := 0 }, (s.load j.at_).2.2)) := Lib.hid (by rw [readR, if_neg (show ¬ y.pc = 0 by omega), if_neg (show ¬ y.pc = 1 by omega), if_neg (show ¬ y.pc = 2 by omega), if_neg (show ¬ y.pc = 3 by omega), if_neg ev])
      obtain ⟨V, hV⟩ : ∃ V, V = (s.load j.at_).1 := ⟨_, rfl⟩
      have HV := Lib.hid hV
      rw [← hV] at ev
      have dv : (V == y.cnt) = false := by simpa using ev
      have dv2 : (V != y.cnt) = true := by simpa using ev
      rw [hp] at y0
      clear hp ev hV
      go_upto_region 15 with fail
      go_region_held3 (fun w' => w'.cell? ⟨q, 3, none⟩ = some (.slice (some ⟨C, 0, none⟩) js.length js.length) ∧ w'.cell? ⟨C, k, none⟩ = some (.int .i64 y.cnt)) (first | with_reducible exact ⟨r3, y1⟩ | with_reducible exact ⟨cell_drew r3, cell_drew y1⟩ | with_reducible exact ⟨p3, t1⟩) (first | (go_at_call 50; refine (rload_any (H.out.below (w' := w.drew) ⟨rfl, rfl, rfl, Nat.le_refl _, fun _ _ => rfl⟩) HK.out (more := 0) E0.out).mono ?_; rintro e w1 ⟨rfl, m1, f1⟩; rw [← HV.out]; have f1 : Frm [rb, c] w w1 := ((Frm.refl _ _).drew).trans f1; have H1 := Lib.hid m1; have F1 : Hid (Frm [A, C, L, S, rb, c] w w1) := Lib.hid (f1.mono (by simp)); obtain ⟨_, p3, _, _, _, t1, _⟩ := H1.out.row HY.out; clear m1 f1))
      all_goals
        clear p3 t1
        clear q0 q1 j0 j1 j2 j3 j4 r2 r3 r4 r5 y0 y1 y2 s0 s1 s2 s3 fA fC fL fS
        obtain ⟨q0, q1, j0, j1, j2, j3, j4⟩ := H1.out.job HK.out
        obtain ⟨r2, r3, r4, r5, y0, y1, y2⟩ := H1.out.row HY.out
        obtain ⟨s0, s1, s2, s3⟩ := H1.out.hS.at HY.out
        obtain ⟨fA, fC, fL, fS⟩ := H1.out.free
        go_upto_region 17 with fail
        have H2 : Hid (RSys (w1.setCell ⟨S, k * 4 + 3, none⟩ (.int .i64 (wrap64 (y.tries + 1)))) q rb c A C L S (.slice (some ⟨f, o, none⟩) js.length cap) js (Y.set k { y with tries := wrap64 (y.tries + 1) }) (s.load j.at_).2.2) := Lib.hid (by
          have := H1.out.setS (j := 3) (v := .int .i64 (wrap64 (y.tries + 1))) (y' := { y with tries := wrap64 (y.tries + 1) }) HY.out (by omega) rfl rfl rfl rfl
          first | exact this | (rw [List.set_set] at this; exact this))
        have F2 : Hid (Frm [A, C, L, S, rb, c] w (w1.setCell ⟨S, k * 4 + 3, none⟩ (.int .i64 (wrap64 (y.tries + 1))))) := Lib.hid (F1.out.setCell (by simp) _)
        clear q0 q1 j0 j1 j2 j3 j4 r2 r3 r4 r5 y0 y1 y2 s0 s1 s2 s3 fA fC fL fS
        generalize (w1.setCell ⟨S, k * 4 + 3, none⟩ (.int .i64 (wrap64 (y.tries + 1)))) = w2 at *
        have HY3 := Lib.hid (show (Y.set k { y with tries := wrap64 (y.tries + 1) })[k]? = some { y with tries := wrap64 (y.tries + 1) } from List.getElem?_set_self hyl)
        obtain ⟨q0, q1, j0, j1, j2, j3, j4⟩ := H2.out.job HK.out
        obtain ⟨r2, r3, r4, r5, y0, y1, y2⟩ := H2.out.row HY3.out
        obtain ⟨s0, s1, s2, s3⟩ := H2.out.hS.at HY3.out
        obtain ⟨fA, fC, fL, fS⟩ := H2.out.free
        replace s3 : w2.cell? ⟨S, k * 4 + 3, none⟩ = some (.int .i64 (wrap64 (y.tries + 1))) := s3
        go_upto_region 18 with fail
        have H4 : Hid (RSys (w2.setCell ⟨S, k * 4 + 1, none⟩ (.int .i64 (0))) q rb c A C L S (.slice (some ⟨f, o, none⟩) js.length cap) js (Y.set k { y with a := 0, tries := wrap64 (y.tries + 1) }) (s.load j.at_).2.2) := Lib.hid (by
          have := H2.out.setS (j := 1) (v := .int .i64 (0)) (y' := { y with a := 0, tries := wrap64 (y.tries + 1) }) HY3.out (by omega) rfl rfl rfl rfl
          first | exact this | (rw [List.set_set] at this; exact this))
        have F4 : Hid (Frm [A, C, L, S, rb, c] w (w2.setCell ⟨S, k * 4 + 1, none⟩ (.int .i64 (0)))) := Lib.hid (F2.out.setCell (by simp) _)
        clear q0 q1 j0 j1 j2 j3 j4 r2 r3 r4 r5 y0 y1 y2 s0 s1 s2 s3 fA fC fL fS
        generalize (w2.setCell ⟨S, k * 4 + 1, none⟩ (.int .i64 (0))) = w4 at *
        have HY5 := Lib.hid (show (Y.set k { y with a := 0, tries := wrap64 (y.tries + 1) })[k]? = some { y with a := 0, tries := wrap64 (y.tries + 1) } from List.getElem?_set_self hyl)
        obtain ⟨q0, q1, j0, j1, j2, j3, j4⟩ := H4.out.job HK.out
        obtain ⟨r2, r3, r4, r5, y0, y1, y2⟩ := H4.out.row HY5.out
        obtain ⟨s0, s1, s2, s3⟩ := H4.out.hS.at HY5.out
        obtain ⟨fA, fC, fL, fS⟩ := H4.out.free
        replace s1 : w4.cell? ⟨S, k * 4 + 1, none⟩ = some (.int .i64 (0)) := s1
        replace s3 : w4.cell? ⟨S, k * 4 + 3, none⟩ = some (.int .i64 (wrap64 (y.tries + 1))) := s3
        go_upto_region 19 with fail
        have H6 : Hid (RSys (w4.setCell ⟨S, k * 4 + 2, none⟩ (.int .i64 (0))) q rb c A C L S (.slice (some ⟨f, o, none⟩) js.length cap) js (Y.set k { y with a := 0, b := 0, tries := wrap64 (y.tries + 1) }) (s.load j.at_).2.2) := Lib.hid (by
          have := H4.out.setS (j := 2) (v := .int .i64 (0)) (y' := { y with a := 0, b := 0, tries := wrap64 (y.tries + 1) }) HY5.out (by omega) rfl rfl rfl rfl
          first | exact this | (rw [List.set_set] at this; exact this))
        have F6 : Hid (Frm [A, C, L, S, rb, c] w (w4.setCell ⟨S, k * 4 + 2, none⟩ (.int .i64 (0)))) := Lib.hid (F4.out.setCell (by simp) _)
        clear q0 q1 j0 j1 j2 j3 j4 r2 r3 r4 r5 y0 y1 y2 s0 s1 s2 s3 fA fC fL fS
        generalize (w4.setCell ⟨S, k * 4 + 2, none⟩ (.int .i64 (0))) = w6 at *
        have HY7 := Lib.hid (show (Y.set k { y with a := 0, b := 0, tries := wrap64 (y.tries + 1) })[k]? = some { y with a := 0, b := 0, tries := wrap64 (y.tries + 1) } from List.getElem?_set_self hyl)
        obtain ⟨q0, q1, j0, j1, j2, j3, j4⟩ := H6.out.job HK.out
        obtain ⟨r2, r3, r4, r5, y0, y1, y2⟩ := H6.out.row HY7.out
        obtain ⟨s0, s1, s2, s3⟩ := H6.out.hS.at HY7.out
        obtain ⟨fA, fC, fL, fS⟩ := H6.out.free
        replace s1 : w6.cell? ⟨S, k * 4 + 1, none⟩ = some (.int .i64 (0)) := s1
        replace s2 : w6.cell? ⟨S, k * 4 + 2, none⟩ = some (.int .i64 (0)) := s2
        replace s3 : w6.cell? ⟨S, k * 4 + 3, none⟩ = some (.int .i64 (wrap64 (y.tries + 1))) := s3
        go_wp2_with fail
        refine bodyPost_ret (results_none rfl _ _ _) rfl ?_
        refine ⟨rfl, ?_, F6.out.setCell (by simp) _⟩
        rw [E.out]
        have := H6.out.setA HY7.out 0
        first | exact this | (rw [List.set_set] at this; exact this)
end
end Go.Proofs.Ytmhmgenchpemkaa
