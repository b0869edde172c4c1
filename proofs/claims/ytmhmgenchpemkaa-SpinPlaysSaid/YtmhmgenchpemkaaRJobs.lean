/- The reference's jobs walked. -/
import Derived.Test.YtmhmgenchpemkaaRStep
namespace Go.Proofs.Ytmhmgenchpemkaa
open Go.RowKit

/-- One of the loads between. -/
def RS.work (y : RS) (on : Int) : RS := if wrap64 (y.left - 1) = 0 then { y with left := wrap64 (y.left - 1), pc := on } else { y with left := wrap64 (y.left - 1) }
def RS.again (y : RS) : RS := { y with tries := wrap64 (y.tries + 1) }
def holdR (s : MS) (j : Jb) (y : RS) (num : Int) : RS × MS :=
  if y.pc = 0 then
    if (s.swap j.at_ 0 num).1 = true then (y.next j 1 2, (s.swap j.at_ 0 num).2.2) else (y.again, (s.swap j.at_ 0 num).2.2)
  else if y.pc = 1 then (y.work 2, (s.load j.at_).2.2)
  else ({ y with done := true }, (s.store j.at_ 0).2)
def writeR (s : MS) (j : Jb) (y : RS) : RS × MS :=
  if y.pc = 0 then
    if (s.load j.at_).1 % 2 = 0 then ({ y with cnt := (s.load j.at_).1, pc := 1 }, (s.load j.at_).2.2) else ({ y with cnt := (s.load j.at_).1, tries := wrap64 (y.tries + 1) }, (s.load j.at_).2.2)
  else if y.pc = 1 then
    if (s.swap j.at_ y.cnt (wrap64 (y.cnt + 1))).1 = true then ({ y with pc := 2 }, (s.swap j.at_ y.cnt (wrap64 (y.cnt + 1))).2.2) else ({ y with tries := wrap64 (y.tries + 1), pc := 0 }, (s.swap j.at_ y.cnt (wrap64 (y.cnt + 1))).2.2)
  else if y.pc = 2 then (y.next j 3 4, (s.store (wrap64 (j.at_ + 1)) j.a).2)
  else if y.pc = 3 then (y.work 4, (s.load j.at_).2.2)
  else if y.pc = 4 then ({ y with pc := 5 }, (s.store (wrap64 (j.at_ + 2)) j.b).2)
  else ({ y with done := true }, (s.store j.at_ (wrap64 (y.cnt + 2))).2)
def readR (s : MS) (j : Jb) (y : RS) : RS × MS :=
  if y.pc = 0 then
    if (s.load j.at_).1 % 2 = 0 then ({ y with cnt := (s.load j.at_).1, pc := 1 }, (s.load j.at_).2.2) else ({ y with cnt := (s.load j.at_).1, tries := wrap64 (y.tries + 1) }, (s.load j.at_).2.2)
  else if y.pc = 1 then (({ y with a := (s.load (wrap64 (j.at_ + 1))).1 } : RS).next j 2 3, (s.load (wrap64 (j.at_ + 1))).2.2)
  else if y.pc = 2 then (y.work 3, (s.load j.at_).2.2)
  else if y.pc = 3 then ({ y with b := (s.load (wrap64 (j.at_ + 2))).1, pc := 4 }, (s.load (wrap64 (j.at_ + 2))).2.2)
  else if (s.load j.at_).1 = y.cnt then ({ y with done := true }, (s.load j.at_).2.2)
  else ({ y with tries := wrap64 (y.tries + 1), a := 0, b := 0, pc := 0 }, (s.load j.at_).2.2)
section
variable {w : World} {q rb c A C L S : Nat} {vJ : Value} {js : List Jb} {Y : List RS} {s : MS} {k : Nat} {y : RS} {j : Jb}
set_option maxRecDepth 100000 in
set_option maxHeartbeats 1000000 in
theorem rwork_any (h : RSys w q rb c A C L S vJ js Y s) (hy : Y[k]? = some y) (hk : js[k]? = some j) {on : Int} (e0 : wrap64 (j.at_ + 0) = j.at_) :
    Calls Try.prog 48 #[.pointer (some ⟨q, 0, none⟩), .int .i64 k, .int .i64 on] w fun e w' => e = .returned (.tuple #[]) ∧ RSys w' q rb c A C L S vJ js (Y.set k (y.work on)) (s.load j.at_).2.2 ∧ Frm [A, C, L, S, rb, c] w w' := by
  obtain ⟨f, o, cap, rfl⟩ := h.form hk
  have H := Lib.hid h
  have HY := Lib.hid hy
  have HK := Lib.hid hk
  have F0 : Hid (Frm [A, C, L, S, rb, c] w w) := Lib.hid (Frm.refl _ _)
  have hkl := (List.getElem?_eq_some_iff.1 hk).1
  have hyl := (List.getElem?_eq_some_iff.1 hy).1
  have h8 := h.le
  have k0 : (0 : Int) ≤ (k : Int) := by omega
  have k1 : (k : Int) < (js.length : Int) := by omega
  obtain ⟨⟨a1, a2, a3, a4⟩, _⟩ := h.apart
  clear h hy hk
  have E0 := Lib.hid e0
  clear e0
  obtain ⟨q0, q1, j0, j1, j2, j3, j4⟩ := H.out.job HK.out
  obtain ⟨r2, r3, r4, r5, y0, y1, y2⟩ := H.out.row HY.out
  obtain ⟨s0, s1, s2, s3⟩ := H.out.hS.at HY.out
  obtain ⟨fA, fC, fL, fS⟩ := H.out.free
  go_enter Try.func48, Try.ntmps48
  go_wp2_with fail
  refine (rload_any H.out HK.out (more := 0) E0.out).mono ?_
  rintro e w1 ⟨rfl, m1, f1⟩
  have H1 := Lib.hid m1
  have F1 : Hid (Frm [A, C, L, S, rb, c] w w1) := Lib.hid (F0.out.trans (f1.mono (by simp)))
  clear m1 f1
  clear q0 q1 j0 j1 j2 j3 j4 r2 r3 r4 r5 y0 y1 y2 s0 s1 s2 s3 fA fC fL fS
  obtain ⟨q0, q1, j0, j1, j2, j3, j4⟩ := H1.out.job HK.out
  obtain ⟨r2, r3, r4, r5, y0, y1, y2⟩ := H1.out.row HY.out
  obtain ⟨s0, s1, s2, s3⟩ := H1.out.hS.at HY.out
  obtain ⟨fA, fC, fL, fS⟩ := H1.out.free
  go_upto_region 2 with fail
  have H2 : Hid (RSys (w1.setCell ⟨L, k, none⟩ (.int .i64 (wrap64 (y.left - 1)))) q rb c A C L S (.slice (some ⟨f, o, none⟩) js.length cap) js (Y.set k { y with left := wrap64 (y.left - 1) }) (s.load j.at_).2.2) := Lib.hid (by
    have := H1.out.setL HY.out (wrap64 (y.left - 1))
    first | exact this | (rw [List.set_set] at this; exact this))
  have F2 : Hid (Frm [A, C, L, S, rb, c] w (w1.setCell ⟨L, k, none⟩ (.int .i64 (wrap64 (y.left - 1))))) := Lib.hid (F1.out.setCell (by simp) _)
  clear q0 q1 j0 j1 j2 j3 j4 r2 r3 r4 r5 y0 y1 y2 s0 s1 s2 s3 fA fC fL fS
  generalize (w1.setCell ⟨L, k, none⟩ (.int .i64 (wrap64 (y.left - 1)))) = w2 at *
  have HY3 := Lib.hid (show (Y.set k { y with left := wrap64 (y.left - 1) })[k]? = some { y with left := wrap64 (y.left - 1) } from List.getElem?_set_self hyl)
  obtain ⟨q0, q1, j0, j1, j2, j3, j4⟩ := H2.out.job HK.out
  obtain ⟨r2, r3, r4, r5, y0, y1, y2⟩ := H2.out.row HY3.out
  obtain ⟨s0, s1, s2, s3⟩ := H2.out.hS.at HY3.out
  obtain ⟨fA, fC, fL, fS⟩ := H2.out.free
  replace y2 : w2.cell? ⟨L, k, none⟩ = some (.int .i64 (wrap64 (y.left - 1))) := y2
  by_cases hz : wrap64 (y.left - 1) = 0
  · have d : (wrap64 (y.left - 1) == 0) = true := by simpa using hz
    have E : Hid (y.work on = { y with left := wrap64 (y.left - 1), pc := on }) := Lib.hid (by rw [RS.work, if_pos hz])
    clear hz
    go_wp2_with fail
    go_end0
    refine ⟨rfl, ?_, F2.out.setCell (by simp) _⟩
    have := H2.out.setA HY3.out on
    rw [List.set_set] at this
    rw [E.out]
    exact this
  · have d : (wrap64 (y.left - 1) == 0) = false := by simpa using hz
    have E : Hid (y.work on = { y with left := wrap64 (y.left - 1) }) := Lib.hid (by rw [RS.work, if_neg hz])
    clear hz
    go_wp2_with fail
    go_end0
    refine ⟨rfl, ?_, F2.out⟩
    rw [E.out]
    exact H2.out
set_option maxRecDepth 100000 in
set_option maxHeartbeats 1000000 in
theorem rhold_any (h : RSys w q rb c A C L S vJ js Y s) (hy : Y[k]? = some y) (hk : js[k]? = some j) (e0 : wrap64 (j.at_ + 0) = j.at_) (hp : y.pc = 0 ∨ y.pc = 1 ∨ y.pc = 2) :
    Calls Try.prog 34 #[.pointer (some ⟨q, 0, none⟩), .int .i64 k] w fun e w' => e = .returned (.tuple #[]) ∧ RSys w' q rb c A C L S vJ js (Y.set k (holdR s j y (k + 1)).1) (holdR s j y (k + 1)).2 ∧ Frm [A, C, L, S, rb, c] w w' := by
  obtain ⟨f, o, cap, rfl⟩ := h.form hk
  have H := Lib.hid h
  have HY := Lib.hid hy
  have HK := Lib.hid hk
  have F0 : Hid (Frm [A, C, L, S, rb, c] w w) := Lib.hid (Frm.refl _ _)
  have hkl := (List.getElem?_eq_some_iff.1 hk).1
  have hyl := (List.getElem?_eq_some_iff.1 hy).1
  have h8 := h.le
  have k0 : (0 : Int) ≤ (k : Int) := by omega
  have k1 : (k : Int) < (js.length : Int) := by omega
  obtain ⟨⟨a1, a2, a3, a4⟩, _⟩ := h.apart
  clear h hy hk
  have E0 := Lib.hid e0
  clear e0
  have KW : Hid (wrap64 ((k : Int) + 1) = (k : Int) + 1) := Lib.hid (by unfold wrap64; omega)
  obtain ⟨q0, q1, j0, j1, j2, j3, j4⟩ := H.out.job HK.out
  obtain ⟨r2, r3, r4, r5, y0, y1, y2⟩ := H.out.row HY.out
  obtain ⟨s0, s1, s2, s3⟩ := H.out.hS.at HY.out
  obtain ⟨fA, fC, fL, fS⟩ := H.out.free
  go_enter Try.func34, Try.ntmps34
  rcases hp with hp | hp | hp
  · by_cases sw : (s.swap j.at_ 0 ((k : Int) + 1)).1 = true
    · have E : Hid (holdR s j y (k + 1) = (y.next j 1 2, (s.swap j.at_ 0 ((k : Int) + 1)).2.2)) := Lib.hid (by rw [holdR, if_pos hp, if_pos sw])
      have SW : Hid ((s.swap j.at_ 0 ((k : Int) + 1)).1 = true) := Lib.hid (by simpa using sw)
      rw [hp] at y0
      clear hp sw
      go_upto_region 2 with fail
      go_region_held3 (fun w' => w'.cell? ⟨q, 0, none⟩ = some (.pointer (some ⟨rb, 0, none⟩)) ∧ w'.cell? ⟨q, 1, none⟩ = some (.slice (some ⟨f, o, none⟩) js.length cap) ∧ w'.cell? ⟨f, o + k * 5 + 1, none⟩ = some (.int .i64 j.at_)) (first | with_reducible exact ⟨q0, q1, j1⟩ | with_reducible exact ⟨cell_drew q0, cell_drew q1, cell_drew j1⟩ | with_reducible exact ⟨p0, p1, p2⟩) (first | (go_at_call 46; refine (do_swap rb c s _ _ _ _ H.out.hm.drew).mono ?_; rintro e w1 ⟨⟨x0, rfl⟩, m1, f1⟩; rw [IntWalk.i64_left, KW.out] at m1 ⊢; rw [SW.out]; have f1 : Frm [rb, c] w w1 := ((Frm.refl _ _).drew).trans f1; have H1 := Lib.hid (H.out.mem m1 f1); have F1 : Hid (Frm [A, C, L, S, rb, c] w w1) := Lib.hid (f1.mono (by simp)); obtain ⟨p0, p1, _, p2, _⟩ := H1.out.job HK.out; clear m1 f1))
      all_goals
        clear p0 p1 p2
        clear q0 q1 j0 j1 j2 j3 j4 r2 r3 r4 r5 y0 y1 y2 s0 s1 s2 s3 fA fC fL fS
        obtain ⟨q0, q1, j0, j1, j2, j3, j4⟩ := H1.out.job HK.out
        obtain ⟨r2, r3, r4, r5, y0, y1, y2⟩ := H1.out.row HY.out
        obtain ⟨s0, s1, s2, s3⟩ := H1.out.hS.at HY.out
        obtain ⟨fA, fC, fL, fS⟩ := H1.out.free
        go_wp2_with fail
        refine (rnext_any H1.out HY.out HK.out).mono ?_
        rintro e w2 ⟨rfl, m1, f1⟩
        have H2 := Lib.hid m1
        have F2 : Hid (Frm [A, C, L, S, rb, c] w w2) := Lib.hid (F1.out.trans (f1.mono (by simp)))
        clear m1 f1
        clear q0 q1 j0 j1 j2 j3 j4 r2 r3 r4 r5 y0 y1 y2 s0 s1 s2 s3 fA fC fL fS
        go_wp2_with fail
        go_end0
        refine ⟨rfl, ?_, F2.out⟩
        rw [E.out]
        exact H2.out
    · have E : Hid (holdR s j y (k + 1) = (y.again, (s.swap j.at_ 0 ((k : Int) + 1)).2.2)) := Lib.hid (by rw [holdR, if_pos hp, if_neg sw])
      have SW : Hid ((s.swap j.at_ 0 ((k : Int) + 1)).1 = false) := Lib.hid (by simpa using sw)
      rw [hp] at y0
      clear hp sw
      go_upto_region 2 with fail
      go_region_held3 (fun w' => w'.cell? ⟨q, 0, none⟩ = some (.pointer (some ⟨rb, 0, none⟩)) ∧ w'.cell? ⟨q, 1, none⟩ = some (.slice (some ⟨f, o, none⟩) js.length cap) ∧ w'.cell? ⟨f, o + k * 5 + 1, none⟩ = some (.int .i64 j.at_)) (first | with_reducible exact ⟨q0, q1, j1⟩ | with_reducible exact ⟨cell_drew q0, cell_drew q1, cell_drew j1⟩ | with_reducible exact ⟨p0, p1, p2⟩) (first | (go_at_call 46; refine (do_swap rb c s _ _ _ _ H.out.hm.drew).mono ?_; rintro e w1 ⟨⟨x0, rfl⟩, m1, f1⟩; rw [IntWalk.i64_left, KW.out] at m1 ⊢; rw [SW.out]; have f1 : Frm [rb, c] w w1 := ((Frm.refl _ _).drew).trans f1; have H1 := Lib.hid (H.out.mem m1 f1); have F1 : Hid (Frm [A, C, L, S, rb, c] w w1) := Lib.hid (f1.mono (by simp)); obtain ⟨p0, p1, _, p2, _⟩ := H1.out.job HK.out; clear m1 f1))
      all_goals
        clear p0 p1 p2
        clear q0 q1 j0 j1 j2 j3 j4 r2 r3 r4 r5 y0 y1 y2 s0 s1 s2 s3 fA fC fL fS
        obtain ⟨q0, q1, j0, j1, j2, j3, j4⟩ := H1.out.job HK.out
        obtain ⟨r2, r3, r4, r5, y0, y1, y2⟩ := H1.out.row HY.out
        obtain ⟨s0, s1, s2, s3⟩ := H1.out.hS.at HY.out
        obtain ⟨fA, fC, fL, fS⟩ := H1.out.free
        go_wp2_with fail
        refine bodyPost_ret (results_none rfl _ _ _) rfl ?_
        refine ⟨rfl, ?_, F1.out.setCell (by simp) _⟩
        rw [E.out]
        exact H1.out.setS (j := 3) (y' := y.again) HY.out (by omega) rfl rfl rfl rfl
  · have E : Hid (holdR s j y (k + 1) = (y.work 2, (s.load j.at_).2.2)) := Lib.hid (by rw [holdR, if_neg (by omega), if_pos hp])
    rw [hp] at y0
    clear hp
    go_wp2_with fail
    refine (rwork_any H.out HY.out HK.out E0.out).mono ?_
    rintro e w1 ⟨rfl, m1, f1⟩
    have H1 := Lib.hid m1
    have F1 : Hid (Frm [A, C, L, S, rb, c] w w1) := Lib.hid (F0.out.trans (f1.mono (by simp)))
    clear m1 f1
    clear q0 q1 j0 j1 j2 j3 j4 r2 r3 r4 r5 y0 y1 y2 s0 s1 s2 s3 fA fC fL fS
    go_wp2_with fail
    go_end0
    refine ⟨rfl, ?_, F1.out⟩
    rw [E.out]
    exact H1.out
  · have E : Hid (holdR s j y (k + 1) = ({ y with done := true }, (s.store j.at_ 0).2)) := Lib.hid (by rw [holdR, if_neg (by omega), if_neg (by omega)])
    rw [hp] at y0
    clear hp
    go_wp2_with fail
    refine (rstore_any H.out HK.out (more := 0) E0.out).mono ?_
    rintro e w1 ⟨rfl, m1, f1⟩
    have H1 := Lib.hid m1
    have F1 : Hid (Frm [A, C, L, S, rb, c] w w1) := Lib.hid (F0.out.trans (f1.mono (by simp)))
    clear m1 f1
    clear q0 q1 j0 j1 j2 j3 j4 r2 r3 r4 r5 y0 y1 y2 s0 s1 s2 s3 fA fC fL fS
    obtain ⟨q0, q1, j0, j1, j2, j3, j4⟩ := H1.out.job HK.out
    obtain ⟨r2, r3, r4, r5, y0, y1, y2⟩ := H1.out.row HY.out
    obtain ⟨s0, s1, s2, s3⟩ := H1.out.hS.at HY.out
    obtain ⟨fA, fC, fL, fS⟩ := H1.out.free
    go_wp2_with fail
    go_end0
    refine ⟨rfl, ?_, F1.out.setCell (by simp) _⟩
    rw [E.out]
    exact H1.out.setS (j := 0) (y' := { y with done := true }) HY.out (by omega) rfl rfl rfl rfl
end
end Go.Proofs.Ytmhmgenchpemkaa
