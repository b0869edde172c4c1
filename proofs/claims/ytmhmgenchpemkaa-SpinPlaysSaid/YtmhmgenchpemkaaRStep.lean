/- The reference's small functions walked. -/
import Derived.Test.YtmhmgenchpemkaaRRun
namespace Go.Proofs.Ytmhmgenchpemkaa
open Go.RowKit

section
variable {w : World} {q rb c A C L S : Nat} {vJ : Value} {js : List Jb} {Y : List RS} {s : MS} {k : Nat} {y : RS} {j : Jb}
set_option maxRecDepth 100000 in
set_option maxHeartbeats 400000 in
theorem rload_any (h : RSys w q rb c A C L S vJ js Y s) (hk : js[k]? = some j) {more i : Int} (hi : wrap64 (j.at_ + more) = i) :
    Calls Try.prog 50 #[.pointer (some ⟨q, 0, none⟩), .int .i64 k, .int .i64 more] w fun e w' => e = .returned (.int .i64 (s.load i).1) ∧ RSys w' q rb c A C L S vJ js Y (s.load i).2.2 ∧ Frm [rb, c] w w' := by
  obtain ⟨f, o, cap, rfl⟩ := h.form hk
  obtain ⟨q0, q1, j0, j1, j2, j3, j4⟩ := h.job hk
  have H := Lib.hid h
  have HM := Lib.hid h.hm
  have HK := Lib.hid hk
  have HI := Lib.hid hi
  have hkl := (List.getElem?_eq_some_iff.1 hk).1
  have h8 := h.le
  have k0 : (0 : Int) ≤ (k : Int) := by omega
  have k1 : (k : Int) < (js.length : Int) := by omega
  clear h hk hi
  go_enter Try.func50, Try.ntmps50
  go_wp2_with fail
  go_region_held3 (fun w' => w'.cell? ⟨q, 0, none⟩ = some (.pointer (some ⟨rb, 0, none⟩)) ∧ w'.cell? ⟨q, 1, none⟩ = some (.slice (some ⟨f, o, none⟩) js.length cap) ∧ w'.cell? ⟨f, o + k * 5 + 1, none⟩ = some (.int .i64 j.at_)) (first | with_reducible exact ⟨q0, q1, j1⟩ | with_reducible exact ⟨cell_drew q0, cell_drew q1, cell_drew j1⟩ | with_reducible exact ⟨p0, p1, p2⟩) (first | (go_at_call 46; refine (do_load rb c s _ _ HM.out.drew).mono ?_; rintro e w1 ⟨rfl, m1, f1⟩; rw [IntWalk.i64_left, HI.out] at m1 ⊢; have f1 : Frm [rb, c] w w1 := ((Frm.refl _ _).drew).trans f1; have H1 := Lib.hid (H.out.mem m1 f1); have F1 := Lib.hid f1; obtain ⟨p0, p1, _, p2, _⟩ := H1.out.job HK.out; clear m1 f1))
  all_goals
    go_wp2_with fail
    go_ret
    exact ⟨rfl, H1.out, F1.out⟩
set_option maxRecDepth 100000 in
set_option maxHeartbeats 400000 in
theorem rstore_any (h : RSys w q rb c A C L S vJ js Y s) (hk : js[k]? = some j) {more i v : Int} (hi : wrap64 (j.at_ + more) = i) :
    Calls Try.prog 49 #[.pointer (some ⟨q, 0, none⟩), .int .i64 k, .int .i64 more, .int .i64 v] w fun e w' => e = .returned (.tuple #[]) ∧ RSys w' q rb c A C L S vJ js Y (s.store i v).2 ∧ Frm [rb, c] w w' := by
  obtain ⟨f, o, cap, rfl⟩ := h.form hk
  obtain ⟨q0, q1, j0, j1, j2, j3, j4⟩ := h.job hk
  have H := Lib.hid h
  have HM := Lib.hid h.hm
  have HK := Lib.hid hk
  have HI := Lib.hid hi
  have hkl := (List.getElem?_eq_some_iff.1 hk).1
  have h8 := h.le
  have k0 : (0 : Int) ≤ (k : Int) := by omega
  have k1 : (k : Int) < (js.length : Int) := by omega
  clear h hk hi
  go_enter Try.func49, Try.ntmps49
  go_region_held3 (fun w' => w'.cell? ⟨q, 0, none⟩ = some (.pointer (some ⟨rb, 0, none⟩)) ∧ w'.cell? ⟨q, 1, none⟩ = some (.slice (some ⟨f, o, none⟩) js.length cap) ∧ w'.cell? ⟨f, o + k * 5 + 1, none⟩ = some (.int .i64 j.at_)) (first | with_reducible exact ⟨q0, q1, j1⟩ | with_reducible exact ⟨cell_drew q0, cell_drew q1, cell_drew j1⟩ | with_reducible exact ⟨p0, p1, p2⟩) (first | (go_at_call 46; refine (do_store rb c s _ _ _ HM.out.drew).mono ?_; rintro e w1 ⟨⟨x0, y0, rfl⟩, m1, f1⟩; rw [IntWalk.i64_left, HI.out] at m1; have f1 : Frm [rb, c] w w1 := ((Frm.refl _ _).drew).trans f1; have H1 := Lib.hid (H.out.mem m1 f1); have F1 := Lib.hid f1; obtain ⟨p0, p1, _, p2, _⟩ := H1.out.job HK.out; clear m1 f1))
  all_goals
    go_end0
    exact ⟨rfl, H1.out, F1.out⟩

/-- At a place, or through the work ahead of it. -/
def RS.next (y : RS) (j : Jb) (work on : Int) : RS := { y with pc := if j.work > 0 then work else on, left := j.work }
set_option maxRecDepth 100000 in
set_option maxHeartbeats 400000 in
theorem rnext_any (h : RSys w q rb c A C L S vJ js Y s) (hy : Y[k]? = some y) (hk : js[k]? = some j) {work on : Int} :
    Calls Try.prog 47 #[.pointer (some ⟨q, 0, none⟩), .int .i64 k, .int .i64 work, .int .i64 on] w fun e w' => e = .returned (.tuple #[]) ∧ RSys w' q rb c A C L S vJ js (Y.set k (y.next j work on)) s ∧ Frm [A, L] w w' := by
  obtain ⟨f, o, cap, rfl⟩ := h.form hk
  obtain ⟨r2, r3, r4, r5, y0, y1, y2⟩ := h.row hy
  obtain ⟨fA, fC, fL, fS⟩ := h.free
  have H := Lib.hid h
  have HY := Lib.hid hy
  have HK := Lib.hid hk
  have hkl := (List.getElem?_eq_some_iff.1 hk).1
  have hyl := (List.getElem?_eq_some_iff.1 hy).1
  have h8 := h.le
  have k0 : (0 : Int) ≤ (k : Int) := by omega
  have k1 : (k : Int) < (js.length : Int) := by omega
  clear h hy hk r3 r4 r5 y1 y2 fC fS
  go_enter Try.func47, Try.ntmps47
  go_upto_region 1 with fail
  have H1 := Lib.hid (H.out.setA HY.out on)
  have F1 : Hid (Frm [A, L] w (w.setCell ⟨A, k, none⟩ (.int .i64 on))) := Lib.hid ((Frm.refl _ _).setCell (by simp) _)
  clear r2 y0 fA fL
  generalize w.setCell ⟨A, k, none⟩ (.int .i64 on) = w1 at *
  have HY1 := Lib.hid (show (Y.set k { y with pc := on })[k]? = some { y with pc := on } from List.getElem?_set_self hyl)
  obtain ⟨q0, q1, j0, j1, j2, j3, j4⟩ := H1.out.job HK.out
  obtain ⟨r2, r3, r4, r5, y0, y1, y2⟩ := H1.out.row HY1.out
  obtain ⟨fA, fC, fL, fS⟩ := H1.out.free
  clear q0 j0 j1 j3 j4 r2 r3 r5 y0 y1 fA fC fS
  go_still_tail 14, (by kernel_rfl)
  change wpList _ _ _ _ _ (World.drew _)
  go_upto_region 2 with fail
  have H2 : Hid (RSys (w1.setCell ⟨L, k, none⟩ (.int .i64 j.work)).drew q rb c A C L S (.slice (some ⟨f, o, none⟩) js.length cap) js (Y.set k { y with pc := on, left := j.work }) s) := Lib.hid (by
    have := (H1.out.setL HY1.out j.work).below (w' := (w1.setCell ⟨L, k, none⟩ (.int .i64 j.work)).drew) ⟨rfl, rfl, rfl, Nat.le_refl _, fun _ _ => rfl⟩
    rwa [List.set_set] at this)
  have F2 : Hid (Frm [A, L] w (w1.setCell ⟨L, k, none⟩ (.int .i64 j.work)).drew) := Lib.hid ((F1.out.setCell (by simp) _).drew)
  clear q1 j2 r4 y2 fL
  generalize (w1.setCell ⟨L, k, none⟩ (.int .i64 j.work)).drew = w2 at *
  have HY2 := Lib.hid (show (Y.set k { y with pc := on, left := j.work })[k]? = some { y with pc := on, left := j.work } from List.getElem?_set_self hyl)
  obtain ⟨r2, r3, r4, r5, y0, y1, y2⟩ := H2.out.row HY2.out
  obtain ⟨fA, fC, fL, fS⟩ := H2.out.free
  replace y2 : w2.cell? ⟨L, k, none⟩ = some (.int .i64 j.work) := y2
  replace y0 : w2.cell? ⟨A, k, none⟩ = some (.int .i64 on) := y0
  clear r3 r5 y1 fC fL fS
  by_cases hw : j.work > 0
  · have d : decide (j.work > 0) = true := decide_eq_true hw
    have E : Hid (y.next j work on = { y with pc := work, left := j.work }) := Lib.hid (by rw [RS.next, if_pos hw])
    clear hw
    go_wp2_with fail
    go_end0
    refine ⟨rfl, ?_, F2.out.setCell (by simp) _⟩
    have := H2.out.setA HY2.out work
    rw [List.set_set] at this
    rw [E.out]
    exact this
  · have d : decide (j.work > 0) = false := decide_eq_false hw
    have E : Hid (y.next j work on = { y with pc := on, left := j.work }) := Lib.hid (by rw [RS.next, if_neg hw])
    clear hw
    go_wp2_with fail
    go_end0
    refine ⟨rfl, ?_, F2.out⟩
    rw [E.out]
    exact H2.out
end
end Go.Proofs.Ytmhmgenchpemkaa
