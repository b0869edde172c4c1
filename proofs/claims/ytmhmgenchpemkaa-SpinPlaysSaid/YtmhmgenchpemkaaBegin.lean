/- Chapter 2: jobs that may be; a run is begun. -/
import Derived.Test.YtmhmgenchpemkaaPair
namespace Go.Proofs.Ytmhmgenchpemkaa
open Go.RowKit

structure Jb where
  (kind at_ work a b : Int)
def Jb.cells (j : Jb) : List Value := [.int .i64 j.kind, .int .i64 j.at_, .int .i64 j.work, .int .i64 j.a, .int .i64 j.b]
def Jb.mch (j : Jb) : Mch := .new j.kind j.at_ j.work j.a j.b
def hasI (n : Nat) (i : Int) : Bool := decide (0 ≤ i ∧ i < n)
def Jb.ok (n : Nat) (j : Jb) : Bool :=
  if j.kind < 1 ∨ j.kind > 3 ∨ j.work < 0 ∨ j.work > 100 ∨ hasI n j.at_ = false then false
  else if j.kind = 1 then true else hasI n (wrap64 (j.at_ + 1)) && hasI n (wrap64 (j.at_ + 2))

set_option maxHeartbeats 4000000 in
theorem right_any {b c : Nat} {s : MS} {j : Jb} {w : World} (h : IsMem w b c s) : Calls Try.prog 29 #[.pointer (some ⟨b, 0, none⟩), .agg j.cells.toArray] w fun e w' => e = .returned (.bool (j.ok s.ws.length)) ∧ Below w.heap.size w w' := by
  have B0 : Below w.heap.size w (w.alloc (.cells #[.int .i64 j.kind, .int .i64 j.at_, .int .i64 j.work, .int .i64 j.a, .int .i64 j.b] 29)) := (Below.refl _ _).alloc (Nat.le_refl _) _
  have H := Lib.hid (h.frm (l := []) (.of_below B0) (by simp) (by simp))
  clear h
  have HB := Lib.hid B0
  clear B0
  simp only [Jb.cells]
  go_enter Try.func29, Try.ntmps29
  by_cases k1 : j.kind < 1
  · have E : Hid (j.ok s.ws.length = false) := Lib.hid (by simp [Jb.ok, k1])
    have d1 : decide (j.kind < 1) = true := decide_eq_true k1
    go_wp2_with fail
    go_ret
    exact ⟨by rw [E.out]; rfl, HB.out⟩
  have d1 : decide (j.kind < 1) = false := decide_eq_false k1
  by_cases k2 : j.kind > 3
  · have E : Hid (j.ok s.ws.length = false) := Lib.hid (by simp [Jb.ok, k2])
    have d2 : decide (j.kind > 3) = true := decide_eq_true k2
    go_wp2_with fail
    go_ret
    exact ⟨by rw [E.out]; rfl, HB.out⟩
  have d2 : decide (j.kind > 3) = false := decide_eq_false k2
  by_cases k3 : j.work < 0
  · have E : Hid (j.ok s.ws.length = false) := Lib.hid (by simp [Jb.ok, k3])
    have d3 : decide (j.work < 0) = true := decide_eq_true k3
    go_wp2_with fail
    go_ret
    exact ⟨by rw [E.out]; rfl, HB.out⟩
  have d3 : decide (j.work < 0) = false := decide_eq_false k3
  by_cases k4 : j.work > 100
  · have E : Hid (j.ok s.ws.length = false) := Lib.hid (by simp [Jb.ok, k4])
    have d4 : decide (j.work > 100) = true := decide_eq_true k4
    go_wp2_with fail
    go_ret
    exact ⟨by rw [E.out]; rfl, HB.out⟩
  have d4 : decide (j.work > 100) = false := decide_eq_false k4
  obtain ⟨r0, hr0⟩ : ∃ r, hasI s.ws.length j.at_ = r := ⟨_, rfl⟩
  have R0 : Hid (decide (0 ≤ j.at_ ∧ j.at_ < s.ws.length) = r0) := Lib.hid hr0
  clear hr0
  cases r0
  · have E : Hid (j.ok s.ws.length = false) := Lib.hid (by simp [Jb.ok, hasI, R0.out])
    go_wp2_with (first | (go_at_call 38; refine (has_any b c s _ _ H.out _ (by with_reducible exact R0.out)).mono ?_; rintro e w1 ⟨rfl, rfl⟩))
    go_ret
    exact ⟨by rw [E.out]; rfl, HB.out⟩
  by_cases k5 : j.kind = 1
  · have E : Hid (j.ok s.ws.length = true) := Lib.hid (by rw [Jb.ok, if_neg (by simp [k1, k2, k3, k4, hasI, R0.out]), if_pos k5])
    have d5 : (j.kind == 1) = true := by simpa using k5
    clear k5
    go_wp2_with (first | (go_at_call 38; refine (has_any b c s _ _ H.out _ (by with_reducible exact R0.out)).mono ?_; rintro e w1 ⟨rfl, rfl⟩))
    go_ret
    exact ⟨by rw [E.out]; rfl, HB.out⟩
  have d5 : (j.kind == 1) = false := by simpa using k5
  obtain ⟨r1, hr1⟩ : ∃ r, hasI s.ws.length (wrap64 (j.at_ + 1)) = r := ⟨_, rfl⟩
  obtain ⟨r2, hr2⟩ : ∃ r, hasI s.ws.length (wrap64 (j.at_ + 2)) = r := ⟨_, rfl⟩
  have E : Hid (j.ok s.ws.length = (r1 && r2)) := Lib.hid (by rw [Jb.ok, if_neg (by simp [k1, k2, k3, k4, hasI, R0.out]), if_neg k5, hr1, hr2])
  have R1 : Hid (decide (0 ≤ wrap64 (j.at_ + 1) ∧ wrap64 (j.at_ + 1) < s.ws.length) = r1) := Lib.hid hr1
  have R2 : Hid (decide (0 ≤ wrap64 (j.at_ + 2) ∧ wrap64 (j.at_ + 2) < s.ws.length) = r2) := Lib.hid hr2
  clear hr1 hr2
  cases r1
  · go_wp2_with (first | (go_at_call 38; refine (has_any b c s _ _ H.out _ (by first | with_reducible exact R0.out | with_reducible exact R1.out | with_reducible exact R2.out)).mono ?_; rintro e w1 ⟨rfl, rfl⟩))
    go_ret
    exact ⟨by rw [E.out]; rfl, HB.out⟩
  cases r2
  all_goals
    go_wp2_with (first | (go_at_call 38; refine (has_any b c s _ _ H.out _ (by first | with_reducible exact R0.out | with_reducible exact R1.out | with_reducible exact R2.out)).mono ?_; rintro e w1 ⟨rfl, rfl⟩))
    go_ret
    exact ⟨by rw [E.out]; rfl, HB.out⟩

theorem right_not {b c p : Nat} {s : MS} {j : Jb} {w : World} (h : IsMem w b c s) (hp : w.cell? ⟨p, 0, none⟩ = some (.pointer (some ⟨b, 0, none⟩))) : Calls Try.prog 28 #[.agg j.cells.toArray, .pointer (some ⟨p, 0, none⟩)] w fun e w' => e = .returned (.bool (!j.ok s.ws.length)) ∧ Below w.heap.size w w' := by
  have B0 : Below w.heap.size w (w.alloc (.cells #[.int .i64 j.kind, .int .i64 j.at_, .int .i64 j.work, .int .i64 j.a, .int .i64 j.b] 29)) := (Below.refl _ _).alloc (Nat.le_refl _) _
  have H := Lib.hid (h.frm (l := []) (.of_below B0) (by simp) (by simp))
  have HB := Lib.hid B0
  have hpl : p < w.heap.size := World.block_lt_of_cell? w _ hp
  clear h B0
  simp only [Jb.cells]
  go_enter Try.func28, Try.ntmps28
  go_wp2_with (first | (go_at_call 29; refine (right_any (j := j) H.out).mono ?_; rintro e w1 ⟨rfl, b1⟩))
  go_ret
  exact ⟨rfl, HB.out.trans (b1.mono HB.out.size)⟩
end Go.Proofs.Ytmhmgenchpemkaa
