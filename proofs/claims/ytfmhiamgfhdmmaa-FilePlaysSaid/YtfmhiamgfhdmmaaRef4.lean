/- Chapter 14's table as the document has it: Close. -/
import Derived.Test.YtfmhiamgfhdmmaaRef3
namespace Go.Proofs.Ytfmhiamgfhdmmaa
open Go.RowKit

set_option maxHeartbeats 1000000 in
theorem rclose_any {b : Nat} {s : TS} {w : World} (h : IsRt w b s) (p fd : Int) : Calls Try.prog 17 #[.pointer (some ⟨b, 0, none⟩), .int .i64 p, .int .i64 fd] w fun e w' =>
    e = .returned (.tuple #[.agg #[.int .i64 (opClose s p fd).1.1, .int .i64 (opClose s p fd).1.2.1], .int .i64 (opClose s p fd).1.2.2]) ∧ IsRt w' b (opClose s p fd).2 ∧ Frm [b] w w' := by
  have B0 : Below w.heap.size w (w.alloc (.cells #[.int .i64 0, .int .i64 0] 30)) := (Below.refl _ _).alloc (Nat.le_refl _) _
  have H := Lib.hid (h.below B0)
  have hlb := h.lt
  have H0 := Lib.hid h
  clear h
  by_cases hw : why s p fd = 0
  · obtain ⟨P, D, hP, hD, rfl, rfl, ho⟩ := why_yes hw
    obtain ⟨y, hy⟩ : ∃ y, s.T (P * 8 + D) = y := ⟨_, rfl⟩
    have e : opClose s P D = ((y.m, y.n, 0), s.put (P * 8 + D) Sl.zero) := by unfold opClose; rw [if_pos hw, Int.toNat_natCast, Int.toNat_natCast, hy]
    rw [e]
    have HW := Lib.hid hw
    have HY := Lib.hid hy
    have hp0 : (0 : Int) ≤ (P : Int) := by omega
    have hp1 : (P : Int) < 8 := by omega
    have hf0 : (0 : Int) ≤ (D : Int) := by omega
    have hf1 : (D : Int) < 8 := by omega
    clear e hw hy ho
    go_enter Try.func17, Try.ntmps17
    go_wp2_with fail
    refine (rcheck_any H.out _ _).mono ?_
    rintro e w1 ⟨rfl, rfl⟩
    rw [HW.out]
    have v0 : (w.alloc (.cells #[.int .i64 0, .int .i64 0] 30)).cell? ⟨w.heap.size, 0, none⟩ = some (.int .i64 0) := by simp
    have v1 : (w.alloc (.cells #[.int .i64 0, .int .i64 0] 30)).cell? ⟨w.heap.size, 1, none⟩ = some (.int .i64 0) := by simp
    have z0 : ∀ j, (w.alloc (.cells #[.int .i64 0, .int .i64 0] 30)).frozen? ⟨w.heap.size, j, none⟩ = false := fun j => by simp
    have hs1 : w.heap.size < (w.alloc (.cells #[.int .i64 0, .int .i64 0] 30)).heap.size := by simp
    have HB : Hid (Below w.heap.size w (w.alloc (.cells #[.int .i64 0, .int .i64 0] 30))) := B0
    clear B0
    generalize w.alloc (.cells #[.int .i64 0, .int .i64 0] 30) = w1 at *
    obtain ⟨c0, c1, c2, c3⟩ := rt_cells H.out hP hD HY.out
    have ci := H.out.is hP hD
    have hfz := H.out.fz
    have n1 : ¬ b = w1.heap.size := by omega
    have n2 : ¬ w.heap.size = w1.heap.size := by omega
    have n3 : ¬ w.heap.size = b := by omega
    have n4 : ¬ b = w.heap.size := by omega
    have n5 : b < w1.heap.size := by omega
    have a0 : ∀ j, j < 4 → 1 + P * 32 + D * 4 + j ≠ 257 + P * 8 + D := fun j hj => by omega
    have q0 : ¬ 257 + P * 8 + D = 1 + P * 32 + D * 4 := by omega
    have q1 : ¬ 257 + P * 8 + D = 1 + P * 32 + D * 4 + 1 := by omega
    have q2 : ¬ 257 + P * 8 + D = 1 + P * 32 + D * 4 + 2 := by omega
    have q3 : ¬ 257 + P * 8 + D = 1 + P * 32 + D * 4 + 3 := by omega
    clear a0
    go_upto_region 7 with fail
    have I5 := H.out.setO false (k := P * 8 + D) (by omega)
    have H5 := I5.setF Sl.zero (k := P * 8 + D) (by omega) (by rw [put_at]; rfl)
    have F4 : Frm [b] w1 (w1.setCell ⟨b, 257 + (P * 8 + D), none⟩ (.bool false)) := (Frm.refl _ _).setCell (by simp) _
    have F5 := F4.trans (frm_setCells b Sl.zero.fcells (1 + P * 32 + D * 4) _)
    have S5 := size_setCells b Sl.zero.fcells (1 + P * 32 + D * 4) (w1.setCell ⟨b, 257 + (P * 8 + D), none⟩ (.bool false))
    rw [World.size_setCell] at S5
    rw [put_put, show 1 + (P * 8 + D) * 4 = 1 + P * 32 + D * 4 from by omega] at H5
    simp only [Sl.fcells, Sl.zero, World.setCells, Nat.add_assoc, Nat.reduceAdd] at H5 F5 S5
    simp only [Nat.add_assoc]
    generalize (((((w1.setCell ⟨b, 257 + (P * 8 + D), none⟩ (.bool false)).setCell ⟨b, 1 + (P * 32 + D * 4), none⟩ (.int .i64 0)).setCell ⟨b, 1 + (P * 32 + (D * 4 + 1)), none⟩ (.int .i64 0)).setCell ⟨b, 1 + (P * 32 + (D * 4 + 2)), none⟩ (.int .i64 0)).setCell ⟨b, 1 + (P * 32 + (D * 4 + 3)), none⟩ (.int .i64 0)) = w5 at *
    have c10 : (w5.alloc (.cells #[.int .i64 y.m, .int .i64 y.n] 30)).cell? ⟨w1.heap.size, 0, none⟩ = some (.int .i64 y.m) := by rw [← S5]; simp
    have c11 : (w5.alloc (.cells #[.int .i64 y.m, .int .i64 y.n] 30)).cell? ⟨w1.heap.size, 1, none⟩ = some (.int .i64 y.n) := by rw [← S5]; simp
    have B6 : Below w5.heap.size w5 (w5.alloc (.cells #[.int .i64 y.m, .int .i64 y.n] 30)) := (Below.refl _ _).alloc (Nat.le_refl _) _
    have F6 := F5.trans (Frm.of_below B6)
    have u0 := (World.cell?_of_block (w := w1) (a := ⟨w.heap.size, 0, none⟩) (F6.block _ hs1 (by simpa using n3))).trans v0
    have u1 := (World.cell?_of_block (w := w1) (a := ⟨w.heap.size, 1, none⟩) (F6.block _ hs1 (by simpa using n3))).trans v1
    have uz : ∀ j, (w5.alloc (.cells #[.int .i64 y.m, .int .i64 y.n] 30)).frozen? ⟨w.heap.size, j, none⟩ = false := fun j => (World.frozen?_of_block (w := w1) (a := ⟨w.heap.size, j, none⟩) (F6.block _ hs1 (by simpa using n3))).trans (z0 j)
    have H6 := Lib.hid (H5.below B6)
    have FF : Hid (Frm [b] w (w5.alloc (.cells #[.int .i64 y.m, .int .i64 y.n] 30))) := Lib.hid ((Frm.of_below HB.out).trans F6)
    clear c0 c1 c2 c3 ci hfz v0 v1 z0 H5 F4 F5 F6 B6 S5 I5
    generalize w5.alloc (.cells #[.int .i64 y.m, .int .i64 y.n] 30) = w6 at *
    go_wp2_with fail
    refine bodyPost_ret (by simp [results, Try.results17, go_sem, u0, u1]; try rfl) rfl ?_
    have F7 : Frm [w.heap.size] w6 ((w6.setCell ⟨w.heap.size, 0, none⟩ (.int .i64 y.m)).setCell ⟨w.heap.size, 1, none⟩ (.int .i64 y.n)) := ((Frm.refl _ _).setCell (by simp) _).setCell (by simp) _
    exact ⟨rfl, H6.out.frm F7 (by simpa using n4), FF.out.over F7 (by simp)⟩
  · have e : opClose s p fd = ((0, 0, why s p fd), s) := by unfold opClose; rw [if_neg hw]
    rw [e]
    have e1 : (why s p fd != 0) = true := by simpa using hw
    clear e hw
    go_enter Try.func17, Try.ntmps17
    go_wp2_with fail
    refine (rcheck_any H.out _ _).mono ?_
    rintro e w1 ⟨rfl, rfl⟩
    go_wp2_with fail
    go_returns
    exact ⟨rfl, by first | exact H.out | exact H0.out.below ((Below.refl _ _).alloc (Nat.le_refl _) _), Frm.of_below (by go_grown)⟩
end Go.Proofs.Ytfmhiamgfhdmmaa
