/- The walks of warrenbook.Same over handles, and of ArenaNumbers. -/
import Derived.Test.YtpmolcbfjjibgaaLive
import Derived.Deep.RegionLaw
import Derived.Deep.RegionHeld3
import Derived.Deep.DeepMust
import Derived.Deep.CutRange
import Derived.Deep.DeepCutAuto
namespace Go.Proofs.Ytpmolcbfjjibgaa
open Go.RowKit

set_option maxRecDepth 100000 in
set_option maxHeartbeats 1000000 in
theorem same_yes (w : World) (n b1 o1 c1 b2 o2 c2 : Nat) (f g : Nat → Int) (hn : n ≤ 64)
    (h1 : ∀ i, i < n → w.cell? ⟨b1, o1 + i * 2, none⟩ = some (.int .i64 (f i)) ∧ w.cell? ⟨b1, o1 + i * 2 + 1, none⟩ = some (.int .i64 (g i)))
    (h2 : ∀ i, i < n → w.cell? ⟨b2, o2 + i * 2, none⟩ = some (.int .i64 (f i)) ∧ w.cell? ⟨b2, o2 + i * 2 + 1, none⟩ = some (.int .i64 (g i))) :
    Calls Try.prog 18 #[.slice (some ⟨b1, o1, none⟩) n c1, .slice (some ⟨b2, o2, none⟩) n c2] w fun e w' => e = .returned (.bool true) ∧ Below w.heap.size w w' := by
  go_enter Try.func18, Try.ntmps18
  go_wp2_with fail
  go_loopw [5] (fun iv wr => ∃ k : Nat, k ≤ n ∧ iv = .int .i64 k ∧ Hid (Below w.heap.size w wr) ∧ Hid (∀ b o, wr.cell? ⟨b, o, none⟩ = w.cell? ⟨b, o, none⟩)) (fun iv _ => n - (intOf iv).toNat)
  case atStart => exact ⟨0, by omega, rfl, Lib.hid (Below.refl _ _), Lib.hid (fun _ _ => rfl)⟩
  case round =>
    obtain ⟨k, hk, rfl, HB, HC⟩ := hrel
    by_cases hlt : k < n
    · have a0 := (HC.out b1 (o1 + k * 2)).trans (h1 k hlt).1
      have a1 := (HC.out b1 (o1 + k * 2 + 1)).trans (h1 k hlt).2
      have a2 := (HC.out b2 (o2 + k * 2)).trans (h2 k hlt).1
      have a3 := (HC.out b2 (o2 + k * 2 + 1)).trans (h2 k hlt).2
      have hk0 : (0 : Int) ≤ (k : Int) := by omega
      have hk1 : (k : Int) < (n : Int) := by omega
      have H1 := Lib.hid h1
      have H2 := Lib.hid h2
      clear h1 h2
      go_wp2_with fail
      go_quiet (fail)
      go_wp2_with fail
      go_roundw
      case rel => exact ⟨k + 1, by omega, by go_num, Lib.hid (below_drewN HB.out _), Lib.hid HC.out⟩
      case measure => simp [intOf]; omega
    · obtain rfl : k = n := by omega
      have H1 := Lib.hid h1
      have H2 := Lib.hid h2
      clear h1 h2
      go_wp2_with fail
      go_ret
      exact ⟨rfl, HB.out⟩

def n1 : AS := { sl := [(0, 0), (0, 0), (0, 0)], free := [0, 1, 2], stale := 1 }
def n2 : AS := { sl := [(1, 7), (0, 0), (0, 0)], free := [1, 2], stale := 1 }
def n3 : AS := { sl := [(1, 8), (0, 0), (0, 0)], free := [1, 2], stale := 1 }
def n4 : AS := { sl := [(2, 0), (0, 0), (0, 0)], free := [1, 2, 0], stale := 1 }
def n5 : AS := { sl := [(2, 0), (0, 0), (0, 0)], free := [1, 2, 0], stale := 2 }
def n6 : AS := { sl := [(2, 0), (1, 1), (0, 0)], free := [2, 0], stale := 2 }
theorem nw1 : wrap64 ((AS.new 3 3).stale + 1) = 1 := by decide +kernel
theorem nw2 : wrap64 ((n1.sl.getD 0 (0, 0)).fst + 1) = 1 := by decide +kernel
theorem nw5 : wrap64 (n4.stale + 1) = 2 := by decide +kernel
theorem nw6 : wrap64 ((n5.sl.getD 1 (0, 0)).fst + 1) = 1 := by decide +kernel
theorem n6_handles : handles n6.sl = [(1, 1)] := by decide +kernel

set_option maxRecDepth 100000 in
set_option maxHeartbeats 1000000 in
theorem numbers_any (w : World) : Calls Try.prog 6 #[] w fun e w' => e = .returned (.bool true) ∧ Below w.heap.size w w' := by
  go_enter Try.func6, Try.ntmps6
  go_wp2_with fail
  refine (new_no 0 w (by omega)).mono ?_
  rintro e w0 ⟨rfl, rfl⟩
  go_wp2_with fail
  refine (new_no 65 w (by omega)).mono ?_
  rintro e w0 ⟨rfl, rfl⟩
  go_wp2_with fail
  refine (ar_new 3 w (by omega) (by omega)).mono ?_
  rintro e w1 ⟨rfl, ⟨l1, a1⟩, B1⟩
  have A1 := Lib.hid a1
  have HB1 := Lib.hid B1
  clear a1 B1
  go_wp2_with fail
  refine (ar_get_gone A1.out 0 0 (by decide) (by decide)).mono ?_
  rintro e w2 ⟨rfl, a2, f2⟩
  rw [nw1] at a2
  have A2 : Hid (Ar w2 w.heap.size (w.heap.size + 1) l1 n1) := a2
  have B2 := Lib.hid (below_ar HB1.out A1.out f2 (Nat.le_refl _))
  clear a2 f2
  go_wp2_with fail
  refine (ar_get_arg A2.out 3 1 (by decide)).mono ?_
  rintro e w3 ⟨rfl, b3⟩
  have A3 := Lib.hid (A2.out.below b3)
  have B3 := Lib.hid (B2.out.trans (b3.mono B2.out.size))
  clear b3
  go_wp2_with fail
  refine (ar_take A3.out 7 0 [1, 2] rfl (by decide)).mono ?_
  rintro e w4 ⟨rfl, a4, f4⟩
  rw [nw2] at a4 ⊢
  have A4 : Hid (Ar w4 w.heap.size (w.heap.size + 1) l1 n2) := a4
  have B4 := Lib.hid (below_ar B3.out A3.out f4 (Nat.le_refl _))
  clear a4 f4
  go_wp2_with fail
  have hs4 : w.heap.size ≤ w4.heap.size := B4.out.size
  have V4 := Lib.hid (HVar.new w4 0 1)
  have X4 := Lib.hid A4.out.out
  have A4' := Lib.hid (A4.out.alloc (.cells #[.int .i64 0, .int .i64 1] 30))
  have B4' := Lib.hid (B4.out.alloc hs4 (.cells #[.int .i64 0, .int .i64 1] 30))
  refine (ar_set A4'.out 0 1 8 (by decide) rfl (by decide)).mono ?_
  rintro e w5 ⟨rfl, a5, f5⟩
  have A5 : Hid (Ar w5 w.heap.size (w.heap.size + 1) l1 n3) := a5
  have V5 := Lib.hid (V4.out.frm f5 X4.out)
  have B5 := Lib.hid (below_ar B4'.out A4'.out f5 (Nat.le_refl _))
  have v0 := HVar.c0 V5.out
  have v1 := HVar.c1 V5.out
  have hs5 : w4.heap.size + 1 ≤ w5.heap.size := by have := f5.size; simpa using this
  clear a5 f5 V4 A4' B4'
  go_wp2_with fail
  refine (ar_get A5.out 0 1 (by decide) rfl (by decide)).mono ?_
  rintro e w6 ⟨rfl, b6⟩
  rw [show (n3.sl.getD 0 (0, 0)).2 = 8 from rfl]
  have A6 := Lib.hid (A5.out.below b6)
  have V6 := Lib.hid (Holds.below V5.out b6)
  have B6 := Lib.hid (B5.out.trans (b6.mono B5.out.size))
  have hs6 : w5.heap.size ≤ w6.heap.size := b6.size
  clear b6 v0 v1
  have v0 := HVar.c0 V6.out
  have v1 := HVar.c1 V6.out
  go_wp2_with fail
  refine (ar_free A6.out 0 1 (by decide) rfl (by decide) (by decide)).mono ?_
  rintro e w7 ⟨rfl, ⟨l7, a7, fr7⟩, f7⟩
  rw [kw4] at a7
  have A7 : Hid (Ar w7 w.heap.size (w.heap.size + 1) l7 n4) := a7
  have V7 := Lib.hid (Holds.frm V6.out f7 X4.out)
  have X7 := Lib.hid (fr7.out X4.out (by omega))
  have B7 := Lib.hid (below_ar B6.out A6.out f7 (Nat.le_refl _))
  have hs7 : w6.heap.size ≤ w7.heap.size := f7.size
  clear v0 v1 a7 fr7 f7
  have v0 := HVar.c0 V7.out
  have v1 := HVar.c1 V7.out
  go_wp2_with fail
  refine (ar_free_gone A7.out 0 1 (by decide) (by decide)).mono ?_
  rintro e w8 ⟨rfl, a8, f8⟩
  rw [nw5] at a8
  have A8 : Hid (Ar w8 w.heap.size (w.heap.size + 1) l7 n5) := a8
  have B8 := Lib.hid (below_ar B7.out A7.out f8 (Nat.le_refl _))
  have hs8 : w7.heap.size ≤ w8.heap.size := f8.size
  clear a8 f8 v0 v1
  go_wp2_with fail
  refine (ar_take A8.out 1 1 [2, 0] rfl (by decide)).mono ?_
  rintro e w9 ⟨rfl, a9, f9⟩
  rw [nw6] at a9 ⊢
  have A9 : Hid (Ar w9 w.heap.size (w.heap.size + 1) l7 n6) := a9
  have B9 := Lib.hid (below_ar B8.out A8.out f9 (Nat.le_refl _))
  have hs9 : w8.heap.size ≤ w9.heap.size := f9.size
  clear a9 f9
  go_upto_region 14 with fail
  have V9 := Lib.hid (HVar.new w9 1 1)
  have A9' := Lib.hid (A9.out.alloc (.cells #[.int .i64 1, .int .i64 1] 30))
  have B9' := Lib.hid (B9.out.alloc (by omega) (.cells #[.int .i64 1, .int .i64 1] 30))
  have hw9 : (w9.alloc (.cells #[.int .i64 1, .int .i64 1] 30)).heap.size = w9.heap.size + 1 := by simp
  have v0 := HVar.c0 V9.out
  have v1 := HVar.c1 V9.out
  have hsz : w.heap.size ≤ w9.heap.size := by omega
  clear A1 A2 A3 A4 A5 A6 A7 A8 A9 B2 B3 B4 B5 B6 B7 B8 B9 HB1 V5 V6 V7 X4 X7 hs4 hs5 hs6 hs7 hs8 hs9
  generalize w9.alloc (.cells #[.int .i64 1, .int .i64 1] 30) = w10 at *
  have P10 : Hid (∀ W, Below w10.heap.size w10 W → Ar W w.heap.size (w.heap.size + 1) l7 n6) := Lib.hid (fun W hW => A9'.out.below hW)
  have S10 : Hid (∀ W, Below w10.heap.size w10 W → W.cell? ⟨w9.heap.size, 0, none⟩ = some (.int .i64 1) ∧ W.cell? ⟨w9.heap.size, 1, none⟩ = some (.int .i64 1)) := Lib.hid (fun W hW => ⟨(hW.cell (p := ⟨w9.heap.size, 0, none⟩) (by show w9.heap.size < w10.heap.size; omega)).trans v0, (hW.cell (p := ⟨w9.heap.size, 1, none⟩) (by show w9.heap.size < w10.heap.size; omega)).trans v1⟩)
  have L10 : Hid (∀ W, Below w10.heap.size w10 W → Calls Try.prog 13 #[.pointer (some ⟨w.heap.size + 1, 0, none⟩)] W fun e w' => ∃ f o c, e = .returned (.slice (some ⟨f, o, none⟩) 1 c) ∧ Hid (Below w10.heap.size w10 w') ∧ Hid (Below W.heap.size W w') ∧ Hid (∀ X, Below w'.heap.size w' X → ∀ i, i < 1 → X.cell? ⟨f, o + i * 2, none⟩ = some (.int .i64 1) ∧ X.cell? ⟨f, o + i * 2 + 1, none⟩ = some (.int .i64 1))) := by
    refine Lib.hid (fun W hW => ?_)
    refine (ar_live (P10.out W hW)).mono ?_
    rintro e w' ⟨v, rfl, hv, hb⟩
    rw [n6_handles] at hv
    have hp : 0 < [((1 : Int), (1 : Int))].length := by decide
    obtain ⟨f, o, c, rfl⟩ := hv.form hp
    refine ⟨f, o, c, rfl, Lib.hid (hW.trans (hb.mono hW.size)), Lib.hid hb, Lib.hid (fun X hX i hi => ?_)⟩
    obtain rfl : i = 0 := by omega
    have hf := (hv.lt f rfl).2
    exact ⟨(hX.cell (p := ⟨f, o + 0 * 2, none⟩) hf).trans (hv.cells 0 (by decide)), (hX.cell (p := ⟨f, o + 0 * 2 + 1, none⟩) hf).trans (hv.cells 1 (by decide))⟩
  clear A9' V9 hw9
  go_region_held3 (fun w' => w'.cell? ⟨w9.heap.size, 0, none⟩ = some (.int .i64 1) ∧ w'.cell? ⟨w9.heap.size, 1, none⟩ = some (.int .i64 1)) (first | exact ⟨v0, v1⟩ | exact S10.out _ B12.out | exact S10.out _ (B12.out.alloc B12.out.size _) | exact S10.out _ ((Below.refl _ _).alloc (Nat.le_refl _) _) | exact S10.out _ (((Below.refl _ _).drew).alloc (Nat.le_refl _) _) | exact S10.out _ B13.out | exact S10.out _ B14.out) (first | (go_at_call 17; refine (ar_stale (P10.out _ (by first | exact Below.refl _ _ | exact (Below.refl _ _).drew))).mono ?_; rintro e w11 ⟨rfl, rfl⟩) | (go_at_call 15; refine (ar_left (P10.out _ (by first | exact Below.refl _ _ | exact (Below.refl _ _).drew))).mono ?_; rintro e w11 ⟨rfl, rfl⟩) | (go_at_call 13; refine (L10.out _ (by first | exact Below.refl _ _ | exact (Below.refl _ _).drew | exact (Below.refl _ _).alloc (Nat.le_refl _) _ | exact ((Below.refl _ _).drew).alloc (Nat.le_refl _) _)).mono ?_; rintro e w12 ⟨f12, o12, c12, rfl, B12, D12, C12⟩) | (go_at_call 18; refine (same_yes _ 1 _ _ _ _ _ _ (fun _ => 1) (fun _ => 1) (by omega) (by first | exact C12.out _ (Below.refl _ _) | exact C12.out _ ((Below.refl _ _).alloc (Nat.le_refl _) _)) (by intro i hi; obtain rfl : i = 0 := (by omega); first | (refine ⟨?_, ?_⟩ <;> (simp; done)) | (refine ⟨(D12.out.cell (p := ⟨_, 0, none⟩) ?_).trans ?_, (D12.out.cell (p := ⟨_, 1, none⟩) ?_).trans ?_⟩ <;> (simp; done)))).mono ?_; rintro e w13 ⟨rfl, b13⟩; have B13 : Hid (Below w10.heap.size w10 w13) := Lib.hid (by first | exact B12.out.trans (b13.mono B12.out.size) | exact (B12.out.alloc B12.out.size _).trans (b13.mono (B12.out.alloc B12.out.size _).size))) | (go_at_call 12; refine (known_any _).mono ?_; rintro e w14 ⟨rfl, b14⟩; have B14 : Hid (Below w10.heap.size w10 w14) := Lib.hid (B13.out.trans (b14.mono B13.out.size))))
  all_goals
    go_wp2_with fail
    go_ret
    exact ⟨rfl, B9'.out.trans (B14.out.mono B9'.out.size)⟩
end Go.Proofs.Ytpmolcbfjjibgaa
