/- The walk of ArenaKept. -/
import Derived.Test.YtpmolcbfjjibgaaLive
import Derived.Deep.RegionLaw
import Derived.Deep.DeepMust
namespace Go.Proofs.Ytpmolcbfjjibgaa
open Go.RowKit

def q1 : AS := { sl := [(1, 1), (0, 0), (0, 0)], free := [1, 2], stale := 0 }
def q2 : AS := { sl := [(1, 1), (1, 2), (0, 0)], free := [2], stale := 0 }
theorem qw1 : wrap64 (((AS.new 3 3).sl.getD 0 (0, 0)).fst + 1) = 1 := by decide +kernel
theorem qw2 : wrap64 ((q1.sl.getD 1 (0, 0)).fst + 1) = 1 := by decide +kernel
theorem q2_handles : handles q2.sl = [(0, 1), (1, 1)] := by decide +kernel

set_option maxRecDepth 100000 in
set_option maxHeartbeats 1000000 in
theorem kept_any (w : World) : Calls Try.prog 4 #[] w fun e w' => e = .returned (.bool true) ∧ Below w.heap.size w w' := by
  go_enter Try.func4, Try.ntmps4
  go_wp2_with fail
  refine (ar_new 3 w (by omega) (by omega)).mono ?_
  rintro e w1 ⟨rfl, ⟨l1, a1⟩, B1⟩
  have A1 := Lib.hid a1
  have HB1 := Lib.hid B1
  clear a1 B1
  go_wp2_with fail
  refine (ar_take A1.out 1 0 [1, 2] rfl (by decide)).mono ?_
  rintro e w2 ⟨rfl, a2, f2⟩
  rw [qw1] at a2 ⊢
  have A2 : Hid (Ar w2 w.heap.size (w.heap.size + 1) l1 q1) := a2
  have B2 := Lib.hid (below_ar HB1.out A1.out f2 (Nat.le_refl _))
  clear a2 f2
  go_wp2_with fail
  refine (ar_take A2.out 2 1 [2] rfl (by decide)).mono ?_
  rintro e w3 ⟨rfl, a3, f3⟩
  rw [qw2] at a3 ⊢
  have A3 : Hid (Ar w3 w.heap.size (w.heap.size + 1) l1 q2) := a3
  have B3 := Lib.hid (below_ar B2.out A2.out f3 (Nat.le_refl _))
  clear a3 f3
  go_wp2_with fail
  refine (ar_live A3.out).mono ?_
  rintro e w4 ⟨v, rfl, hv, b4⟩
  rw [q2_handles] at hv
  have hvl : 0 < [((0 : Int), (1 : Int)), (1, 1)].length := by decide
  obtain ⟨f, o, cap, rfl⟩ := hv.form hvl
  have hflt := hv.lt f rfl
  have A4 := Lib.hid (A3.out.below b4)
  have B4 := Lib.hid (B3.out.trans (b4.mono B3.out.size))
  have hfl : f ∉ l1 := fun hm => by have := (A3.out.foot_lt f hm).2; omega
  have hex : ∀ j, j < 4 → ∃ v, w4.cell? ⟨f, o + j, none⟩ = some v := fun j hj => ⟨_, (hv.cells j (by simpa using hj)).trans (List.getElem?_eq_getElem (by rw [prs_length]; simpa using hj))⟩
  have hfz : ∀ j, w4.frozen? ⟨f, j, none⟩ = false := hv.free
  have hcap := hv.bound
  clear hv b4
  simp only [List.length_cons, List.length_nil, Nat.zero_add, Nat.reduceAdd]
  go_wp2_with fail
  go_loopw [4] (fun iv wr => ∃ k : Nat, k ≤ 2 ∧ iv = .int .i64 k ∧ Hid (Frm [f] w4 wr) ∧ (∀ j, j < 4 → ∃ v, wr.cell? ⟨f, o + j, none⟩ = some v) ∧ (∀ j, wr.frozen? ⟨f, j, none⟩ = false)) (fun iv _ => 2 - (intOf iv).toNat)
  case atStart => exact ⟨0, by omega, rfl, Lib.hid (Frm.refl _ _), hex, hfz⟩
  case round =>
    obtain ⟨k, hk, rfl, HF, hex2, hfz2⟩ := hrel
    clear hex hfz
    by_cases hlt : k < 2
    · obtain ⟨v, hv⟩ := hex2 (k * 2) (by omega)
      have hz := hfz2 (o + k * 2)
      have hk1 : (k : Int) < 2 := by omega
      have hk0 : (0 : Int) ≤ (k : Int) := by omega
      go_wp2_with fail
      go_roundw
      case rel =>
        refine ⟨k + 1, by omega, by go_num, Lib.hid (HF.out.setCell (by simp) _), fun j hj => ?_, fun j => by rw [World.frozen?_setCell]; exact hfz2 j⟩
        by_cases e : k * 2 = j
        · subst e; exact ⟨_, World.cell?_setCell_same (u := v) _ _ _ hv⟩
        · rw [World.cell?_setCell_other _ _ _ _ (by intro hh; injection hh; omega)]; exact hex2 j hj
      case measure => simp [intOf]; omega
    · obtain rfl : k = 2 := by omega
      have A5 := Lib.hid (A4.out.frm HF.out (by simpa using hfl))
      have B5 := Lib.hid (B4.out.trans (HF.out.below (B := w.heap.size) B4.out.size (by simp; have := B3.out.size; omega)))
      clear hex2 hfz2
      go_wp2_with fail
      refine (ar_live A5.out).mono ?_
      rintro e w6 ⟨v6, rfl, hv6, b6⟩
      rw [q2_handles] at hv6
      obtain ⟨f6, o6, cap6, rfl⟩ := hv6.form hvl
      have c0 := hv6.cells 0 (by decide)
      have c1 := hv6.cells 2 (by decide)
      rw [show (prs [((0 : Int), (1 : Int)), (1, 1)])[0]? = some (.int .i64 0) from rfl] at c0
      rw [show (prs [((0 : Int), (1 : Int)), (1, 1)])[2]? = some (.int .i64 1) from rfl] at c1
      have B6 := Lib.hid (B5.out.trans (b6.mono B5.out.size))
      have hcap6 := hv6.bound
      clear hv6 b6
      simp only [List.length_cons, List.length_nil, Nat.zero_add, Nat.reduceAdd]
      simp only [Nat.add_zero] at c0
      go_wp2_with fail
      refine (known_any _).mono ?_
      rintro e w7 ⟨rfl, b7⟩
      go_wp2_with fail
      go_ret
      exact ⟨rfl, B6.out.trans (b7.mono B6.out.size)⟩
end Go.Proofs.Ytpmolcbfjjibgaa
