/- The book's Within; a slice of ints that came in. -/
import Derived.Test.YtpmolcbfjjibgaaProg
import Derived.WalkKit
import Derived.WalkSpells
import Derived.Outline
import Derived.Handy
import Derived.Lib.Hide
namespace Go.Proofs.Ytpmolcbfjjibgaa
open Go.RowKit

theorem ret_int {k : IntKind} {a b : Int} (h : a = b) : Ending.returned (.int k a) = .returned (.int k b) := by rw [h]
theorem within_any (n lo hi : Int) (w : World) (h3 : 0 ≤ lo) (h4 : lo ≤ hi) (h5 : hi ≤ 1000000) :
    Calls Try.prog 8 #[.int .i64 n, .int .i64 lo, .int .i64 hi] w fun e w' => e = .returned (.int .i64 (lo + n % (hi - lo + 1))) ∧ w = w' := by
  by_cases hn : 0 ≤ n
  · have hr : 0 ≤ n % (hi - lo + 1) ∧ n % (hi - lo + 1) < hi - lo + 1 := ⟨Int.emod_nonneg _ (by omega), Int.emod_lt_of_pos _ (by omega)⟩
    have hd : decide (n % (hi - lo + 1) < 0) = false := by simp; omega
    go_enter Try.func8, Try.ntmps8
    go_wp2
    go_ret
    exact ⟨rfl, rfl⟩
  · have hm : (hi - lo + 1) ≠ 0 := by omega
    have e1 : n.tmod (hi - lo + 1) = -((-n) % (hi - lo + 1)) := by
      rw [← Int.tmod_eq_emod_of_nonneg (by omega), Int.neg_tmod]; omega
    have hr : 0 ≤ (-n) % (hi - lo + 1) ∧ (-n) % (hi - lo + 1) < hi - lo + 1 := ⟨Int.emod_nonneg _ (by omega), Int.emod_lt_of_pos _ (by omega)⟩
    have e2 : n % (hi - lo + 1) = if (-n) % (hi - lo + 1) = 0 then 0 else (hi - lo + 1) - (-n) % (hi - lo + 1) := by
      have q := Int.emod_add_mul_ediv (-n) (hi - lo + 1)
      split
      · rename_i h
        rw [h, Int.zero_add] at q
        rw [show n = (hi - lo + 1) * (-((-n) / (hi - lo + 1))) from by rw [Int.mul_neg, q]; omega]
        exact Int.mul_emod_right _ _
      · rename_i h
        have e3 : n = ((hi - lo + 1) - (-n) % (hi - lo + 1)) + (hi - lo + 1) * (-((-n) / (hi - lo + 1)) - 1) := by
          rw [Int.mul_sub, Int.mul_neg, Int.mul_one]; omega
        rw [e3, Int.add_mul_emod_self_left, ← e3]
        exact Int.emod_eq_of_lt (by omega) (by omega)
    obtain ⟨x, hx⟩ : ∃ x, (-n) % (hi - lo + 1) = x := ⟨_, rfl⟩
    rw [hx] at e1 e2 hr
    have E1 := Lib.hid e1
    have E2 := Lib.hid e2
    clear e1 e2 hx
    by_cases h0 : x = 0
    · subst h0
      have e1 : n.tmod (hi - lo + 1) = 0 := by rw [E1.out]; rfl
      go_enter Try.func8, Try.ntmps8
      go_wp2
      go_ret
      exact ⟨by rw [E2.out]; simp, rfl⟩
    · have e1 := E1.out
      have hneg : n.tmod (hi - lo + 1) < 0 := by omega
      have hlo : -(hi - lo + 1) < n.tmod (hi - lo + 1) := by omega
      clear e1
      have hd : decide (n.tmod (hi - lo + 1) < 0) = true := by simpa using hneg
      go_enter Try.func8, Try.ntmps8
      go_wp2
      go_ret
      refine ⟨ret_int ?_, rfl⟩
      rw [E2.out, if_neg h0]
      have := E1.out
      omega

/-- A slice of ints that came in, as a walk reads it: element i < len lies at a cell of old memory. -/
def RowAt (w : World) (a : Option Addr) (len : Nat) (f : Nat → Int) : Prop :=
  len = 0 ∨ ∃ b off, a = some ⟨b, off, none⟩ ∧ b < w.heap.size ∧ ∀ i, i < len → w.cell? ⟨b, off + i, none⟩ = some (.int .i64 (f i))
end Go.Proofs.Ytpmolcbfjjibgaa
