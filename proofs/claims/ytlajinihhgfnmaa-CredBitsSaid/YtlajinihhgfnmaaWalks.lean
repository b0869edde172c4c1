/- The walks of chapter 8's functions: what each computes. -/
import Derived.Test.YtlajinihhgfnmaaProg
import Derived.Test.YtlajinihhgfnmaaMath
import Derived.WalkKit
import Derived.Outline
import Derived.Handy
import Derived.Deep.RegionHeld3
namespace Go.Proofs.Ytlajinihhgfnmaa
open Go.RowKit


theorem may_any (uid gid n k mode su sg l s want : Int) (w : World) :
    Calls Try.prog 7 #[.agg #[.int .i64 uid, .int .i64 gid], .agg #[.int .i64 n, .int .i64 k, .int .i64 mode, .int .i64 su, .int .i64 sg, .int .i64 l, .int .i64 s], .int .i64 want] w
      fun e w' => e = .returned (.bool (mayB uid gid mode su sg want)) ∧ Below w.heap.size w w' := by
  by_cases h0 : uid = 0
  · subst h0
    rw [may_root]
    go_enter Try.func7, Try.ntmps7
    go_wp2
    go_ret
    exact ⟨rfl, by go_grown⟩
  · have h0' : (uid == 0) = false := by simpa using h0
    by_cases h1 : uid = su
    · subst h1
      rw [may_here _ _ _ _ _ h0]
      go_enter Try.func7, Try.ntmps7
      go_wp2
      go_ret
      exact ⟨rfl, by go_grown⟩
    · rw [may_there _ _ _ _ _ _ h0 h1]
      by_cases h2 : gid = sg
      · subst h2
        rw [if_pos rfl]
        go_enter Try.func7, Try.ntmps7
        go_wp2
        go_ret
        exact ⟨rfl, by go_grown⟩
      · rw [if_neg h2]
        go_enter Try.func7, Try.ntmps7
        go_wp2
        go_ret
        exact ⟨rfl, by go_grown⟩

theorem may_is {uid gid mode su sg want : Int} {r : Bool} (h : mayB uid gid mode su sg want = r) (n k l s : Int) (w : World) :
    Calls Try.prog 7 #[.agg #[.int .i64 uid, .int .i64 gid], .agg #[.int .i64 n, .int .i64 k, .int .i64 mode, .int .i64 su, .int .i64 sg, .int .i64 l, .int .i64 s], .int .i64 want] w
      fun e w' => e = .returned (.bool r) ∧ Below w.heap.size w w' := h ▸ may_any uid gid n k mode su sg l s want w

theorem bcell {W w1 : World} (hb : Below W.heap.size W w1) : (∀ b o, b < W.heap.size → w1.cell? ⟨b, o, none⟩ = W.cell? ⟨b, o, none⟩) ∧ (∀ b o, b < W.heap.size → w1.frozen? ⟨b, o, none⟩ = W.frozen? ⟨b, o, none⟩) :=
  ⟨fun b o h => hb.cell (p := ⟨b, o, none⟩) h, fun b o h => hb.frozen (p := ⟨b, o, none⟩) h⟩

set_option maxHeartbeats 1000000 in
theorem known_any (w : World) :
    Calls Try.prog 8 #[] w fun e w' => e = .returned (.bool true) ∧ Below w.heap.size w w' := by
  go_enter Try.func8, Try.ntmps8
  go_wp2_with fail
  refine (may_any _ _ _ _ _ _ _ _ _ _ _).mono ?_
  rintro e w1 ⟨rfl, hb1⟩
  obtain ⟨hc1, hf1⟩ := bcell hb1
  have hz1 : w.heap.size + 1 < w1.heap.size := by have := hb1.size; simp at this; omega
  have hy1 : w.heap.size < w1.heap.size := by omega
  rw [known1]
  go_wp2_with fail
  refine (may_any _ _ _ _ _ _ _ _ _ _ _).mono ?_
  rintro e w2 ⟨rfl, hb2⟩
  obtain ⟨hc2, hf2⟩ := bcell hb2
  have hz2 : w.heap.size + 1 < w2.heap.size := by have := hb2.size; omega
  have hy2 : w.heap.size < w2.heap.size := by omega
  rw [known2]
  go_wp2_with fail
  refine (may_any _ _ _ _ _ _ _ _ _ _ _).mono ?_
  rintro e w3 ⟨rfl, hb3⟩
  obtain ⟨hc3, hf3⟩ := bcell hb3
  have hz3 : w.heap.size + 1 < w3.heap.size := by have := hb3.size; omega
  have hy3 : w.heap.size < w3.heap.size := by omega
  rw [may_root]
  go_wp2_with fail
  refine (may_any _ _ _ _ _ _ _ _ _ _ _).mono ?_
  rintro e w4 ⟨rfl, hb4⟩
  rw [known4]
  go_wp2_with fail
  go_ret
  refine ⟨rfl, ?_⟩
  have h := (((Below.refl w.heap.size w).alloc (Nat.le_refl _) (.cells #[.int .i64 1, .int .i64 1] 23)).alloc (by simp) (.cells #[.int .i64 0, .int .i64 0, .int .i64 448, .int .i64 1, .int .i64 1, .int .i64 0, .int .i64 0] 25))
  exact (((h.trans (hb1.mono (by simp; omega))).trans (hb2.mono (by omega))).trans (hb3.mono (by omega))).trans (hb4.mono (by omega))
end Go.Proofs.Ytlajinihhgfnmaa
