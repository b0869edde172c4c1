/- Chapter 3's arena: the slot of a handle. -/
import Derived.Test.YtpmolcbfjjibgaaMem
namespace Go.Proofs.Ytpmolcbfjjibgaa
open Go.RowKit

theorem find_arg (base b c : Nat) (fv : Value) (s : AS) (k g : Int) (w : World) (h : IsAr w base b c fv s) (hk : k < 0 ∨ (s.sl.length : Int) ≤ k) :
    Calls Try.prog 26 #[.pointer (some ⟨b, 0, none⟩), .agg #[.int .i64 k, .int .i64 g]] w fun e w' => e = .returned (.tuple #[.pointer none, .int .i64 1]) ∧ Below w.heap.size w w' := by
  have h1 := h.hb.1
  have hlt := h.hb.lt
  have hlt' : ¬ b = w.heap.size := by omega
  simp only [AS.cells] at h1
  clear h
  by_cases h0 : k < 0
  · have hd : decide (k < 0) = true := by simpa using h0
    go_enter Try.func26, Try.ntmps26
    go_wp2_with fail
    go_quiet (fail)
    go_wp2_with fail
    go_ret2
    exact ⟨rfl, below_drewN ((Below.refl _ _).alloc (Nat.le_refl _) _) _⟩
  · have hd : decide (k < 0) = false := by simpa using h0
    have hd2 : decide (k ≥ (s.sl.length : Int)) = true := by simp; omega
    go_enter Try.func26, Try.ntmps26
    go_wp2_with fail
    go_quiet (fail)
    go_wp2_with fail
    go_ret2
    exact ⟨rfl, below_drewN ((Below.refl _ _).alloc (Nat.le_refl _) _) _⟩

theorem find_ok (base b c : Nat) (fv : Value) (s : AS) (k : Nat) (g : Int) (w : World) (h : IsAr w base b c fv s) (hk : k < s.sl.length) (hg : (s.sl.getD k (0, 0)).1 = g) (h2 : g % 2 = 1) :
    Calls Try.prog 26 #[.pointer (some ⟨b, 0, none⟩), .agg #[.int .i64 k, .int .i64 g]] w fun e w' => e = .returned (.tuple #[.pointer (some ⟨c, k * 2, none⟩), .int .i64 0]) ∧ Below w.heap.size w w' := by
  have hgc := (h.hc.cell (k * 2)).trans (pairs_get s.sl k hk).1
  rw [hg] at hgc
  clear hg
  have h1 := h.hb.1
  have hlt := h.hb.lt
  have hlc := h.hc.lt
  have hlt' : ¬ b = w.heap.size := by omega
  have hlc' : ¬ c = w.heap.size := by omega
  simp only [AS.cells] at h1
  have hd : decide ((k : Int) < 0) = false := by simp
  have hd2 : decide ((k : Int) ≥ (s.sl.length : Int)) = false := by simp; omega
  have hk0 : (0 : Int) ≤ (k : Int) := by omega
  have hk1 : (k : Int) < (s.sl.length : Int) := by omega
  have hb2 : (bits BinOp.and IntKind.i64 g 1 == 0) = false := by rw [and1, h2]; rfl
  clear h
  go_enter Try.func26, Try.ntmps26
  go_wp2_with fail
  go_quiet (fail)
  go_wp2_with fail
  go_quiet (fail)
  go_wp2_with fail
  go_quiet (fail)
  go_wp2_with fail
  go_ret2
  exact ⟨rfl, below_drewN (below_drewN (below_drewN ((Below.refl _ _).alloc (Nat.le_refl _) _) _) _) _⟩

theorem find_gone (base b c : Nat) (fv : Value) (s : AS) (k : Nat) (g : Int) (w : World) (h : IsAr w base b c fv s) (hk : k < s.sl.length) (hg : (s.sl.getD k (0, 0)).1 ≠ g ∨ g % 2 = 0) :
    Calls Try.prog 26 #[.pointer (some ⟨b, 0, none⟩), .agg #[.int .i64 k, .int .i64 g]] w fun e w' => e = .returned (.tuple #[.pointer none, .int .i64 14]) ∧ IsAr w' base b c fv { s with stale := wrap64 (s.stale + 1) } ∧ Frm [b] w w' := by
  have H := Lib.hid h
  have hgc := (h.hc.cell (k * 2)).trans (pairs_get s.sl k hk).1
  obtain ⟨x, ex⟩ : ∃ x, (s.sl.getD k (0, 0)).1 = x := ⟨_, rfl⟩
  rw [ex] at hgc hg
  clear ex
  have h1 := h.hb.1
  have hbz := h.hb.2.1
  have hlt := h.hb.lt
  have hlc := h.hc.lt
  have hlt' : ¬ b = w.heap.size := by omega
  have hlc' : ¬ c = w.heap.size := by omega
  simp only [AS.cells] at h1
  have hd : decide ((k : Int) < 0) = false := by simp
  have hd2 : decide ((k : Int) ≥ (s.sl.length : Int)) = false := by simp; omega
  have hk0 : (0 : Int) ≤ (k : Int) := by omega
  have hk1 : (k : Int) < (s.sl.length : Int) := by omega
  have hpost : ∀ n, IsAr (((w.alloc (Obj.cells #[Value.int IntKind.i64 k, Value.int IntKind.i64 g] 30)).drewN n).setCell ⟨b, 2, none⟩ (.int .i64 (wrap64 (s.stale + 1))) ) base b c fv { s with stale := wrap64 (s.stale + 1) } := by
    intro n
    have h := H.out
    refine ⟨?_, ?_, ?_, h.bc, h.fb, h.fc, h.le, h.b0, h.c0⟩
    · have := ((h.hb.alloc (Obj.cells #[Value.int IntKind.i64 k, Value.int IntKind.i64 g] 30)).drewN n).set 2 (.int .i64 (wrap64 (s.stale + 1))) (by simp [AS.cells])
      simpa [AS.cells] using this
    · exact ((h.hc.alloc (Obj.cells #[Value.int IntKind.i64 k, Value.int IntKind.i64 g] 30)).drewN n).other (a := ⟨b, 2, none⟩) h.bc _
    · refine h.hf.frm (l := [b]) ((((Frm.refl [b] w).alloc _).drewN n).setCell (by simp) _) ?_
      intro j hj e
      simp at hj
      subst hj
      exact h.fb e
  clear h
  have fin : ∀ n, Frm [b] w (((w.alloc (Obj.cells #[Value.int IntKind.i64 k, Value.int IntKind.i64 g] 30)).drewN n).setCell ⟨b, 2, none⟩ (.int .i64 (wrap64 (s.stale + 1)))) := fun n => (((Frm.refl [b] w).alloc _).drewN n).setCell (by simp) _
  by_cases hx : x = g
  · subst hx
    have hb2 : (bits BinOp.and IntKind.i64 x 1 == 0) = true := by
      rw [and1, hg.resolve_left (fun h => h rfl)]; rfl
    go_enter Try.func26, Try.ntmps26
    go_wp2_with fail
    go_quiet (fail)
    go_wp2_with fail
    go_quiet (fail)
    go_wp2_with fail
    go_quiet (fail)
    go_wp2_with fail
    go_ret2
    exact ⟨rfl, hpost _, fin _⟩
  · have hx' : (x != g) = true := by simpa using hx
    go_enter Try.func26, Try.ntmps26
    go_wp2_with fail
    go_quiet (fail)
    go_wp2_with fail
    go_quiet (fail)
    go_wp2_with fail
    go_quiet (fail)
    go_wp2_with fail
    go_ret2
    exact ⟨rfl, hpost _, fin _⟩
end Go.Proofs.Ytpmolcbfjjibgaa
