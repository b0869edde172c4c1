/- Chapter 3's arena as the document has it: check, Get, Set. -/
import Derived.Test.YtpmolcbfjjibgaaRef
namespace Go.Proofs.Ytpmolcbfjjibgaa
open Go.RowKit

theorem check_ok (base b gc vc : Nat) (tv : Value) (s : AS) (k : Nat) (g : Int) (w : World) (h : IsRf w base b gc vc tv s) (hk : k < s.sl.length) (hg : (s.sl.getD k (0, 0)).1 = g) (h2 : g % 2 = 1) (h0 : 0 ≤ g) :
    Calls Try.prog 28 #[.pointer (some ⟨b, 0, none⟩), .agg #[.int .i64 k, .int .i64 g]] w fun e w' => e = .returned (.int .i64 0) ∧ Below w.heap.size w w' := by
  have hgc := (h.hg.cell k).trans (gens_get s.sl k hk)
  rw [hg] at hgc
  clear hg
  have h1 := h.hb.1
  have hlt := h.hb.lt
  have hlc := h.hg.lt
  have hlt' : ¬ b = w.heap.size := by omega
  have hlc' : ¬ gc = w.heap.size := by omega
  simp only [AS.rcells] at h1
  have hd : decide ((k : Int) < 0) = false := by simp
  have hd2 : decide ((k : Int) ≥ (s.sl.length : Int)) = false := by simp; omega
  have hk0 : (0 : Int) ≤ (k : Int) := by omega
  have hk1 : (k : Int) < (s.sl.length : Int) := by omega
  have ht : (Int.tmod g 2 != 1) = false := by
    rw [Int.tmod_eq_emod_of_nonneg h0, h2]; rfl
  clear h
  go_enter Try.func28, Try.ntmps28
  go_wp2_with fail
  go_quiet (fail)
  go_wp2_with fail
  go_quiet (fail)
  go_wp2_with fail
  go_ret
  exact ⟨rfl, below_drewN (below_drewN ((Below.refl _ _).alloc (Nat.le_refl _) _) _) _⟩

theorem check_gone (base b gc vc : Nat) (tv : Value) (s : AS) (k : Nat) (g : Int) (w : World) (h : IsRf w base b gc vc tv s) (hk : k < s.sl.length) (hg : (s.sl.getD k (0, 0)).1 ≠ g ∨ g % 2 = 0) :
    Calls Try.prog 28 #[.pointer (some ⟨b, 0, none⟩), .agg #[.int .i64 k, .int .i64 g]] w fun e w' => e = .returned (.int .i64 14) ∧ IsRf w' base b gc vc tv { s with stale := wrap64 (s.stale + 1) } ∧ Frm [b] w w' := by
  have H := Lib.hid h
  have hgc := (h.hg.cell k).trans (gens_get s.sl k hk)
  obtain ⟨x, ex⟩ : ∃ x, (s.sl.getD k (0, 0)).1 = x := ⟨_, rfl⟩
  rw [ex] at hgc hg
  clear ex
  have h1 := h.hb.1
  have hbz := h.hb.2.1
  have hlt := h.hb.lt
  have hlc := h.hg.lt
  have hlt' : ¬ b = w.heap.size := by omega
  have hlc' : ¬ gc = w.heap.size := by omega
  simp only [AS.rcells] at h1
  have hd : decide ((k : Int) < 0) = false := by simp
  have hd2 : decide ((k : Int) ≥ (s.sl.length : Int)) = false := by simp; omega
  have hk0 : (0 : Int) ≤ (k : Int) := by omega
  have hk1 : (k : Int) < (s.sl.length : Int) := by omega
  have hpost : ∀ n, IsRf (((w.alloc (Obj.cells #[Value.int IntKind.i64 k, Value.int IntKind.i64 g] 50)).drewN n).setCell ⟨b, 3, none⟩ (.int .i64 (wrap64 (s.stale + 1))) ) base b gc vc tv { s with stale := wrap64 (s.stale + 1) } := by
    intro n
    have h := H.out
    refine ⟨?_, ?_, ?_, ?_, h.bg, h.bv, h.gv, h.fb, h.fg, h.fv, h.le, h.b0, h.g0, h.v0⟩
    · have := ((h.hb.alloc (Obj.cells #[Value.int IntKind.i64 k, Value.int IntKind.i64 g] 50)).drewN n).set 3 (.int .i64 (wrap64 (s.stale + 1))) (by simp [AS.rcells])
      simpa [AS.rcells] using this
    · exact ((h.hg.alloc (Obj.cells #[Value.int IntKind.i64 k, Value.int IntKind.i64 g] 50)).drewN n).other (a := ⟨b, 3, none⟩) h.bg _
    · exact ((h.hv.alloc (Obj.cells #[Value.int IntKind.i64 k, Value.int IntKind.i64 g] 50)).drewN n).other (a := ⟨b, 3, none⟩) h.bv _
    · refine h.hf.frm (l := [b]) ((((Frm.refl [b] w).alloc _).drewN n).setCell (by simp) _) ?_
      intro j hj e
      simp at hj
      subst hj
      exact h.fb e
  clear h
  have fin : ∀ n, Frm [b] w (((w.alloc (Obj.cells #[Value.int IntKind.i64 k, Value.int IntKind.i64 g] 50)).drewN n).setCell ⟨b, 3, none⟩ (.int .i64 (wrap64 (s.stale + 1)))) := fun n => (((Frm.refl [b] w).alloc _).drewN n).setCell (by simp) _
  by_cases ht : Int.tmod g 2 = 1
  · have ht' : (Int.tmod g 2 != 1) = false := by rw [ht]; rfl
    have hx' : (x != g) = true := by
      rcases hg with hg | hg
      · simpa using hg
      · have := Int.dvd_of_emod_eq_zero hg
        have := Int.tmod_eq_zero_of_dvd this
        omega
    clear ht
    go_enter Try.func28, Try.ntmps28
    go_wp2_with fail
    go_quiet (fail)
    go_wp2_with fail
    go_quiet (fail)
    go_wp2_with fail
    go_ret
    exact ⟨rfl, hpost _, fin _⟩
  · have ht' : (Int.tmod g 2 != 1) = true := by simpa using ht
    clear ht
    go_enter Try.func28, Try.ntmps28
    go_wp2_with fail
    go_quiet (fail)
    go_wp2_with fail
    go_quiet (fail)
    go_wp2_with fail
    go_ret
    exact ⟨rfl, hpost _, fin _⟩

theorem rget_arg (base b gc vc : Nat) (tv : Value) (s : AS) (k g : Int) (w : World) (h : IsRf w base b gc vc tv s) (hk : k < 0 ∨ (s.sl.length : Int) ≤ k) :
    Calls Try.prog 23 #[.pointer (some ⟨b, 0, none⟩), .agg #[.int .i64 k, .int .i64 g]] w fun e w' => e = .returned (.tuple #[.int .i64 0, .int .i64 1]) ∧ Below w.heap.size w w' := by
  have B0 : Below w.heap.size w (w.alloc (.cells #[.int .i64 k, .int .i64 g] 50)) := (Below.refl _ _).alloc (Nat.le_refl _) _
  have H := Lib.hid (h.below B0)
  clear h
  go_enter Try.func23, Try.ntmps23
  go_wp2_with fail
  refine (check_arg base b gc vc tv s k g _ H.out hk).mono ?_
  rintro e w1 ⟨rfl, b1⟩
  go_wp2_with fail
  go_ret2
  exact ⟨rfl, B0.trans (b1.mono B0.size)⟩
theorem rget_gone (base b gc vc : Nat) (tv : Value) (s : AS) (k : Nat) (g : Int) (w : World) (h : IsRf w base b gc vc tv s) (hk : k < s.sl.length) (hg : (s.sl.getD k (0, 0)).1 ≠ g ∨ g % 2 = 0) :
    Calls Try.prog 23 #[.pointer (some ⟨b, 0, none⟩), .agg #[.int .i64 k, .int .i64 g]] w fun e w' => e = .returned (.tuple #[.int .i64 0, .int .i64 14]) ∧ IsRf w' base b gc vc tv { s with stale := wrap64 (s.stale + 1) } ∧ Frm [b] w w' := by
  have B0 : Below w.heap.size w (w.alloc (.cells #[.int .i64 k, .int .i64 g] 50)) := (Below.refl _ _).alloc (Nat.le_refl _) _
  have H := Lib.hid (h.below B0)
  clear h
  go_enter Try.func23, Try.ntmps23
  go_wp2_with fail
  refine (check_gone base b gc vc tv s k g _ H.out hk hg).mono ?_
  rintro e w1 ⟨rfl, h1, f1⟩
  have H1 := Lib.hid h1
  clear h1 hg
  go_wp2_with fail
  go_ret2
  exact ⟨rfl, H1.out, (Frm.of_below B0).trans f1⟩
theorem rget_ok (base b gc vc : Nat) (tv : Value) (s : AS) (k : Nat) (g : Int) (w : World) (h : IsRf w base b gc vc tv s) (hk : k < s.sl.length) (hg : (s.sl.getD k (0, 0)).1 = g) (h2 : g % 2 = 1) (h0 : 0 ≤ g) :
    Calls Try.prog 23 #[.pointer (some ⟨b, 0, none⟩), .agg #[.int .i64 k, .int .i64 g]] w fun e w' => e = .returned (.tuple #[.int .i64 (s.sl.getD k (0, 0)).2, .int .i64 0]) ∧ Below w.heap.size w w' := by
  obtain ⟨x, hx⟩ : ∃ x, (s.sl.getD k (0, 0)).2 = x := ⟨_, rfl⟩
  rw [hx]
  have HX := Lib.hid hx
  clear hx
  have B0 : Below w.heap.size w (w.alloc (.cells #[.int .i64 k, .int .i64 g] 50)) := (Below.refl _ _).alloc (Nat.le_refl _) _
  have H := Lib.hid (h.below B0)
  clear h
  go_enter Try.func23, Try.ntmps23
  go_wp2_with fail
  refine (check_ok base b gc vc tv s k g _ H.out hk hg h2 h0).mono ?_
  rintro e w1 ⟨rfl, b1⟩
  have hh1 : w1.cell? ⟨w.heap.size, 0, none⟩ = some (.int .i64 k) := (b1.cell (p := ⟨w.heap.size, 0, none⟩) (by simp)).trans (by simp)
  have hv := ((H.out.below b1).hv.cell k).trans (vals_get s.sl k hk)
  have h1 := (H.out.below b1).hb.1
  simp only [AS.rcells] at h1
  clear hg
  rw [HX.out] at hv
  have hk0 : (0 : Int) ≤ (k : Int) := by omega
  have hk1 : (k : Int) < (s.sl.length : Int) := by omega
  go_wp2_with fail
  go_quiet (fail)
  go_wp2_with fail
  go_ret2
  exact ⟨rfl, below_drewN (B0.trans (b1.mono B0.size)) _⟩
theorem rset_arg (base b gc vc : Nat) (tv : Value) (s : AS) (k g v : Int) (w : World) (h : IsRf w base b gc vc tv s) (hk : k < 0 ∨ (s.sl.length : Int) ≤ k) :
    Calls Try.prog 24 #[.pointer (some ⟨b, 0, none⟩), .agg #[.int .i64 k, .int .i64 g], .int .i64 v] w fun e w' => e = .returned (.int .i64 1) ∧ Below w.heap.size w w' := by
  have B0 : Below w.heap.size w (w.alloc (.cells #[.int .i64 k, .int .i64 g] 50)) := (Below.refl _ _).alloc (Nat.le_refl _) _
  have H := Lib.hid (h.below B0)
  clear h
  go_enter Try.func24, Try.ntmps24
  go_wp2_with fail
  refine (check_arg base b gc vc tv s k g _ H.out hk).mono ?_
  rintro e w1 ⟨rfl, b1⟩
  go_wp2_with fail
  go_ret
  exact ⟨rfl, B0.trans (b1.mono B0.size)⟩
theorem rset_gone (base b gc vc : Nat) (tv : Value) (s : AS) (k : Nat) (g v : Int) (w : World) (h : IsRf w base b gc vc tv s) (hk : k < s.sl.length) (hg : (s.sl.getD k (0, 0)).1 ≠ g ∨ g % 2 = 0) :
    Calls Try.prog 24 #[.pointer (some ⟨b, 0, none⟩), .agg #[.int .i64 k, .int .i64 g], .int .i64 v] w fun e w' => e = .returned (.int .i64 14) ∧ IsRf w' base b gc vc tv { s with stale := wrap64 (s.stale + 1) } ∧ Frm [b] w w' := by
  have B0 : Below w.heap.size w (w.alloc (.cells #[.int .i64 k, .int .i64 g] 50)) := (Below.refl _ _).alloc (Nat.le_refl _) _
  have H := Lib.hid (h.below B0)
  clear h
  go_enter Try.func24, Try.ntmps24
  go_wp2_with fail
  refine (check_gone base b gc vc tv s k g _ H.out hk hg).mono ?_
  rintro e w1 ⟨rfl, h1, f1⟩
  have H1 := Lib.hid h1
  clear h1 hg
  go_wp2_with fail
  go_ret
  exact ⟨rfl, H1.out, (Frm.of_below B0).trans f1⟩
theorem rset_ok (base b gc vc : Nat) (tv : Value) (s : AS) (k : Nat) (g v : Int) (w : World) (h : IsRf w base b gc vc tv s) (hk : k < s.sl.length) (hg : (s.sl.getD k (0, 0)).1 = g) (h2 : g % 2 = 1) (h0 : 0 ≤ g) :
    Calls Try.prog 24 #[.pointer (some ⟨b, 0, none⟩), .agg #[.int .i64 k, .int .i64 g], .int .i64 v] w fun e w' => e = .returned (.int .i64 0) ∧ IsRf w' base b gc vc tv { s with sl := s.sl.set k (g, v) } ∧ Frm [vc] w w' := by
  have B0 : Below w.heap.size w (w.alloc (.cells #[.int .i64 k, .int .i64 g] 50)) := (Below.refl _ _).alloc (Nat.le_refl _) _
  have H := Lib.hid (h.below B0)
  clear h
  go_enter Try.func24, Try.ntmps24
  go_wp2_with fail
  refine (check_ok base b gc vc tv s k g _ H.out hk hg h2 h0).mono ?_
  rintro e w1 ⟨rfl, b1⟩
  have hh1 : w1.cell? ⟨w.heap.size, 0, none⟩ = some (.int .i64 k) := (b1.cell (p := ⟨w.heap.size, 0, none⟩) (by simp)).trans (by simp)
  have H1 := Lib.hid (H.out.below b1)
  have hv := (H1.out.hv.cell k).trans (vals_get s.sl k hk)
  have hvz := H1.out.hv.2.1
  have h1 := H1.out.hb.1
  simp only [AS.rcells] at h1
  have G := Lib.hid hg
  clear hg
  generalize (s.sl.getD k (0, 0)).2 = x at hv
  have hk0 : (0 : Int) ≤ (k : Int) := by omega
  have hk1 : (k : Int) < (s.sl.length : Int) := by omega
  have fin : ∀ n, IsRf ((w1.drewN n).setCell ⟨vc, k, none⟩ (.int .i64 v)) base b gc vc tv { s with sl := s.sl.set k (g, v) } ∧ Frm [vc] w ((w1.drewN n).setCell ⟨vc, k, none⟩ (.int .i64 v)) := by
    intro n
    have h := H1.out
    have F : Frm [vc] w1 ((w1.drewN n).setCell ⟨vc, k, none⟩ (.int .i64 v)) := ((Frm.refl [vc] w1).drewN n).setCell (by simp) _
    refine ⟨⟨by simpa [AS.rcells] using (h.hb.drewN n).other (a := ⟨vc, k, none⟩) h.bv.symm (.int .i64 v), ?_, ?_, h.hf.frm F (by intro j hj; simp at hj; subst hj; exact h.fv), h.bg, h.bv, h.gv, h.fb, h.fg, h.fv, by simpa using h.le, h.b0, h.g0, h.v0⟩, ((Frm.of_below B0).trans (Frm.of_below b1)).trans F⟩
    · have := (h.hg.drewN n).other (a := ⟨vc, k, none⟩) h.gv.symm (.int .i64 v)
      rw [← gens_set _ _ _ v]
      have e := gens_get s.sl k hk
      rw [G.out] at e
      rwa [show (gens s.sl).setIfInBounds k (.int .i64 g) = gens s.sl from by
        apply Array.ext_getElem?
        intro i
        by_cases hi : k = i
        · subst hi; rw [Array.getElem?_setIfInBounds_self_of_lt (by rw [gens_size]; exact hk), e]
        · rw [Array.getElem?_setIfInBounds_ne hi]]
    · have := (h.hv.drewN n).set k (.int .i64 v) (by rw [vals_size]; omega)
      rw [vals_set _ _ g] at this
      exact this
  go_wp2_with fail
  go_region_law (fail)
  all_goals
    go_wp2_with fail
    go_ret
    first | exact ⟨rfl, fin _⟩ | exact ⟨rfl, fin 0⟩ | exact ⟨rfl, fin 1⟩
end Go.Proofs.Ytpmolcbfjjibgaa
