/- Chapter 3's arena: Free, Get, Set, Left, Stale. -/
import Derived.Test.YtpmolcbfjjibgaaFind
import Derived.Maps.AppendAt
import Derived.Deep.RegionLaw
namespace Go.Proofs.Ytpmolcbfjjibgaa
open Go.RowKit

theorem grown_cell {w w' : World} {row : Option Nat} (hg : w.grownBy w' row) {b : Nat} (hb : b < w.heap.size) (hr : row ≠ some b) (j : Nat) : w'.cell? ⟨b, j, none⟩ = w.cell? ⟨b, j, none⟩ :=
  World.cell?_of_block (w := w) (a := ⟨b, j, none⟩) (hg.block b hb (fun e => hr e.symm))
theorem grown_frozen {w w' : World} {row : Option Nat} (hg : w.grownBy w' row) {b : Nat} (hb : b < w.heap.size) (hr : row ≠ some b) (j : Nat) : w'.frozen? ⟨b, j, none⟩ = w.frozen? ⟨b, j, none⟩ :=
  World.frozen?_of_block (w := w) (a := ⟨b, j, none⟩) (hg.block b hb (fun e => hr e.symm))

theorem left_any (base b c : Nat) (fv : Value) (s : AS) (w : World) (h : IsAr w base b c fv s) :
    Calls Try.prog 15 #[.pointer (some ⟨b, 0, none⟩)] w fun e w' => e = .returned (.int .i64 s.free.length) ∧ w = w' := by
  obtain ⟨a, cap, rfl⟩ := h.hf.value
  have h1 := h.hb.1
  simp only [AS.cells] at h1
  clear h
  go_enter Try.func15, Try.ntmps15
  go_wp2
  go_ret
  exact ⟨rfl, rfl⟩

theorem stale_any (base b c : Nat) (fv : Value) (s : AS) (w : World) (h : IsAr w base b c fv s) :
    Calls Try.prog 17 #[.pointer (some ⟨b, 0, none⟩)] w fun e w' => e = .returned (.int .i64 s.stale) ∧ w = w' := by
  have h1 := h.hb.1
  simp only [AS.cells] at h1
  clear h
  go_enter Try.func17, Try.ntmps17
  go_wp2
  go_ret
  exact ⟨rfl, rfl⟩

theorem free_arg (base b c : Nat) (fv : Value) (s : AS) (k g : Int) (w : World) (h : IsAr w base b c fv s) (hk : k < 0 ∨ (s.sl.length : Int) ≤ k) :
    Calls Try.prog 11 #[.pointer (some ⟨b, 0, none⟩), .agg #[.int .i64 k, .int .i64 g]] w fun e w' => e = .returned (.int .i64 1) ∧ Below w.heap.size w w' := by
  have B0 : Below w.heap.size w (w.alloc (.cells #[.int .i64 k, .int .i64 g] 30)) := (Below.refl _ _).alloc (Nat.le_refl _) _
  have H := Lib.hid (h.frm (l := []) (Frm.of_below B0) (by simp))
  clear h
  go_enter Try.func11, Try.ntmps11
  go_wp2_with fail
  refine (find_arg base b c fv s k g _ H.out hk).mono ?_
  rintro e w1 ⟨rfl, b1⟩
  go_wp2_with fail
  go_ret
  exact ⟨rfl, B0.trans (b1.mono B0.size)⟩

theorem free_gone (base b c : Nat) (fv : Value) (s : AS) (k : Nat) (g : Int) (w : World) (h : IsAr w base b c fv s) (hk : k < s.sl.length) (hg : (s.sl.getD k (0, 0)).1 ≠ g ∨ g % 2 = 0) :
    Calls Try.prog 11 #[.pointer (some ⟨b, 0, none⟩), .agg #[.int .i64 k, .int .i64 g]] w fun e w' => e = .returned (.int .i64 14) ∧ IsAr w' base b c fv { s with stale := wrap64 (s.stale + 1) } ∧ Frm [b] w w' := by
  have B0 : Below w.heap.size w (w.alloc (.cells #[.int .i64 k, .int .i64 g] 30)) := (Below.refl _ _).alloc (Nat.le_refl _) _
  have H := Lib.hid (h.frm (l := []) (Frm.of_below B0) (by simp))
  clear h
  go_enter Try.func11, Try.ntmps11
  go_wp2_with fail
  refine (find_gone base b c fv s k g _ H.out hk hg).mono ?_
  rintro e w1 ⟨rfl, h1, f1⟩
  go_wp2_with fail
  go_ret
  exact ⟨rfl, h1, (Frm.of_below B0).trans f1⟩

theorem get_arg (base b c : Nat) (fv : Value) (s : AS) (k g : Int) (w : World) (h : IsAr w base b c fv s) (hk : k < 0 ∨ (s.sl.length : Int) ≤ k) :
    Calls Try.prog 14 #[.pointer (some ⟨b, 0, none⟩), .agg #[.int .i64 k, .int .i64 g]] w fun e w' => e = .returned (.tuple #[.int .i64 0, .int .i64 1]) ∧ Below w.heap.size w w' := by
  have B0 : Below w.heap.size w (w.alloc (.cells #[.int .i64 k, .int .i64 g] 30)) := (Below.refl _ _).alloc (Nat.le_refl _) _
  have H := Lib.hid (h.frm (l := []) (Frm.of_below B0) (by simp))
  clear h
  go_enter Try.func14, Try.ntmps14
  go_wp2_with fail
  refine (find_arg base b c fv s k g _ H.out hk).mono ?_
  rintro e w1 ⟨rfl, b1⟩
  go_wp2_with fail
  go_ret2
  exact ⟨rfl, B0.trans (b1.mono B0.size)⟩

theorem get_gone (base b c : Nat) (fv : Value) (s : AS) (k : Nat) (g : Int) (w : World) (h : IsAr w base b c fv s) (hk : k < s.sl.length) (hg : (s.sl.getD k (0, 0)).1 ≠ g ∨ g % 2 = 0) :
    Calls Try.prog 14 #[.pointer (some ⟨b, 0, none⟩), .agg #[.int .i64 k, .int .i64 g]] w fun e w' => e = .returned (.tuple #[.int .i64 0, .int .i64 14]) ∧ IsAr w' base b c fv { s with stale := wrap64 (s.stale + 1) } ∧ Frm [b] w w' := by
  have B0 : Below w.heap.size w (w.alloc (.cells #[.int .i64 k, .int .i64 g] 30)) := (Below.refl _ _).alloc (Nat.le_refl _) _
  have H := Lib.hid (h.frm (l := []) (Frm.of_below B0) (by simp))
  clear h
  go_enter Try.func14, Try.ntmps14
  go_wp2_with fail
  refine (find_gone base b c fv s k g _ H.out hk hg).mono ?_
  rintro e w1 ⟨rfl, h1, f1⟩
  go_wp2_with fail
  go_ret2
  exact ⟨rfl, h1, (Frm.of_below B0).trans f1⟩

theorem get_ok (base b c : Nat) (fv : Value) (s : AS) (k : Nat) (g : Int) (w : World) (h : IsAr w base b c fv s) (hk : k < s.sl.length) (hg : (s.sl.getD k (0, 0)).1 = g) (h2 : g % 2 = 1) :
    Calls Try.prog 14 #[.pointer (some ⟨b, 0, none⟩), .agg #[.int .i64 k, .int .i64 g]] w fun e w' => e = .returned (.tuple #[.int .i64 (s.sl.getD k (0, 0)).2, .int .i64 0]) ∧ Below w.heap.size w w' := by
  have B0 : Below w.heap.size w (w.alloc (.cells #[.int .i64 k, .int .i64 g] 30)) := (Below.refl _ _).alloc (Nat.le_refl _) _
  have H := Lib.hid (h.frm (l := []) (Frm.of_below B0) (by simp))
  obtain ⟨x, ex⟩ : ∃ x, (s.sl.getD k (0, 0)).2 = x := ⟨_, rfl⟩
  rw [ex]
  have EX := Lib.hid ex
  clear ex
  clear h
  go_enter Try.func14, Try.ntmps14
  go_wp2_with fail
  refine (find_ok base b c fv s k g _ H.out hk hg h2).mono ?_
  rintro e w1 ⟨rfl, b1⟩
  have hc := ((H.out.frm (l := []) (Frm.of_below b1) (by simp)).hc.cell (k * 2 + 1)).trans (pairs_get s.sl k hk).2
  rw [EX.out] at hc
  go_wp2_with fail
  go_ret2
  exact ⟨rfl, B0.trans (b1.mono B0.size)⟩

theorem set_arg (base b c : Nat) (fv : Value) (s : AS) (k g v : Int) (w : World) (h : IsAr w base b c fv s) (hk : k < 0 ∨ (s.sl.length : Int) ≤ k) :
    Calls Try.prog 16 #[.pointer (some ⟨b, 0, none⟩), .agg #[.int .i64 k, .int .i64 g], .int .i64 v] w fun e w' => e = .returned (.int .i64 1) ∧ Below w.heap.size w w' := by
  have B0 : Below w.heap.size w (w.alloc (.cells #[.int .i64 k, .int .i64 g] 30)) := (Below.refl _ _).alloc (Nat.le_refl _) _
  have H := Lib.hid (h.frm (l := []) (Frm.of_below B0) (by simp))
  clear h
  go_enter Try.func16, Try.ntmps16
  go_wp2_with fail
  refine (find_arg base b c fv s k g _ H.out hk).mono ?_
  rintro e w1 ⟨rfl, b1⟩
  go_wp2_with fail
  go_ret
  exact ⟨rfl, B0.trans (b1.mono B0.size)⟩

theorem set_gone (base b c : Nat) (fv : Value) (s : AS) (k : Nat) (g v : Int) (w : World) (h : IsAr w base b c fv s) (hk : k < s.sl.length) (hg : (s.sl.getD k (0, 0)).1 ≠ g ∨ g % 2 = 0) :
    Calls Try.prog 16 #[.pointer (some ⟨b, 0, none⟩), .agg #[.int .i64 k, .int .i64 g], .int .i64 v] w fun e w' => e = .returned (.int .i64 14) ∧ IsAr w' base b c fv { s with stale := wrap64 (s.stale + 1) } ∧ Frm [b] w w' := by
  have B0 : Below w.heap.size w (w.alloc (.cells #[.int .i64 k, .int .i64 g] 30)) := (Below.refl _ _).alloc (Nat.le_refl _) _
  have H := Lib.hid (h.frm (l := []) (Frm.of_below B0) (by simp))
  clear h
  go_enter Try.func16, Try.ntmps16
  go_wp2_with fail
  refine (find_gone base b c fv s k g _ H.out hk hg).mono ?_
  rintro e w1 ⟨rfl, h1, f1⟩
  go_wp2_with fail
  go_ret
  exact ⟨rfl, h1, (Frm.of_below B0).trans f1⟩

theorem set_ok (base b c : Nat) (fv : Value) (s : AS) (k : Nat) (g v : Int) (w : World) (h : IsAr w base b c fv s) (hk : k < s.sl.length) (hg : (s.sl.getD k (0, 0)).1 = g) (h2 : g % 2 = 1) :
    Calls Try.prog 16 #[.pointer (some ⟨b, 0, none⟩), .agg #[.int .i64 k, .int .i64 g], .int .i64 v] w fun e w' => e = .returned (.int .i64 0) ∧ IsAr w' base b c fv { s with sl := s.sl.set k (g, v) } ∧ Frm [c] w w' := by
  have B0 : Below w.heap.size w (w.alloc (.cells #[.int .i64 k, .int .i64 g] 30)) := (Below.refl _ _).alloc (Nat.le_refl _) _
  have H := Lib.hid (h.frm (l := []) (Frm.of_below B0) (by simp))
  clear h
  go_enter Try.func16, Try.ntmps16
  go_wp2_with fail
  refine (find_ok base b c fv s k g _ H.out hk hg h2).mono ?_
  rintro e w1 ⟨rfl, b1⟩
  have H1 := Lib.hid (H.out.frm (l := []) (Frm.of_below b1) (by simp))
  have hc := (H1.out.hc.cell (k * 2 + 1)).trans (pairs_get s.sl k hk).2
  have hfz := H1.out.hc.2.1
  have G := Lib.hid hg
  clear hg
  generalize (s.sl.getD k (0, 0)).2 = x at hc
  go_wp2_with fail
  go_ret
  have F : Frm [c] w1 (w1.setCell ⟨c, k * 2 + 1, none⟩ (.int .i64 v)) := (Frm.refl _ _).setCell (by simp) _
  refine ⟨rfl, ?_, ((Frm.of_below B0).trans (Frm.of_below b1)).trans F⟩
  have h := H1.out
  refine ⟨by simpa [AS.cells] using h.hb.other (a := ⟨c, k * 2 + 1, none⟩) h.bc.symm (.int .i64 v), ?_, h.hf.frm F (by intro j hj; simp at hj; subst hj; exact h.fc), h.bc, h.fb, h.fc, by simpa using h.le, h.b0, h.c0⟩
  have := h.hc.set (k * 2 + 1) (.int .i64 v) (by rw [pairs_size]; omega)
  rw [pairs_set1 _ _ _ hk, G.out] at this
  exact this

theorem cell_ad (w : World) (o : Obj) {b : Nat} (j : Nat) (h : b < w.heap.size) : (w.alloc o).drew.cell? ⟨b, j, none⟩ = w.cell? ⟨b, j, none⟩ :=
  ((Below.refl w.heap.size w).alloc (Nat.le_refl _) o).cell (p := ⟨b, j, none⟩) h
theorem frozen_ad (w : World) (o : Obj) {b : Nat} (j : Nat) (h : b < w.heap.size) : (w.alloc o).drew.frozen? ⟨b, j, none⟩ = w.frozen? ⟨b, j, none⟩ :=
  ((Below.refl w.heap.size w).alloc (Nat.le_refl _) o).frozen (p := ⟨b, j, none⟩) h
theorem free_ok_is {w w' : World} {base b c f o cap : Nat} {fv : Value} {s : AS} {k : Nat} {g : Int} (h : IsAr w base b c fv s)
    (hf : Frm (foot b c fv) w w') (hb : ∀ j, w'.cell? ⟨b, j, none⟩ = ((s.cells c fv).setIfInBounds 1 (.slice (some ⟨f, o, none⟩) (s.free.length + 1) cap))[j]?) (hbz : ∀ j, w'.frozen? ⟨b, j, none⟩ = false)
    (hc : Holds w' c (pairs (s.sl.set k (g, 0)))) (hw : Win w' base 3 1 (.slice (some ⟨f, o, none⟩) (s.free.length + 1) cap) (s.free.length + 1) (nats s.free ++ [.int .i64 (k : Int)])) (hn : fv.ownBlock = some f ∨ w.heap.size ≤ f) :
    IsAr w' base b c (.slice (some ⟨f, o, none⟩) (s.free.length + 1) cap) { s with sl := s.sl.set k (g, 0), free := s.free ++ [k] } := by
  have hl := h.hb.lt
  have hl' := h.hc.lt
  refine ⟨⟨fun j => ?_, hbz, Nat.lt_of_lt_of_le hl hf.size⟩, hc, ?_, h.bc, ?_, ?_, by simpa using h.le, h.b0, h.c0⟩
  · rw [hb j]; simp [AS.cells]
  · simpa [nats] using hw
  · intro e
    obtain rfl : f = b := by simpa [Value.ownBlock] using e
    rcases hn with hn | hn
    · exact h.fb hn
    · omega
  · intro e
    obtain rfl : f = c := by simpa [Value.ownBlock] using e
    rcases hn with hn | hn
    · exact h.fc hn
    · omega

set_option maxHeartbeats 1000000 in
theorem free_ok (base b c : Nat) (fv : Value) (s : AS) (k : Nat) (g : Int) (w : World) (h : IsAr w base b c fv s) (hk : k < s.sl.length) (hg : (s.sl.getD k (0, 0)).1 = g) (h2 : g % 2 = 1) (hfl : s.free.length ≤ 100000) (hbase : base ≤ w.heap.size) :
    Calls Try.prog 11 #[.pointer (some ⟨b, 0, none⟩), .agg #[.int .i64 k, .int .i64 g]] w fun e w' => e = .returned (.int .i64 0) ∧ (∃ fv', IsAr w' base b c fv' { s with sl := s.sl.set k (wrap64 (g + 1), 0), free := s.free ++ [k] } ∧ (∀ j, fv'.ownBlock = some j → fv.ownBlock = some j ∨ w.heap.size ≤ j)) ∧ Frm (foot b c fv) w w' := by
  have B0 : Below w.heap.size w (w.alloc (.cells #[.int .i64 k, .int .i64 g] 30)) := (Below.refl _ _).alloc (Nat.le_refl _) _
  have H := Lib.hid (h.frm (l := []) (Frm.of_below B0) (by simp))
  have hlb := h.hb.lt
  have hlc := h.hc.lt
  have hlf := Lib.hid h.foot_lt
  have HW0 := Lib.hid h
  clear h
  go_enter Try.func11, Try.ntmps11
  go_wp2_with fail
  refine (find_ok base b c fv s k g _ H.out hk hg h2).mono ?_
  rintro e w1 ⟨rfl, b1⟩
  have hh1 : w1.cell? ⟨w.heap.size, 0, none⟩ = some (.int .i64 k) := (b1.cell (p := ⟨w.heap.size, 0, none⟩) (by simp)).trans (by simp)
  have hs1 : w.heap.size < w1.heap.size := by have := b1.size; simp at this; omega
  have B1 := Lib.hid (B0.trans (b1.mono B0.size))
  have H1 := Lib.hid (H.out.frm (l := []) (Frm.of_below b1) (by simp))
  clear b1
  have hc0 := (H1.out.hc.cell (k * 2)).trans (pairs_get s.sl k hk).1
  have hc1 := (H1.out.hc.cell (k * 2 + 1)).trans (pairs_get s.sl k hk).2
  have hfz := H1.out.hc.2.1
  rw [hg] at hc0
  have G := Lib.hid hg
  clear hg
  generalize (s.sl.getD k (0, 0)).2 = x at hc1
  go_wp2_with fail
  have F2 : Frm [c] w1 ((w1.setCell ⟨c, k * 2, none⟩ (.int .i64 (wrap64 (g + 1)))).setCell ⟨c, k * 2 + 1, none⟩ (.int .i64 0)) := ((Frm.refl _ _).setCell (by simp) _).setCell (by simp) _
  have hC2 : Holds ((w1.setCell ⟨c, k * 2, none⟩ (.int .i64 (wrap64 (g + 1)))).setCell ⟨c, k * 2 + 1, none⟩ (.int .i64 0)) c (pairs (s.sl.set k (wrap64 (g + 1), 0))) := by
    have := (H1.out.hc.set (k * 2) (.int .i64 (wrap64 (g + 1))) (by rw [pairs_size]; omega)).set (k * 2 + 1) (.int .i64 0) (by simp [pairs_size]; omega)
    rw [pairs_set0 _ _ _ hk, pairs_set1 _ _ _ (by simpa using hk)] at this
    simpa [hk] using this
  clear hc0 hc1 hfz
  have hB2 : Hid (Holds ((w1.setCell ⟨c, k * 2, none⟩ (.int .i64 (wrap64 (g + 1)))).setCell ⟨c, k * 2 + 1, none⟩ (.int .i64 0)) b (s.cells c fv)) := H1.out.hb.frm F2 (by simpa using H1.out.bc)
  have hF2 : Hid (Win ((w1.setCell ⟨c, k * 2, none⟩ (.int .i64 (wrap64 (g + 1)))).setCell ⟨c, k * 2 + 1, none⟩ (.int .i64 0)) base 3 1 fv s.free.length (nats s.free)) := H1.out.hf.frm F2 (by intro j hj; simp at hj; subst hj; exact H1.out.fc)
  have hh2 : ((w1.setCell ⟨c, k * 2, none⟩ (.int .i64 (wrap64 (g + 1)))).setCell ⟨c, k * 2 + 1, none⟩ (.int .i64 0)).cell? ⟨w.heap.size, 0, none⟩ = some (.int .i64 k) := by
    rw [World.cell?_of_block (w := w1) (F2.block _ hs1 (by simp; omega)), hh1]
  have HC2 := Lib.hid hC2
  have HF := Lib.hid F2
  have hs2 : w.heap.size < ((w1.setCell ⟨c, k * 2, none⟩ (.int .i64 (wrap64 (g + 1)))).setCell ⟨c, k * 2 + 1, none⟩ (.int .i64 0)).heap.size := by simpa using hs1
  clear hC2 F2 hh1
  generalize ((w1.setCell ⟨c, k * 2, none⟩ (.int .i64 (wrap64 (g + 1)))).setCell ⟨c, k * 2 + 1, none⟩ (.int .i64 0)) = w2 at *
  have hb1 : w2.cell? ⟨b, 1, none⟩ = some fv := by rw [hB2.out.cell 1]; rfl
  obtain ⟨i0, hi, hz0, hz1, hz2⟩ := info_parts info3
  have hbz : w2.frozen? ⟨b, 1, none⟩ = false := hB2.out.free 1
  have hsz2 : w.heap.size ≤ w2.heap.size := by omega
  have hb2l : b < w2.heap.size := by omega
  have hbn : ¬ b = w2.heap.size := by omega
  have hwn : ¬ w.heap.size = w2.heap.size := by omega
  have hfw : fv.ownBlock ≠ some w.heap.size := by intro e; have := hlf.out w.heap.size (by simp [foot, e]); omega
  have fin : ∀ (W w3 : World) (f o' cap : Nat), Below w2.heap.size w2 W → Win w3 base 3 1 (.slice (some ⟨f, o', none⟩) (s.free.length + 1) cap) (s.free.length + 1) (nats s.free ++ [.int .i64 (k : Int)]) → W.grownBy w3 fv.ownBlock → (fv.ownBlock = some f ∨ W.heap.size ≤ f) →
      (∃ fv', IsAr (w3.setCell ⟨b, 1, none⟩ (.slice (some ⟨f, o', none⟩) (s.free.length + 1) cap)) base b c fv' { s with sl := s.sl.set k (wrap64 (g + 1), 0), free := s.free ++ [k] } ∧ (∀ j, fv'.ownBlock = some j → fv.ownBlock = some j ∨ w.heap.size ≤ j)) ∧ Frm (foot b c fv) w (w3.setCell ⟨b, 1, none⟩ (.slice (some ⟨f, o', none⟩) (s.free.length + 1) cap)) := by
    intro W w3 f o' cap hW hown hgrow hat
    have hWs := hW.size
    have fW : Frm (foot b c fv) W w3 := Frm.of_grown hgrow (fun k hk _ => by simp [foot, hk])
    have f2 : Frm (foot b c fv) w2 w3 := (Frm.of_below hW).trans fW
    have f1 : Frm (foot b c fv) w1 w3 := (HF.out.mono (by simp [foot])).trans f2
    have f0 : Frm (foot b c fv) w w3 := (Frm.of_below B1.out).trans f1
    have hbnot : some b ≠ fv.ownBlock := fun e => H1.out.fb e.symm
    have g2 : Frm fv.ownBlock.toList w2 w3 := (Frm.of_below hW).trans (Frm.of_grown hgrow (fun k hk _ => by simp [hk]))
    have hB3 : Holds w3 b (s.cells c fv) := hB2.out.frm g2 (by simpa using H1.out.fb)
    have hC3 : Holds w3 c (pairs (s.sl.set k (wrap64 (g + 1), 0))) := HC2.out.frm g2 (by simpa using H1.out.fc)
    have hfb : f ≠ b := by
      rintro rfl
      rcases hat with h | h
      · exact H1.out.fb h
      · omega
    have hn : fv.ownBlock = some f ∨ w.heap.size ≤ f := hat.imp id (fun h => by omega)
    have F4 : Frm (foot b c fv) w (w3.setCell ⟨b, 1, none⟩ (.slice (some ⟨f, o', none⟩) (s.free.length + 1) cap)) := f0.setCell (by simp [foot]) _
    refine ⟨⟨.slice (some ⟨f, o', none⟩) (s.free.length + 1) cap, free_ok_is (w := w) ?_ F4 (fun j => ?_) (fun j => ?_) (hC3.other (a := ⟨b, 1, none⟩) H1.out.bc _) ?_ hn, ?_⟩, F4⟩
    · exact HW0.out
    · exact (hB3.set 1 (.slice (some ⟨f, o', none⟩) (s.free.length + 1) cap) (by simp [AS.cells])).cell j
    · exact (hB3.set 1 (.slice (some ⟨f, o', none⟩) (s.free.length + 1) cap) (by simp [AS.cells])).free j
    · refine hown.frm (l := [b]) ((Frm.refl _ _).setCell (by simp) _) ?_
      intro j hj e
      simp at hj
      subst hj
      exact hfb (by simpa [Value.ownBlock] using e)
    · intro j hj
      obtain rfl : f = j := by simpa [Value.ownBlock] using hj
      exact hn
  go_region_law (refine step_append_win _ rfl (.tmp 29) (.tmp 32) 22 rfl base 3 i0 (.int .i64 0) 1 8 Try.underlying22 hi hz0 hz1 hz2 rfl (by decide) fv s.free.length (nats s.free) (by simp [Act.eval]) (hF2.out.drew.alloc _) ⟨w2.heap.size, 0, none⟩ 1 1 [.int .i64 k] (by simp [Act.eval]) rfl (cell_one_new _ _ _) (by simp [Value.oneCell']) (by decide) (by unfold maxLen; omega) (by omega) (by simp; omega) ?_; intro f o' cap w3 hown hgrow hat; have e3 : w3.cell? ⟨b, 1, none⟩ = some fv := (grown_cell hgrow (by simp; omega) H1.out.fb 1).trans ((cell_ad _ _ _ hb2l).trans hb1); have e4 : w3.cell? ⟨w.heap.size, 0, none⟩ = some (.int .i64 k) := (grown_cell hgrow (by simp; omega) hfw 0).trans ((cell_ad _ _ _ hs2).trans hh2); have e5 : w3.frozen? ⟨b, 1, none⟩ = false := (grown_frozen hgrow (by simp; omega) H1.out.fb 1).trans ((frozen_ad _ _ _ hb2l).trans hbz))
  all_goals
    go_wp2_with fail
    go_ret
    refine ⟨rfl, fin _ _ _ _ _ ?_ hown hgrow hat⟩
    first | exact (Below.refl _ w2).alloc (Nat.le_refl _) _ | exact ((Below.refl _ w2).alloc (Nat.le_refl _) _).drew | exact ((Below.refl _ w2).drew).alloc (Nat.le_refl _) _ | exact (((Below.refl _ w2).drew).alloc (Nat.le_refl _) _).drew
end Go.Proofs.Ytpmolcbfjjibgaa
