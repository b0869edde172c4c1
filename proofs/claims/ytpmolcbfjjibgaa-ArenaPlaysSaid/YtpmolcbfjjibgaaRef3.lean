/- Chapter 3's arena as the document has it: Free, New, Live. -/
import Derived.Test.YtpmolcbfjjibgaaRef2
namespace Go.Proofs.Ytpmolcbfjjibgaa
open Go.RowKit

theorem rfree_arg (base b gc vc : Nat) (tv : Value) (s : AS) (k g : Int) (w : World) (h : IsRf w base b gc vc tv s) (hk : k < 0 ∨ (s.sl.length : Int) ≤ k) :
    Calls Try.prog 22 #[.pointer (some ⟨b, 0, none⟩), .agg #[.int .i64 k, .int .i64 g]] w fun e w' => e = .returned (.int .i64 1) ∧ Below w.heap.size w w' := by
  have B0 : Below w.heap.size w (w.alloc (.cells #[.int .i64 k, .int .i64 g] 50)) := (Below.refl _ _).alloc (Nat.le_refl _) _
  have H := Lib.hid (h.below B0)
  clear h
  go_enter Try.func22, Try.ntmps22
  go_wp2_with fail
  refine (check_arg base b gc vc tv s k g _ H.out hk).mono ?_
  rintro e w1 ⟨rfl, b1⟩
  go_wp2_with fail
  go_ret
  exact ⟨rfl, B0.trans (b1.mono B0.size)⟩
theorem rfree_gone (base b gc vc : Nat) (tv : Value) (s : AS) (k : Nat) (g : Int) (w : World) (h : IsRf w base b gc vc tv s) (hk : k < s.sl.length) (hg : (s.sl.getD k (0, 0)).1 ≠ g ∨ g % 2 = 0) :
    Calls Try.prog 22 #[.pointer (some ⟨b, 0, none⟩), .agg #[.int .i64 k, .int .i64 g]] w fun e w' => e = .returned (.int .i64 14) ∧ IsRf w' base b gc vc tv { s with stale := wrap64 (s.stale + 1) } ∧ Frm [b] w w' := by
  have B0 : Below w.heap.size w (w.alloc (.cells #[.int .i64 k, .int .i64 g] 50)) := (Below.refl _ _).alloc (Nat.le_refl _) _
  have H := Lib.hid (h.below B0)
  clear h
  go_enter Try.func22, Try.ntmps22
  go_wp2_with fail
  refine (check_gone base b gc vc tv s k g _ H.out hk hg).mono ?_
  rintro e w1 ⟨rfl, h1, f1⟩
  have H1 := Lib.hid h1
  clear h1 hg
  go_wp2_with fail
  go_ret
  exact ⟨rfl, H1.out, (Frm.of_below B0).trans f1⟩

theorem set_same {cs : Array Value} {k : Nat} {v : Value} (hk : k < cs.size) (h : cs[k]? = some v) : cs.setIfInBounds k v = cs := by
  apply Array.ext_getElem?
  intro i
  by_cases hi : k = i
  · subst hi; rw [Array.getElem?_setIfInBounds_self_of_lt hk, h]
  · rw [Array.getElem?_setIfInBounds_ne hi]
theorem rset_gen {w : World} {base b gc vc : Nat} {tv : Value} {s : AS} (h : IsRf w base b gc vc tv s) {k : Nat} (hk : k < s.sl.length) (g x : Int) (hx : (s.sl.getD k (0, 0)).2 = x) :
    IsRf (w.setCell ⟨gc, k, none⟩ (.int .i64 g)) base b gc vc tv { s with sl := s.sl.set k (g, x) } := by
  have F : Frm [gc] w (w.setCell ⟨gc, k, none⟩ (.int .i64 g)) := (Frm.refl _ _).setCell (by simp) _
  refine ⟨by simpa [AS.rcells] using h.hb.other (a := ⟨gc, k, none⟩) h.bg.symm (.int .i64 g), ?_, ?_, h.hf.frm F (by intro j hj; simp at hj; subst hj; exact h.fg), h.bg, h.bv, h.gv, h.fb, h.fg, h.fv, by simpa using h.le, h.b0, h.g0, h.v0⟩
  · have := h.hg.set k (.int .i64 g) (by rw [gens_size]; omega)
    rw [gens_set _ _ _ x] at this
    exact this
  · rw [← vals_set _ _ g, set_same (by rw [vals_size]; exact hk) (by rw [vals_get _ _ hk, hx])]
    exact h.hv.other (a := ⟨gc, k, none⟩) h.gv _
theorem rset_val {w : World} {base b gc vc : Nat} {tv : Value} {s : AS} (h : IsRf w base b gc vc tv s) {k : Nat} (hk : k < s.sl.length) (g x : Int) (hx : (s.sl.getD k (0, 0)).1 = g) :
    IsRf (w.setCell ⟨vc, k, none⟩ (.int .i64 x)) base b gc vc tv { s with sl := s.sl.set k (g, x) } := by
  have F : Frm [vc] w (w.setCell ⟨vc, k, none⟩ (.int .i64 x)) := (Frm.refl _ _).setCell (by simp) _
  refine ⟨by simpa [AS.rcells] using h.hb.other (a := ⟨vc, k, none⟩) h.bv.symm (.int .i64 x), ?_, ?_, h.hf.frm F (by intro j hj; simp at hj; subst hj; exact h.fv), h.bg, h.bv, h.gv, h.fb, h.fg, h.fv, by simpa using h.le, h.b0, h.g0, h.v0⟩
  · rw [← gens_set _ _ _ x, set_same (by rw [gens_size]; exact hk) (by rw [gens_get _ _ hk, hx])]
    exact h.hg.other (a := ⟨vc, k, none⟩) h.gv.symm _
  · have := h.hv.set k (.int .i64 x) (by rw [vals_size]; omega)
    rw [vals_set _ _ g] at this
    exact this
theorem IsRf.drew {w : World} {base b gc vc : Nat} {tv : Value} {s : AS} (h : IsRf w base b gc vc tv s) : IsRf w.drew base b gc vc tv s := h.frm (l := []) (Frm.refl [] w).drew (by simp)

theorem rpush {w w' : World} {base b gc vc f o cap : Nat} {tv : Value} {s : AS} {k : Nat} (h : IsRf w base b gc vc tv s) (hg : w.grownBy w' tv.ownBlock)
    (hw : Win w' base 3 1 (.slice (some ⟨f, o, none⟩) (s.free.length + 1) cap) (s.free.length + 1) (nats s.free ++ [.int .i64 (k : Int)])) (hn : tv.ownBlock = some f ∨ w.heap.size ≤ f) :
    IsRf (w'.setCell ⟨b, 2, none⟩ (.slice (some ⟨f, o, none⟩) (s.free.length + 1) cap)) base b gc vc (.slice (some ⟨f, o, none⟩) (s.free.length + 1) cap) { s with free := s.free ++ [k] } := by
  have F : Frm tv.ownBlock.toList w w' := Frm.of_grown hg (fun k hk _ => by simp [hk])
  have hb := h.hb.frm F (by simpa using h.fb)
  have hgn := h.hg.frm F (by simpa using h.fg)
  have hvn := h.hv.frm F (by simpa using h.fv)
  have ne : ∀ q, q < w.heap.size → tv.ownBlock ≠ some q → f ≠ q := by
    rintro q h1 h2 rfl
    rcases hn with h | h
    · exact h2 h
    · omega
  have nb := ne b h.hb.lt h.fb
  have ng := ne gc h.hg.lt h.fg
  have nv := ne vc h.hv.lt h.fv
  refine ⟨?_, hgn.other (a := ⟨b, 2, none⟩) h.bg _, hvn.other (a := ⟨b, 2, none⟩) h.bv _, ?_, h.bg, h.bv, h.gv, by simpa [Value.ownBlock] using nb, by simpa [Value.ownBlock] using ng, by simpa [Value.ownBlock] using nv, h.le, h.b0, h.g0, h.v0⟩
  · have := hb.set 2 (.slice (some ⟨f, o, none⟩) (s.free.length + 1) cap) (by simp [AS.rcells])
    simpa [AS.rcells] using this
  · have := hw.frm (l := [b]) ((Frm.refl _ _).setCell (p := ⟨b, 2, none⟩) (by simp) (.slice (some ⟨f, o, none⟩) (s.free.length + 1) cap)) (by
      intro j hj e
      simp at hj
      subst hj
      exact nb (by simpa [Value.ownBlock] using e))
    simpa [nats] using this

set_option maxHeartbeats 1000000 in
theorem rfree_ok (base b gc vc : Nat) (tv : Value) (s : AS) (k : Nat) (g : Int) (w : World) (h : IsRf w base b gc vc tv s) (hk : k < s.sl.length) (hg : (s.sl.getD k (0, 0)).1 = g) (h2 : g % 2 = 1) (h0 : 0 ≤ g) (hfl : s.free.length ≤ 100000) (hbase : base ≤ w.heap.size) :
    Calls Try.prog 22 #[.pointer (some ⟨b, 0, none⟩), .agg #[.int .i64 k, .int .i64 g]] w fun e w' => e = .returned (.int .i64 0) ∧ (∃ tv', IsRf w' base b gc vc tv' { s with sl := s.sl.set k (wrap64 (g + 1), 0), free := s.free ++ [k] } ∧ (∀ j, tv'.ownBlock = some j → tv.ownBlock = some j ∨ w.heap.size ≤ j)) ∧ Frm (rfoot b gc vc tv) w w' := by
  have B0 : Below w.heap.size w (w.alloc (.cells #[.int .i64 k, .int .i64 g] 50)) := (Below.refl _ _).alloc (Nat.le_refl _) _
  have H := Lib.hid (h.below B0)
  have hlb := h.hb.lt
  have hlg := h.hg.lt
  have hlv := h.hv.lt
  have hlf := Lib.hid h.foot_lt
  clear h
  go_enter Try.func22, Try.ntmps22
  go_wp2_with fail
  refine (check_ok base b gc vc tv s k g _ H.out hk hg h2 h0).mono ?_
  rintro e w1 ⟨rfl, b1⟩
  have hh1 : w1.cell? ⟨w.heap.size, 0, none⟩ = some (.int .i64 k) := (b1.cell (p := ⟨w.heap.size, 0, none⟩) (by simp)).trans (by simp)
  have hs1 : w.heap.size < w1.heap.size := by have := b1.size; simp at this; omega
  have B1 := Lib.hid (B0.trans (b1.mono B0.size))
  have H1 := Lib.hid (H.out.below b1)
  clear b1
  have hgc := (H1.out.hg.cell k).trans (gens_get s.sl k hk)
  have hvc := (H1.out.hv.cell k).trans (vals_get s.sl k hk)
  rw [hg] at hgc
  have G := Lib.hid hg
  clear hg
  obtain ⟨x, hx⟩ : ∃ x, (s.sl.getD k (0, 0)).2 = x := ⟨_, rfl⟩
  rw [hx] at hvc
  have hgz := H1.out.hg.2.1
  have hvz := H1.out.hv.2.1
  have hbc := H1.out.hb.1
  simp only [AS.rcells] at hbc
  have hk0 : (0 : Int) ≤ (k : Int) := by omega
  have hk1 : (k : Int) < (s.sl.length : Int) := by omega
  have n1 : ¬ w.heap.size = gc := by omega
  have n2 : ¬ w.heap.size = vc := by omega
  have n3 := H1.out.bg
  have n4 := H1.out.bv
  have n5 := H1.out.gv
  have n6 := H1.out.bg.symm
  have n7 := H1.out.bv.symm
  have n8 := H1.out.gv.symm
  have HX := Lib.hid hx
  clear hx
  go_wp2_with fail
  go_still_tail 10, (by kernel_rfl)
  change wpList _ _ _ _ _ (World.drew _)
  go_wp2_with fail
  have I2 := Lib.hid (rset_gen H1.out hk (wrap64 (g + 1)) x HX.out).drew
  have F2 := Lib.hid ((Frm.of_below B1.out : Frm (rfoot b gc vc tv) w w1).setCell (p := ⟨gc, k, none⟩) (by simp [rfoot]) (.int .i64 (wrap64 (g + 1)))).drew
  have hh2 : (w1.setCell ⟨gc, k, none⟩ (.int .i64 (wrap64 (g + 1)))).drew.cell? ⟨w.heap.size, 0, none⟩ = some (.int .i64 k) := (World.cell?_setCell_other _ _ _ _ (by intro hh; injection hh; omega)).trans hh1
  have hs2 : w.heap.size < (w1.setCell ⟨gc, k, none⟩ (.int .i64 (wrap64 (g + 1)))).drew.heap.size := by simpa using hs1
  clear hh1 hgc hvc hgz hvz hbc hs1
  generalize (w1.setCell ⟨gc, k, none⟩ (.int .i64 (wrap64 (g + 1)))).drew = w2 at *
  have hbc := I2.out.hb.1
  simp only [AS.rcells, List.length_set] at hbc
  have hvc := (I2.out.hv.cell k).trans (vals_get _ k (by simpa using hk))
  have hvz := I2.out.hv.2.1
  go_wp2_with fail
  go_still_tail 7, (by kernel_rfl)
  change wpList _ _ _ _ _ (World.drew _)
  go_wp2_with fail
  have I3 := Lib.hid (rset_val I2.out (k := k) (by simpa using hk) (wrap64 (g + 1)) 0 (by simp [hk])).drew
  have F3 := Lib.hid (F2.out.setCell (p := ⟨vc, k, none⟩) (by simp [rfoot]) (.int .i64 0)).drew
  have hh3 : (w2.setCell ⟨vc, k, none⟩ (.int .i64 0)).drew.cell? ⟨w.heap.size, 0, none⟩ = some (.int .i64 k) := (World.cell?_setCell_other _ _ _ _ (by intro hh; injection hh; omega)).trans hh2
  have hs3 : w.heap.size < (w2.setCell ⟨vc, k, none⟩ (.int .i64 0)).drew.heap.size := by simpa using hs2
  clear hh2 hvc hvz hbc hs2
  generalize (w2.setCell ⟨vc, k, none⟩ (.int .i64 0)).drew = w3 at *
  rw [List.set_set] at I3
  have hb1 : w3.cell? ⟨b, 2, none⟩ = some tv := by rw [I3.out.hb.cell 2]; rfl
  have hbz : w3.frozen? ⟨b, 2, none⟩ = false := I3.out.hb.free 2
  obtain ⟨i0, hi, hz0, hz1, hz2⟩ := info_parts info3
  have hb2l : b < w3.heap.size := by omega
  have hbn : ¬ b = w3.heap.size := by omega
  have hwn : ¬ w.heap.size = w3.heap.size := by omega
  have hfw : tv.ownBlock ≠ some w.heap.size := by intro e; have := hlf.out w.heap.size (by simp [rfoot, e]); omega
  have fin : ∀ (W w4 : World) (f o' cap : Nat), Below w3.heap.size w3 W → Win w4 base 3 1 (.slice (some ⟨f, o', none⟩) (s.free.length + 1) cap) (s.free.length + 1) (nats s.free ++ [.int .i64 (k : Int)]) → W.grownBy w4 tv.ownBlock → (tv.ownBlock = some f ∨ W.heap.size ≤ f) →
      (∃ tv', IsRf (w4.setCell ⟨b, 2, none⟩ (.slice (some ⟨f, o', none⟩) (s.free.length + 1) cap)) base b gc vc tv' { s with sl := s.sl.set k (wrap64 (g + 1), 0), free := s.free ++ [k] } ∧ (∀ j, tv'.ownBlock = some j → tv.ownBlock = some j ∨ w.heap.size ≤ j)) ∧ Frm (rfoot b gc vc tv) w (w4.setCell ⟨b, 2, none⟩ (.slice (some ⟨f, o', none⟩) (s.free.length + 1) cap)) := by
    intro W w4 f o' cap hW hown hgrow hat
    have hWs := hW.size
    refine ⟨⟨_, rpush (I3.out.below hW) hgrow hown hat, fun j hj => ?_⟩, ((F3.out.trans (Frm.of_below hW)).trans (Frm.of_grown hgrow (fun k hk _ => by simp [rfoot, hk]))).setCell (by simp [rfoot]) _⟩
    obtain rfl : f = j := by simpa [Value.ownBlock] using hj
    exact hat.imp id (fun h => by omega)
  go_wp2_with fail
  go_region_law (refine step_append_win _ rfl (.tmp 32) (.tmp 35) 22 rfl base 3 i0 (.int .i64 0) 1 8 Try.underlying22 hi hz0 hz1 hz2 rfl (by decide) tv s.free.length (nats s.free) (by simp [Act.eval]) (I3.out.hf.drew.alloc _) ⟨w3.heap.size, 0, none⟩ 1 1 [.int .i64 k] (by simp [Act.eval]) rfl (cell_one_new _ _ _) (by simp [Value.oneCell']) (by decide) (by unfold maxLen; omega) (by omega) (by simp; omega) ?_; intro f o' cap w4 hown hgrow hat; have e3 : w4.cell? ⟨b, 2, none⟩ = some tv := (grown_cell hgrow (by simp; omega) I3.out.fb 2).trans ((cell_ad _ _ _ hb2l).trans hb1); have e4 : w4.cell? ⟨w.heap.size, 0, none⟩ = some (.int .i64 k) := (grown_cell hgrow (by simp; omega) hfw 0).trans ((cell_ad _ _ _ hs3).trans hh3); have e5 : w4.frozen? ⟨b, 2, none⟩ = false := (grown_frozen hgrow (by simp; omega) I3.out.fb 2).trans ((frozen_ad _ _ _ hb2l).trans hbz))
  all_goals
    go_wp2_with fail
    go_ret
    refine ⟨rfl, fin _ _ _ _ _ ?_ hown hgrow hat⟩
    first | exact (Below.refl _ w3).alloc (Nat.le_refl _) _ | exact ((Below.refl _ w3).alloc (Nat.le_refl _) _).drew | exact ((Below.refl _ w3).drew).alloc (Nat.le_refl _) _ | exact (((Below.refl _ w3).drew).alloc (Nat.le_refl _) _).drew
end Go.Proofs.Ytpmolcbfjjibgaa
