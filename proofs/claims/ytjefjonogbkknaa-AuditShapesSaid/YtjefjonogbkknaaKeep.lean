/- Results held against one another, by the keeper. -/
import Derived.Test.YtjefjonogbkknaaSame
namespace Go.Proofs.Ytjefjonogbkknaa
open Go.RowKit

set_option maxRecDepth 100000 in
set_option maxHeartbeats 8000000 in
theorem result_any {w : World} {a b : Res} {y z y' z' : Value} (hy : Den 1 w y (byts a.ds)) (hz : Den 16 w z (strs a.ss)) (hy' : Den 1 w y' (byts b.ds)) (hz' : Den 16 w z' (strs b.ss)) :
    Calls Try.prog 13 #[.agg (a.cells y z).toArray, .agg (b.cells y' z').toArray] w fun e w' => e = .returned (.bool (sameI a b)) ∧ Below w.heap.size w w' := by
  obtain ⟨A, hA⟩ : ∃ A : Array Value, A = (a.cells y z).toArray := ⟨_, rfl⟩
  obtain ⟨B, hB⟩ : ∃ B : Array Value, B = (b.cells y' z').toArray := ⟨_, rfl⟩
  rw [← hA, ← hB]
  have H1 : Hid (Holds ((w.alloc (.cells A 29)).alloc (.cells B 29)) w.heap.size (a.cells y z).toArray) := Lib.hid (by rw [← hA]; exact (Holds.new _ _ _).alloc _)
  have H2 : Hid (Holds ((w.alloc (.cells A 29)).alloc (.cells B 29)) (w.heap.size + 1) (b.cells y' z').toArray) := Lib.hid (by
    have := Holds.new (w.alloc (.cells A 29)) B 29
    rw [← hB]
    simpa using this)
  have HW : Hid (Below w.heap.size w ((w.alloc (.cells A 29)).alloc (.cells B 29))) := Lib.hid (((Below.refl w.heap.size w).alloc (Nat.le_refl _) _).alloc (by simp) _)
  have DY := Lib.hid (hy.below HW.out)
  have DZ := Lib.hid (hz.below HW.out)
  have DY' := Lib.hid (hy'.below HW.out)
  have DZ' := Lib.hid (hz'.below HW.out)
  obtain ⟨p1, k1, rfl⟩ := hy.value
  obtain ⟨p2, k2, rfl⟩ := hz.value
  obtain ⟨p3, k3, rfl⟩ := hy'.value
  obtain ⟨p4, k4, rfl⟩ := hz'.value
  obtain ⟨u0, u1, u2, u3, u4, u5, u6, u7, u8, u9, u10⟩ := Res.at H1.out
  obtain ⟨v0, v1, v2, v3, v4, v5, v6, v7, v8, v9, v10⟩ := Res.at H2.out
  have sq := stat_run a b
  have sq' := stat_run' a b
  clear hA hB hy hz hy' hz'
  have q1 := DY.out.convert 24 5 Try.underlying24 Try.underlying5 9 Try.underlying9
  have q2 := DY'.out.convert 24 5 Try.underlying24 Try.underlying5 9 Try.underlying9
  have q3 := Lib.strOfNums_toList a.ds
  have q4 := Lib.strOfNums_toList b.ds
  go_enter Try.func13, Try.ntmps13
  by_cases g1 : a.w = b.w
  · by_cases g2 : a.n = b.n
    · by_cases g3 : (Lib.bytesOf a.ds == Lib.bytesOf b.ds) = true
      · by_cases g4 : a.ss = b.ss
        · have G : Hid (sameI a b = statI a b) := Lib.hid (by simp [sameI, g1, g2, g3, g4])
          have G4 := Lib.hid (decide_eq_true g4)
          have G3 := Lib.hid g3
          clear g4
          go_wp2_with (first | (go_at_call 19; refine (texts_any DZ.out DZ'.out).mono ?_; rintro e w5 ⟨rfl, b5⟩; rw [G4.out]; have HW := Lib.hid (HW.out.trans (b5.mono HW.out.size)); have H1 := Lib.hid (H1.out.below b5); have H2 := Lib.hid (H2.out.below b5); have DY := Lib.hid (DY.out.below b5); have DZ := Lib.hid (DZ.out.below b5); have DY' := Lib.hid (DY'.out.below b5); have DZ' := Lib.hid (DZ'.out.below b5); obtain ⟨u0, u1, u2, u3, u4, u5, u6, u7, u8, u9, u10⟩ := Res.at H1.out; obtain ⟨v0, v1, v2, v3, v4, v5, v6, v7, v8, v9, v10⟩ := Res.at H2.out; clear b5))
          go_ret
          exact ⟨by rw [G.out]; rfl, HW.out⟩
        · have G : Hid (sameI a b = false) := Lib.hid (by simp [sameI, g4])
          have G4 := Lib.hid (decide_eq_false g4)
          clear g4
          have G3 := Lib.hid g3
          go_wp2_with (first | (go_at_call 19; refine (texts_any DZ.out DZ'.out).mono ?_; rintro e w5 ⟨rfl, b5⟩; rw [G4.out]; have HW := Lib.hid (HW.out.trans (b5.mono HW.out.size)); have H1 := Lib.hid (H1.out.below b5); have H2 := Lib.hid (H2.out.below b5); have DY := Lib.hid (DY.out.below b5); have DZ := Lib.hid (DZ.out.below b5); have DY' := Lib.hid (DY'.out.below b5); have DZ' := Lib.hid (DZ'.out.below b5); obtain ⟨u0, u1, u2, u3, u4, u5, u6, u7, u8, u9, u10⟩ := Res.at H1.out; obtain ⟨v0, v1, v2, v3, v4, v5, v6, v7, v8, v9, v10⟩ := Res.at H2.out; clear b5))
          go_ret
          exact ⟨by rw [G.out]; rfl, HW.out⟩
      · have G : Hid (sameI a b = false) := Lib.hid (by simp [sameI, g3])
        have g3 : (Lib.bytesOf a.ds == Lib.bytesOf b.ds) = false := by simpa using g3
        have G4 := Lib.hid (trivial)
        have G3 := Lib.hid g3
        go_wp2_with (first | (go_at_call 19; refine (texts_any DZ.out DZ'.out).mono ?_; rintro e w5 ⟨rfl, b5⟩; rw [G4.out]; have HW := Lib.hid (HW.out.trans (b5.mono HW.out.size)); have H1 := Lib.hid (H1.out.below b5); have H2 := Lib.hid (H2.out.below b5); have DY := Lib.hid (DY.out.below b5); have DZ := Lib.hid (DZ.out.below b5); have DY' := Lib.hid (DY'.out.below b5); have DZ' := Lib.hid (DZ'.out.below b5); obtain ⟨u0, u1, u2, u3, u4, u5, u6, u7, u8, u9, u10⟩ := Res.at H1.out; obtain ⟨v0, v1, v2, v3, v4, v5, v6, v7, v8, v9, v10⟩ := Res.at H2.out; clear b5))
        go_ret
        exact ⟨by rw [G.out]; rfl, HW.out⟩
    · have G : Hid (sameI a b = false) := Lib.hid (by simp [sameI, g2])
      have d2 : (a.n == b.n) = false := beq_eq_false_iff_ne.2 g2
      have G4 := Lib.hid (trivial)
      have g3 := trivial
      have G3 := Lib.hid g3
      go_wp2_with (first | (go_at_call 19; refine (texts_any DZ.out DZ'.out).mono ?_; rintro e w5 ⟨rfl, b5⟩; rw [G4.out]; have HW := Lib.hid (HW.out.trans (b5.mono HW.out.size)); have H1 := Lib.hid (H1.out.below b5); have H2 := Lib.hid (H2.out.below b5); have DY := Lib.hid (DY.out.below b5); have DZ := Lib.hid (DZ.out.below b5); have DY' := Lib.hid (DY'.out.below b5); have DZ' := Lib.hid (DZ'.out.below b5); obtain ⟨u0, u1, u2, u3, u4, u5, u6, u7, u8, u9, u10⟩ := Res.at H1.out; obtain ⟨v0, v1, v2, v3, v4, v5, v6, v7, v8, v9, v10⟩ := Res.at H2.out; clear b5))
      go_ret
      exact ⟨by rw [G.out]; rfl, HW.out⟩
  · have G : Hid (sameI a b = false) := Lib.hid (by simp [sameI, g1])
    have d1 : (a.w == b.w) = false := beq_eq_false_iff_ne.2 g1
    have G4 := Lib.hid (trivial)
    have g3 := trivial
    have G3 := Lib.hid g3
    go_wp2_with (first | (go_at_call 19; refine (texts_any DZ.out DZ'.out).mono ?_; rintro e w5 ⟨rfl, b5⟩; rw [G4.out]; have HW := Lib.hid (HW.out.trans (b5.mono HW.out.size)); have H1 := Lib.hid (H1.out.below b5); have H2 := Lib.hid (H2.out.below b5); have DY := Lib.hid (DY.out.below b5); have DZ := Lib.hid (DZ.out.below b5); have DY' := Lib.hid (DY'.out.below b5); have DZ' := Lib.hid (DZ'.out.below b5); obtain ⟨u0, u1, u2, u3, u4, u5, u6, u7, u8, u9, u10⟩ := Res.at H1.out; obtain ⟨v0, v1, v2, v3, v4, v5, v6, v7, v8, v9, v10⟩ := Res.at H2.out; clear b5))
    go_ret
    exact ⟨by rw [G.out]; rfl, HW.out⟩
end Go.Proofs.Ytjefjonogbkknaa
