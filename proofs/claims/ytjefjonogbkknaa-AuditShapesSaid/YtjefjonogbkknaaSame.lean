/- Results held against one another. -/
import Derived.Test.YtjefjonogbkknaaTexts
namespace Go.Proofs.Ytjefjonogbkknaa
open Go.RowKit

def statI (a b : Res) : Bool := decide (a.s0 = b.s0 ∧ a.s1 = b.s1 ∧ a.s2 = b.s2 ∧ a.s3 = b.s3 ∧ a.s4 = b.s4 ∧ a.s5 = b.s5 ∧ a.s6 = b.s6)
def sameI (a b : Res) : Bool := decide (a.w = b.w) && (decide (a.n = b.n) && ((Lib.bytesOf a.ds == Lib.bytesOf b.ds) && (decide (a.ss = b.ss) && statI a b)))
theorem stat_run (a b : Res) (w : World) : (binOp .eql 27 (.agg #[.int .i64 a.s0, .int .i64 a.s1, .int .i64 a.s2, .int .i64 a.s3, .int .i64 a.s4, .int .i64 a.s5, .int .i64 a.s6]) (.agg #[.int .i64 b.s0, .int .i64 b.s1, .int .i64 b.s2, .int .i64 b.s3, .int .i64 b.s4, .int .i64 b.s5, .int .i64 b.s6])).run Try.prog w = .ok (.bool (statI a b)) w := by
  simp [go_sem]
  unfold statI
  repeat (split <;> simp_all)
theorem stat_run' (a b : Res) (w : World) : (binOp .neq 27 (.agg #[.int .i64 a.s0, .int .i64 a.s1, .int .i64 a.s2, .int .i64 a.s3, .int .i64 a.s4, .int .i64 a.s5, .int .i64 a.s6]) (.agg #[.int .i64 b.s0, .int .i64 b.s1, .int .i64 b.s2, .int .i64 b.s3, .int .i64 b.s4, .int .i64 b.s5, .int .i64 b.s6])).run Try.prog w = .ok (.bool (!statI a b)) w := by
  simp [go_sem]
  unfold statI
  repeat (split <;> simp_all)
theorem Res.at {W : World} {b : Nat} {r : Res} {y z : Value} (h : Holds W b (r.cells y z).toArray) : W.cell? ⟨b, 0, none⟩ = some (.int .i64 r.w) ∧ W.cell? ⟨b, 1, none⟩ = some (.int .i64 r.n) ∧ W.cell? ⟨b, 2, none⟩ = some y ∧ W.cell? ⟨b, 3, none⟩ = some z ∧
    W.cell? ⟨b, 4, none⟩ = some (.int .i64 r.s0) ∧ W.cell? ⟨b, 4 + 1, none⟩ = some (.int .i64 r.s1) ∧ W.cell? ⟨b, 4 + 2, none⟩ = some (.int .i64 r.s2) ∧ W.cell? ⟨b, 4 + 3, none⟩ = some (.int .i64 r.s3) ∧ W.cell? ⟨b, 4 + 4, none⟩ = some (.int .i64 r.s4) ∧ W.cell? ⟨b, 4 + 5, none⟩ = some (.int .i64 r.s5) ∧ W.cell? ⟨b, 4 + 6, none⟩ = some (.int .i64 r.s6) :=
  ⟨h.cell 0, h.cell 1, h.cell 2, h.cell 3, h.cell 4, h.cell 5, h.cell 6, h.cell 7, h.cell 8, h.cell 9, h.cell 10⟩

set_option maxRecDepth 100000 in
set_option maxHeartbeats 8000000 in
theorem same_any {w : World} {a b : Res} {y z y' z' : Value} (hy : Den 1 w y (byts a.ds)) (hz : Den 16 w z (strs a.ss)) (hy' : Den 1 w y' (byts b.ds)) (hz' : Den 16 w z' (strs b.ss)) :
    Calls Try.prog 11 #[.agg (a.cells y z).toArray, .agg (b.cells y' z').toArray] w fun e w' => e = .returned (.bool (sameI a b)) ∧ Below w.heap.size w w' := by
  obtain ⟨A, hA⟩ : ∃ A : Array Value, A = (a.cells y z).toArray := ⟨_, rfl⟩
  obtain ⟨B, hB⟩ : ∃ B : Array Value, B = (b.cells y' z').toArray := ⟨_, rfl⟩
  rw [← hA, ← hB]
  have H1 : Hid (Holds ((w.alloc (.cells A 29)).alloc (.cells B 29)) w.heap.size (a.cells y z).toArray) := Lib.hid (by rw [← hA]; exact (Holds.new _ _ _).alloc _)
  have H2 : Hid (Holds ((w.alloc (.cells A 29)).alloc (.cells B 29)) (w.heap.size + 1) (b.cells y' z').toArray) := Lib.hid (by
    have := Holds.new (w.alloc (.cells A 29)) B 29
    rw [← hB]
    simpa using this)
  have HW : Hid (Below w.heap.size w ((w.alloc (.cells A 29)).alloc (.cells B 29))) := Lib.hid (((Below.refl w.heap.size w).alloc (Nat.le_refl _) _).alloc (by simp) _)
  have DY := Lib.hid (hy.below HW.out)
  have DZ := Lib.hid (hz.below HW.out)
  have DY' := Lib.hid (hy'.below HW.out)
  have DZ' := Lib.hid (hz'.below HW.out)
  obtain ⟨p1, k1, rfl⟩ := hy.value
  obtain ⟨p2, k2, rfl⟩ := hz.value
  obtain ⟨p3, k3, rfl⟩ := hy'.value
  obtain ⟨p4, k4, rfl⟩ := hz'.value
  obtain ⟨u0, u1, u2, u3, u4, u5, u6, u7, u8, u9, u10⟩ := Res.at H1.out
  obtain ⟨v0, v1, v2, v3, v4, v5, v6, v7, v8, v9, v10⟩ := Res.at H2.out
  have sq := stat_run a b
  have sq' := stat_run' a b
  clear hA hB hy hz hy' hz'
  go_enter Try.func11, Try.ntmps11
  by_cases g1 : a.w = b.w
  · by_cases g2 : a.n = b.n
    · by_cases g3 : (Lib.bytesOf a.ds == Lib.bytesOf b.ds) = true
      · by_cases g4 : a.ss = b.ss
        · have G : Hid (sameI a b = statI a b) := Lib.hid (by simp [sameI, g1, g2, g3, g4])
          have G4 := Lib.hid (decide_eq_true g4)
          have G3 := Lib.hid g3
          clear g3
          clear g4
          go_wp2_with (first | (go_at_call 17; refine (bytes_any DY.out DY'.out).mono ?_; rintro e w5 ⟨rfl, b5⟩; rw [G3.out]; have HW := Lib.hid (HW.out.trans (b5.mono HW.out.size)); have H1 := Lib.hid (H1.out.below b5); have H2 := Lib.hid (H2.out.below b5); have DY := Lib.hid (DY.out.below b5); have DZ := Lib.hid (DZ.out.below b5); have DY' := Lib.hid (DY'.out.below b5); have DZ' := Lib.hid (DZ'.out.below b5); obtain ⟨u0, u1, u2, u3, u4, u5, u6, u7, u8, u9, u10⟩ := Res.at H1.out; obtain ⟨v0, v1, v2, v3, v4, v5, v6, v7, v8, v9, v10⟩ := Res.at H2.out; clear b5) | (go_at_call 18; refine (equals_any DZ.out DZ'.out).mono ?_; rintro e w5 ⟨rfl, b5⟩; rw [G4.out]; have HW := Lib.hid (HW.out.trans (b5.mono HW.out.size)); have H1 := Lib.hid (H1.out.below b5); have H2 := Lib.hid (H2.out.below b5); have DY := Lib.hid (DY.out.below b5); have DZ := Lib.hid (DZ.out.below b5); have DY' := Lib.hid (DY'.out.below b5); have DZ' := Lib.hid (DZ'.out.below b5); obtain ⟨u0, u1, u2, u3, u4, u5, u6, u7, u8, u9, u10⟩ := Res.at H1.out; obtain ⟨v0, v1, v2, v3, v4, v5, v6, v7, v8, v9, v10⟩ := Res.at H2.out; clear b5))
          go_ret
          exact ⟨by rw [G.out]; rfl, HW.out⟩
        · have G : Hid (sameI a b = false) := Lib.hid (by simp [sameI, g4])
          have G4 := Lib.hid (decide_eq_false g4)
          clear g4
          have G3 := Lib.hid g3
          clear g3
          go_wp2_with (first | (go_at_call 17; refine (bytes_any DY.out DY'.out).mono ?_; rintro e w5 ⟨rfl, b5⟩; rw [G3.out]; have HW := Lib.hid (HW.out.trans (b5.mono HW.out.size)); have H1 := Lib.hid (H1.out.below b5); have H2 := Lib.hid (H2.out.below b5); have DY := Lib.hid (DY.out.below b5); have DZ := Lib.hid (DZ.out.below b5); have DY' := Lib.hid (DY'.out.below b5); have DZ' := Lib.hid (DZ'.out.below b5); obtain ⟨u0, u1, u2, u3, u4, u5, u6, u7, u8, u9, u10⟩ := Res.at H1.out; obtain ⟨v0, v1, v2, v3, v4, v5, v6, v7, v8, v9, v10⟩ := Res.at H2.out; clear b5) | (go_at_call 18; refine (equals_any DZ.out DZ'.out).mono ?_; rintro e w5 ⟨rfl, b5⟩; rw [G4.out]; have HW := Lib.hid (HW.out.trans (b5.mono HW.out.size)); have H1 := Lib.hid (H1.out.below b5); have H2 := Lib.hid (H2.out.below b5); have DY := Lib.hid (DY.out.below b5); have DZ := Lib.hid (DZ.out.below b5); have DY' := Lib.hid (DY'.out.below b5); have DZ' := Lib.hid (DZ'.out.below b5); obtain ⟨u0, u1, u2, u3, u4, u5, u6, u7, u8, u9, u10⟩ := Res.at H1.out; obtain ⟨v0, v1, v2, v3, v4, v5, v6, v7, v8, v9, v10⟩ := Res.at H2.out; clear b5))
          go_ret
          exact ⟨by rw [G.out]; rfl, HW.out⟩
      · have G : Hid (sameI a b = false) := Lib.hid (by simp [sameI, g3])
        have g3 : (Lib.bytesOf a.ds == Lib.bytesOf b.ds) = false := by simpa using g3
        have G4 := Lib.hid (trivial)
        have G3 := Lib.hid g3
        clear g3
        go_wp2_with (first | (go_at_call 17; refine (bytes_any DY.out DY'.out).mono ?_; rintro e w5 ⟨rfl, b5⟩; rw [G3.out]; have HW := Lib.hid (HW.out.trans (b5.mono HW.out.size)); have H1 := Lib.hid (H1.out.below b5); have H2 := Lib.hid (H2.out.below b5); have DY := Lib.hid (DY.out.below b5); have DZ := Lib.hid (DZ.out.below b5); have DY' := Lib.hid (DY'.out.below b5); have DZ' := Lib.hid (DZ'.out.below b5); obtain ⟨u0, u1, u2, u3, u4, u5, u6, u7, u8, u9, u10⟩ := Res.at H1.out; obtain ⟨v0, v1, v2, v3, v4, v5, v6, v7, v8, v9, v10⟩ := Res.at H2.out; clear b5) | (go_at_call 18; refine (equals_any DZ.out DZ'.out).mono ?_; rintro e w5 ⟨rfl, b5⟩; rw [G4.out]; have HW := Lib.hid (HW.out.trans (b5.mono HW.out.size)); have H1 := Lib.hid (H1.out.below b5); have H2 := Lib.hid (H2.out.below b5); have DY := Lib.hid (DY.out.below b5); have DZ := Lib.hid (DZ.out.below b5); have DY' := Lib.hid (DY'.out.below b5); have DZ' := Lib.hid (DZ'.out.below b5); obtain ⟨u0, u1, u2, u3, u4, u5, u6, u7, u8, u9, u10⟩ := Res.at H1.out; obtain ⟨v0, v1, v2, v3, v4, v5, v6, v7, v8, v9, v10⟩ := Res.at H2.out; clear b5))
        go_ret
        exact ⟨by rw [G.out]; rfl, HW.out⟩
    · have G : Hid (sameI a b = false) := Lib.hid (by simp [sameI, g2])
      have d2 : (a.n == b.n) = false := beq_eq_false_iff_ne.2 g2
      have G4 := Lib.hid (trivial)
      have g3 := trivial
      have G3 := Lib.hid g3
      clear g3
      go_wp2_with (first | (go_at_call 17; refine (bytes_any DY.out DY'.out).mono ?_; rintro e w5 ⟨rfl, b5⟩; rw [G3.out]; have HW := Lib.hid (HW.out.trans (b5.mono HW.out.size)); have H1 := Lib.hid (H1.out.below b5); have H2 := Lib.hid (H2.out.below b5); have DY := Lib.hid (DY.out.below b5); have DZ := Lib.hid (DZ.out.below b5); have DY' := Lib.hid (DY'.out.below b5); have DZ' := Lib.hid (DZ'.out.below b5); obtain ⟨u0, u1, u2, u3, u4, u5, u6, u7, u8, u9, u10⟩ := Res.at H1.out; obtain ⟨v0, v1, v2, v3, v4, v5, v6, v7, v8, v9, v10⟩ := Res.at H2.out; clear b5) | (go_at_call 18; refine (equals_any DZ.out DZ'.out).mono ?_; rintro e w5 ⟨rfl, b5⟩; rw [G4.out]; have HW := Lib.hid (HW.out.trans (b5.mono HW.out.size)); have H1 := Lib.hid (H1.out.below b5); have H2 := Lib.hid (H2.out.below b5); have DY := Lib.hid (DY.out.below b5); have DZ := Lib.hid (DZ.out.below b5); have DY' := Lib.hid (DY'.out.below b5); have DZ' := Lib.hid (DZ'.out.below b5); obtain ⟨u0, u1, u2, u3, u4, u5, u6, u7, u8, u9, u10⟩ := Res.at H1.out; obtain ⟨v0, v1, v2, v3, v4, v5, v6, v7, v8, v9, v10⟩ := Res.at H2.out; clear b5))
      go_ret
      exact ⟨by rw [G.out]; rfl, HW.out⟩
  · have G : Hid (sameI a b = false) := Lib.hid (by simp [sameI, g1])
    have d1 : (a.w == b.w) = false := beq_eq_false_iff_ne.2 g1
    have G4 := Lib.hid (trivial)
    have g3 := trivial
    have G3 := Lib.hid g3
    clear g3
    go_wp2_with (first | (go_at_call 17; refine (bytes_any DY.out DY'.out).mono ?_; rintro e w5 ⟨rfl, b5⟩; rw [G3.out]; have HW := Lib.hid (HW.out.trans (b5.mono HW.out.size)); have H1 := Lib.hid (H1.out.below b5); have H2 := Lib.hid (H2.out.below b5); have DY := Lib.hid (DY.out.below b5); have DZ := Lib.hid (DZ.out.below b5); have DY' := Lib.hid (DY'.out.below b5); have DZ' := Lib.hid (DZ'.out.below b5); obtain ⟨u0, u1, u2, u3, u4, u5, u6, u7, u8, u9, u10⟩ := Res.at H1.out; obtain ⟨v0, v1, v2, v3, v4, v5, v6, v7, v8, v9, v10⟩ := Res.at H2.out; clear b5) | (go_at_call 18; refine (equals_any DZ.out DZ'.out).mono ?_; rintro e w5 ⟨rfl, b5⟩; rw [G4.out]; have HW := Lib.hid (HW.out.trans (b5.mono HW.out.size)); have H1 := Lib.hid (H1.out.below b5); have H2 := Lib.hid (H2.out.below b5); have DY := Lib.hid (DY.out.below b5); have DZ := Lib.hid (DZ.out.below b5); have DY' := Lib.hid (DY'.out.below b5); have DZ' := Lib.hid (DZ'.out.below b5); obtain ⟨u0, u1, u2, u3, u4, u5, u6, u7, u8, u9, u10⟩ := Res.at H1.out; obtain ⟨v0, v1, v2, v3, v4, v5, v6, v7, v8, v9, v10⟩ := Res.at H2.out; clear b5))
    go_ret
    exact ⟨by rw [G.out]; rfl, HW.out⟩
end Go.Proofs.Ytjefjonogbkknaa
