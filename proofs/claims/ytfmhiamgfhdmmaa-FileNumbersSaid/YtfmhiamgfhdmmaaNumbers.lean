/- The walk of FileNumbers. -/
import Derived.Test.YtfmhiamgfhdmmaaKnown
namespace Go.Proofs.Ytfmhiamgfhdmmaa
open Go.RowKit

def ns0 : TS := ⟨1, fun _ => Sl.zero⟩
def ns1 : TS := (opOpen ns0 0 2 0 1).2
def ns2 : TS := (opOpen ns1 1 0 0 1).2
def ns3 : TS := (opOpen ns2 8 0 0 1).2
def ns4 : TS := (opClose ns3 1 0).2
def ns5 : TS := (opSeek ns4 0 0 (-1)).2
def ns6 : TS := (opSeek ns5 0 0 7).2
def us : Nat → TS
  | 0 => ks0
  | k + 1 => (opOpen (us k) 3 0 0 1).2
theorem nv2 : (opOpen ns1 1 0 0 1).1.2 = 40 := by decide +kernel
theorem nv3 : (opOpen ns2 8 0 0 1).1.2 = 1 := by decide +kernel
theorem nv4 : (opClose ns3 1 0).1.2.2 = 33 := by decide +kernel
theorem nv5 : (opSeek ns4 0 0 (-1)).1 = 39 := by decide +kernel
theorem nv6 : (opSeek ns5 0 0 7).1 = 0 := by decide +kernel
theorem nv7 : (opGet ns6 0 0).1.p = 7 := by decide +kernel
theorem nv8 : (opOpen (us 8) 3 0 0 1).1.2 = 41 := by decide +kernel
theorem nv9 : cntT ns6.T = 1 := by decide +kernel
theorem nv10 : inT ns6.T (told ns6.T 64) 2 = 1 := by decide +kernel
theorem nv11 : inT ns6.T (told ns6.T 64) 0 = 0 := by decide +kernel

/-- Two tables and a variable, apart. -/
structure Two (w wr : World) (b c q : Nat) (s t : TS) (cs : Array Value) : Prop where
  tb : IsTb wr b s
  tc : IsTb wr c t
  vq : Holds wr q cs
  bel : Below w.heap.size w wr
  bc : b ≠ c
  qc : q ≠ c
  lo : w.heap.size ≤ c
theorem Two.step {w wr w' : World} {b c q : Nat} {s t t' : TS} {cs : Array Value} (h : Two w wr b c q s t cs) (ht : IsTb w' c t') (hf : Frm [c] wr w') : Two w w' b c q s t' cs :=
  ⟨h.tb.frm hf (by simpa using h.bc), ht, h.vq.frm hf (by simpa using h.qc), h.bel.trans (hf.below h.bel.size (by simpa using h.lo)), h.bc, h.qc, h.lo⟩

set_option maxRecDepth 100000 in
set_option maxHeartbeats 2000000 in
theorem numbers_any (w : World) : Calls Try.prog 4 #[] w fun e w' => e = .returned (.bool true) ∧ Below w.heap.size w w' := by
  go_enter Try.func4, Try.ntmps4
  go_wp2_with fail
  refine (new_no 0 w (by omega)).mono ?_
  rintro e w0 ⟨rfl, rfl⟩
  go_wp2_with fail
  refine (new_no 65 w (by omega)).mono ?_
  rintro e w0 ⟨rfl, rfl⟩
  go_wp2_with fail
  refine (new_yes 1 w (by omega) (by omega)).mono ?_
  rintro e w1 ⟨rfl, i1, b1⟩
  have T1 : Hid (Tb w w1 w.heap.size ns0) := Lib.hid (Tb.start i1 b1)
  clear i1 b1
  go_wp2_with fail
  refine (tb_open T1.out.tb 0 2 0 1).mono ?_
  rintro e w2 ⟨rfl, i2, f2⟩
  have T2 : Hid (Tb w w2 w.heap.size ns1) := Lib.hid (T1.out.step i2 f2)
  clear i2 f2
  generalize (opOpen ns0 0 2 0 1).1 = r2
  go_wp2_with fail
  refine (tb_open T2.out.tb 1 0 0 1).mono ?_
  rintro e w3 ⟨rfl, i3, f3⟩
  have T3 : Hid (Tb w w3 w.heap.size ns2) := Lib.hid (T2.out.step i3 f3)
  rw [nv2]
  clear i3 f3
  generalize (opOpen ns1 1 0 0 1).1.1 = r3
  go_wp2_with fail
  refine (tb_open T3.out.tb 8 0 0 1).mono ?_
  rintro e w4 ⟨rfl, i4, f4⟩
  have T4 : Hid (Tb w w4 w.heap.size ns3) := Lib.hid (T3.out.step i4 f4)
  rw [nv3]
  clear i4 f4
  generalize (opOpen ns2 8 0 0 1).1.1 = r4
  go_wp2_with fail
  refine (tb_close T4.out.tb 1 0).mono ?_
  rintro e w5 ⟨rfl, i5, f5⟩
  have T5 : Hid (Tb w w5 w.heap.size ns4) := Lib.hid (T4.out.step i5 f5)
  rw [nv4]
  clear i5 f5
  generalize (opClose ns3 1 0).1.1 = r5
  generalize (opClose ns3 1 0).1.2.1 = r5'
  go_wp2_with fail
  have T5' := Lib.hid (T5.out.alloc (.cells #[.int .i64 r5, .int .i64 r5'] 30))
  refine (tb_seek T5'.out.tb 0 0 (-1)).mono ?_
  rintro e w6 ⟨rfl, i6, f6⟩
  have T6 : Hid (Tb w w6 w.heap.size ns5) := Lib.hid (T5'.out.step i6 f6)
  rw [nv5]
  clear i6 f6 T5'
  go_wp2_with fail
  refine (tb_seek T6.out.tb 0 0 7).mono ?_
  rintro e w7 ⟨rfl, i7, f7⟩
  have T7 : Hid (Tb w w7 w.heap.size ns6) := Lib.hid (T6.out.step i7 f7)
  rw [nv6]
  clear i7 f7
  go_wp2_with fail
  refine (tb_get T7.out.tb 0 0).mono ?_
  rintro e w8 ⟨rfl, b8⟩
  have T8 := Lib.hid (T7.out.below b8)
  obtain ⟨y, hy⟩ : ∃ y, (opGet ns6 0 0).1 = y := ⟨_, rfl⟩
  have hyp : y.p = 7 := by rw [← hy]; exact nv7
  have HYP := Lib.hid hyp
  rw [hy]
  simp only [Sl.file]
  generalize (opGet ns6 0 0).2 = r8
  clear b8 hyp hy
  go_wp2_with fail
  have T9 := Lib.hid (T8.out.alloc (.cells #[.int .i64 y.m, .int .i64 y.n, .int .i64 y.f, .int .i64 y.p] 41))
  have V9 := Lib.hid (Holds.new w8 #[.int .i64 y.m, .int .i64 y.n, .int .i64 y.f, .int .i64 y.p] 41)
  have hb9 := T8.out.tb.lt
  have hs9 := T8.out.bel.size
  refine (new_yes 64 _ (by omega) (by omega)).mono ?_
  rintro e w10 ⟨rfl, i10, b10⟩
  rw [World.size_alloc] at i10 b10 ⊢
  have U0 : Hid (Two w w10 w.heap.size (w8.heap.size + 1) w8.heap.size ns6 (us 0) #[.int .i64 y.m, .int .i64 y.n, .int .i64 y.f, .int .i64 y.p]) := by
    rw [← World.size_alloc w8 (.cells #[.int .i64 y.m, .int .i64 y.n, .int .i64 y.f, .int .i64 y.p] 41)] at b10
    exact Lib.hid ⟨T9.out.tb.below b10, i10, V9.out.below b10, (T9.out.below b10).bel, by omega, by omega, by omega⟩
  clear i10 b10 T9 V9 T8 T7 T6 T5 T4 T3 T2 T1
  go_wp2_with fail
  go_loopw [19] (fun iv wr => ∃ k : Nat, k ≤ 8 ∧ iv = .int .i64 k ∧ Hid (Two w wr w.heap.size (w8.heap.size + 1) w8.heap.size ns6 (us k) #[.int .i64 y.m, .int .i64 y.n, .int .i64 y.f, .int .i64 y.p])) (fun iv _ => 8 - (intOf iv).toNat)
  case atStart => exact ⟨0, by omega, rfl, U0⟩
  case round =>
    obtain ⟨k, hk, rfl, UK⟩ := hrel
    clear U0
    by_cases hlt : k < 8
    · have hk1 : (k : Int) < 8 := by omega
      go_wp2_with (go_at_call 9; refine (tb_open UK.out.tc 3 0 0 1).mono ?_; rintro e w11 ⟨rfl, i11, f11⟩; have U11 := Lib.hid (UK.out.step i11 f11); clear i11 f11)
      go_roundw
      case rel => exact ⟨k + 1, by omega, by go_num, U11⟩
      case measure => simp [intOf]; omega
    · obtain rfl : k = 8 := by omega
      go_wp2_with fail
      refine (tb_open UK.out.tc 3 0 0 1).mono ?_
      rintro e w12 ⟨rfl, i12, f12⟩
      have U12 := Lib.hid (UK.out.step i12 f12)
      rw [nv8]
      clear i12 f12
      generalize (opOpen (us 8) 3 0 0 1).1.1 = r12
      have c2 : w12.cell? ⟨w8.heap.size, 2 + 1, none⟩ = some (.int .i64 7) := by rw [U12.out.vq.cell 3, ← HYP.out]; rfl
      have c3 : w12.cell? ⟨w8.heap.size, 3, none⟩ = some (.int .i64 7) := c2
      go_wp2_with (first | (go_at_call 13; refine (count_any U12.out.tb).mono ?_; rintro e w13 ⟨rfl, b13⟩; rw [nv9]; have t13 := Lib.hid (U12.out.tb.below b13); have B13 := Lib.hid (U12.out.bel.trans (b13.mono U12.out.bel.size)); clear b13) | (go_at_call 14; first | (refine (in_any t14.out 0).mono ?_; rintro e w15 ⟨rfl, b15⟩; rw [nv11]; have B15 := Lib.hid (B14.out.trans (b15.mono B14.out.size)); clear b15) | (refine (in_any t13.out 2).mono ?_; rintro e w14 ⟨rfl, b14⟩; rw [nv10]; have t14 := Lib.hid (t13.out.below b14); have B14 := Lib.hid (B13.out.trans (b14.mono B13.out.size)); clear b14)) | (go_at_call 10; refine (known_any _).mono ?_; rintro e w16 ⟨rfl, b16⟩))
      go_ret
      exact ⟨rfl, B15.out.trans (b16.mono B15.out.size)⟩
end Go.Proofs.Ytfmhiamgfhdmmaa
