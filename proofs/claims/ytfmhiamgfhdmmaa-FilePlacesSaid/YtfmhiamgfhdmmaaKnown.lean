/- The runs that each statement of chapter 14 asks again; FileNumbers. -/
import Derived.Test.YtfmhiamgfhdmmaaOps3
namespace Go.Proofs.Ytfmhiamgfhdmmaa
open Go.RowKit

/-- A table whose block is at or beyond w's end, and what lay below that end. -/
structure Tb (w wr : World) (b : Nat) (s : TS) : Prop where
  tb : IsTb wr b s
  bel : Below w.heap.size w wr
  lo : w.heap.size ≤ b
theorem Tb.step {w wr w' : World} {b : Nat} {s s' : TS} (h : Tb w wr b s) (ht : IsTb w' b s') (hf : Frm [b] wr w') : Tb w w' b s' :=
  ⟨ht, h.bel.trans (hf.below h.bel.size (by simpa using h.lo)), h.lo⟩
theorem Tb.below {w wr w' : World} {b : Nat} {s : TS} (h : Tb w wr b s) (hb : Below wr.heap.size wr w') : Tb w w' b s := ⟨h.tb.below hb, h.bel.trans (hb.mono h.bel.size), h.lo⟩
theorem Tb.alloc {w wr : World} {b : Nat} {s : TS} (h : Tb w wr b s) (o : Obj) : Tb w (wr.alloc o) b s := h.below ((Below.refl _ _).alloc (Nat.le_refl _) o)
theorem Tb.drew {w wr : World} {b : Nat} {s : TS} (h : Tb w wr b s) : Tb w wr.drew b s := h.below (Below.refl _ _).drew
theorem Tb.start {w w1 : World} {s : TS} (h : IsTb w1 w.heap.size s) (B : Below w.heap.size w w1) : Tb w w1 w.heap.size s := ⟨h, B, Nat.le_refl _⟩

def ks0 : TS := ⟨64, fun _ => Sl.zero⟩
def ks1 : TS := (opOpen ks0 0 0 0 1).2
def ks2 : TS := (opOpen ks1 0 0 0 1).2
def ks3 : TS := (opClose ks2 0 0).2
def ks4 : TS := (opOpen ks3 0 0 5 3).2
theorem kv1 : (opOpen ks0 0 0 0 1).1 = (0, 0) := by decide +kernel
theorem kv2 : (opOpen ks1 0 0 0 1).1 = (1, 0) := by decide +kernel
theorem kv4 : (opOpen ks3 0 0 5 3).1 = (0, 0) := by decide +kernel
theorem kv5 : (opGet ks4 0 0).2 = 0 ∧ (opGet ks4 0 0).1.m = 0 ∧ (opGet ks4 0 0).1.n = 5 ∧ (opGet ks4 0 0).1.f = 3 ∧ (opGet ks4 0 0).1.p = 0 := by decide +kernel
theorem kv5f : (opGet ks4 0 0).1.file = .agg #[.int .i64 0, .int .i64 5, .int .i64 3, .int .i64 0] := by
  unfold Sl.file
  rw [kv5.2.1, kv5.2.2.1, kv5.2.2.2.1, kv5.2.2.2.2]

set_option maxHeartbeats 1000000 in
theorem known_any (w : World) : Calls Try.prog 10 #[] w fun e w' => e = .returned (.bool true) ∧ Below w.heap.size w w' := by
  go_enter Try.func10, Try.ntmps10
  go_wp2_with fail
  refine (new_yes 64 w (by omega) (by omega)).mono ?_
  rintro e w1 ⟨rfl, i1, b1⟩
  have T1 : Hid (Tb w w1 w.heap.size ks0) := Lib.hid (Tb.start i1 b1)
  clear i1 b1
  go_wp2_with fail
  refine (tb_open T1.out.tb 0 0 0 1).mono ?_
  rintro e w2 ⟨rfl, i2, f2⟩
  have T2 : Hid (Tb w w2 w.heap.size ks1) := Lib.hid (T1.out.step i2 f2)
  rw [kv1]
  clear i2 f2
  go_wp2_with fail
  refine (tb_open T2.out.tb 0 0 0 1).mono ?_
  rintro e w3 ⟨rfl, i3, f3⟩
  have T3 : Hid (Tb w w3 w.heap.size ks2) := Lib.hid (T2.out.step i3 f3)
  rw [kv2]
  clear i3 f3
  go_wp2_with fail
  refine (tb_close T3.out.tb 0 0).mono ?_
  rintro e w4 ⟨rfl, i4, f4⟩
  have T4 : Hid (Tb w w4 w.heap.size ks3) := Lib.hid (T3.out.step i4 f4)
  clear i4 f4
  generalize (opClose ks2 0 0).1 = r4
  go_wp2_with fail
  refine (tb_open T4.out.tb 0 0 5 3).mono ?_
  rintro e w5 ⟨rfl, i5, f5⟩
  have T5 : Hid (Tb w w5 w.heap.size ks4) := Lib.hid (T4.out.step i5 f5)
  rw [kv4]
  clear i5 f5
  go_wp2_with fail
  refine (tb_get T5.out.tb 0 0).mono ?_
  rintro e w6 ⟨rfl, b6⟩
  rw [kv5f, kv5.1]
  have T6 := Lib.hid (T5.out.below b6)
  clear b6
  go_wp2_with fail
  go_ret
  exact ⟨rfl, (T6.out.alloc _).bel⟩
end Go.Proofs.Ytfmhiamgfhdmmaa
