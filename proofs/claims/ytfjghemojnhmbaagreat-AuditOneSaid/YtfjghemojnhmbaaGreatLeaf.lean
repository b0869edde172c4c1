/- The document's small functions: what is asked of rights and names. -/
import Derived.Test.YtfjghemojnhmbaaGreatChecked
import Derived.WalkSpells
import Derived.Lib.Hide
import Derived.Deep.OwnRows
import Derived.Deep.LoopGhost
import Derived.Deep.MidRow
import Derived.Deep.DeepMust
import Derived.Deep.CutRange
import Derived.Deep.DeepCutAuto
import Derived.WalkMore
import Derived.Test.YtfjghemojnhmbaaGreatKit
namespace Go.Proofs.YtfjghemojnhmbaaGreat
open Go.RowKit

theorem and4095 (x : Int) : bits .and .i64 x 4095 = x % 4096 := by
  show IntKind.i64.wrap ((BitVec.ofInt 64 x &&& BitVec.ofInt 64 4095).toNat : Int) = _
  rw [BitVec.toNat_and, BitVec.toNat_ofInt, show (BitVec.ofInt 64 4095).toNat = 2 ^ 12 - 1 from rfl, Nat.and_two_pow_sub_one_eq_mod, IntKind.wrap_i64]
  omega
theorem masked_any (x : Int) (w : World) : Calls Tryz.prog 97 #[.int .i64 x] w fun e w' => (∃ r : Int, 0 ≤ r ∧ r ≤ 4095 ∧ e = .returned (.int .i64 r)) ∧ w = w' := by
  go_enter Tryz.func97, Tryz.ntmps97
  go_wp2_with fail
  go_ret
  refine ⟨⟨_, ?_, ?_, rfl⟩, rfl⟩
  · rw [and4095]; omega
  · rw [and4095]; omega
structure Cr where
  (u g : Int)
def Cr.val (c : Cr) : Value := .agg #[.int .i64 c.u, .int .i64 c.g]
/-- A Stat. -/
structure Stt where
  (node kind mode uid gid links size : Int)
def Stt.cells (s : Stt) : List Value := [.int .i64 s.node, .int .i64 s.kind, .int .i64 s.mode, .int .i64 s.uid, .int .i64 s.gid, .int .i64 s.links, .int .i64 s.size]
def Stt.val (s : Stt) : Value := .agg #[.int .i64 s.node, .int .i64 s.kind, .int .i64 s.mode, .int .i64 s.uid, .int .i64 s.gid, .int .i64 s.links, .int .i64 s.size]
def SomeB (w : World) (e : Ending) (w' : World) : Prop := (∃ r : Bool, e = .returned (.bool r)) ∧ Below w.heap.size w w'
theorem SomeB.mk {w w' : World} {e : Ending} {r : Bool} (h : e = .returned (.bool r)) (b : Below w.heap.size w w') : SomeB w e w' := ⟨⟨r, h⟩, b⟩
set_option maxRecDepth 100000 in
set_option maxHeartbeats 1000000 in
theorem may_any (c : Cr) (s : Stt) (want : Int) (w : World) : Calls Tryz.prog 75 #[c.val, s.val, .int .i64 want] w (SomeB w) := by
  unfold SomeB Cr.val Stt.val
  go_enter Tryz.func75, Tryz.ntmps75
  go_wp2_with fail
  all_goals
    go_ret
    exact ⟨⟨_, rfl⟩, ((Below.refl _ _).alloc (Nat.le_refl _) _).alloc (by simp) _⟩
set_option maxRecDepth 100000 in
set_option maxHeartbeats 1000000 in
theorem owns_any (c : Cr) (s : Stt) (w : World) : Calls Tryz.prog 72 #[c.val, s.val] w (SomeB w) := by
  unfold SomeB Cr.val Stt.val
  go_enter Tryz.func72, Tryz.ntmps72
  go_wp2_with fail
  all_goals
    go_ret
    exact ⟨⟨_, rfl⟩, ((Below.refl _ _).alloc (Nat.le_refl _) _).alloc (by simp) _⟩
set_option maxRecDepth 100000 in
set_option maxHeartbeats 1000000 in
theorem dots_any (s : ByteArray) (w : World) : Calls Tryz.prog 118 #[.string s] w (SomeB w) := by
  unfold SomeB
  go_enter Tryz.func118, Tryz.ntmps118
  go_wp2_with fail
  all_goals
    go_ret
    exact ⟨⟨_, rfl⟩, Below.refl _ _⟩
end Go.Proofs.YtfjghemojnhmbaaGreat
/- Sticky; names that may be. -/
namespace Go.Proofs.YtfjghemojnhmbaaGreat
open Go.RowKit

set_option maxRecDepth 100000 in
set_option maxHeartbeats 1000000 in
theorem sticky_any (c : Cr) (d s : Stt) (w : World) : Calls Tryz.prog 108 #[c.val, d.val, s.val] w (SomeB w) := by
  have HO : ∀ (s : Stt) (X : World), Calls Tryz.prog 72 #[.agg #[.int .i64 c.u, .int .i64 c.g], .agg #[.int .i64 s.node, .int .i64 s.kind, .int .i64 s.mode, .int .i64 s.uid, .int .i64 s.gid, .int .i64 s.links, .int .i64 s.size]] X (SomeB X) := fun s X => owns_any c s X
  have HOO := Lib.hid HO
  clear HO
  unfold SomeB Cr.val Stt.val
  go_enter Tryz.func108, Tryz.ntmps108
  go_upto_region 1 with fail
  obtain ⟨W, hW⟩ : ∃ W, ((w.alloc (.cells #[.int .i64 c.u, .int .i64 c.g] 56)).alloc (.cells #[.int .i64 d.node, .int .i64 d.kind, .int .i64 d.mode, .int .i64 d.uid, .int .i64 d.gid, .int .i64 d.links, .int .i64 d.size] 38)).alloc (.cells #[.int .i64 s.node, .int .i64 s.kind, .int .i64 s.mode, .int .i64 s.uid, .int .i64 s.gid, .int .i64 s.links, .int .i64 s.size] 38) = W := ⟨_, rfl⟩
  have HW : Hid (Below w.heap.size w W) := Lib.hid (by rw [← hW]; exact (((Below.refl _ _).alloc (Nat.le_refl _) _).alloc (by simp) _).alloc (by simp; omega) _)
  have H0 : Hid (Holds W w.heap.size #[.int .i64 c.u, .int .i64 c.g]) := Lib.hid (by rw [← hW]; exact ((Holds.new _ _ _).alloc _).alloc _)
  have H1 : Hid (Holds W (w.heap.size + 1) #[.int .i64 d.node, .int .i64 d.kind, .int .i64 d.mode, .int .i64 d.uid, .int .i64 d.gid, .int .i64 d.links, .int .i64 d.size]) := Lib.hid (by
    rw [← hW]
    have := (Holds.new (w.alloc (.cells #[.int .i64 c.u, .int .i64 c.g] 56)) #[.int .i64 d.node, .int .i64 d.kind, .int .i64 d.mode, .int .i64 d.uid, .int .i64 d.gid, .int .i64 d.links, .int .i64 d.size] 38).alloc (.cells #[.int .i64 s.node, .int .i64 s.kind, .int .i64 s.mode, .int .i64 s.uid, .int .i64 s.gid, .int .i64 s.links, .int .i64 s.size] 38)
    rw [World.size_alloc] at this
    exact this)
  have H2 : Hid (Holds W (w.heap.size + 1 + 1) #[.int .i64 s.node, .int .i64 s.kind, .int .i64 s.mode, .int .i64 s.uid, .int .i64 s.gid, .int .i64 s.links, .int .i64 s.size]) := Lib.hid (by
    rw [← hW]
    have := Holds.new ((w.alloc (.cells #[.int .i64 c.u, .int .i64 c.g] 56)).alloc (.cells #[.int .i64 d.node, .int .i64 d.kind, .int .i64 d.mode, .int .i64 d.uid, .int .i64 d.gid, .int .i64 d.links, .int .i64 d.size] 38)) #[.int .i64 s.node, .int .i64 s.kind, .int .i64 s.mode, .int .i64 s.uid, .int .i64 s.gid, .int .i64 s.links, .int .i64 s.size] 38
    rw [World.size_alloc, World.size_alloc] at this
    exact this)
  rw [hW]
  clear hW
  have HF : Hid (∀ X, Below W.heap.size W X → (X.cell? ⟨w.heap.size, 0, none⟩ = some (.int .i64 c.u) ∧ X.cell? ⟨w.heap.size, 1, none⟩ = some (.int .i64 c.g)) ∧ (X.cell? ⟨w.heap.size + 1 + 1, 0, none⟩ = some (.int .i64 s.node) ∧ X.cell? ⟨w.heap.size + 1 + 1, 1, none⟩ = some (.int .i64 s.kind) ∧ X.cell? ⟨w.heap.size + 1 + 1, 2, none⟩ = some (.int .i64 s.mode) ∧ X.cell? ⟨w.heap.size + 1 + 1, 3, none⟩ = some (.int .i64 s.uid) ∧ X.cell? ⟨w.heap.size + 1 + 1, 4, none⟩ = some (.int .i64 s.gid) ∧ X.cell? ⟨w.heap.size + 1 + 1, 5, none⟩ = some (.int .i64 s.links) ∧ X.cell? ⟨w.heap.size + 1 + 1, 6, none⟩ = some (.int .i64 s.size))) := Lib.hid (fun X hX =>
    have a := H0.out.below hX
    have b := H2.out.below hX
    ⟨⟨a.cell 0, a.cell 1⟩, b.cell 0, b.cell 1, b.cell 2, b.cell 3, b.cell 4, b.cell 5, b.cell 6⟩)
  obtain ⟨⟨c0, c1⟩, s0, s1, s2, s3, s4, s5, s6⟩ := HF.out W (Below.refl _ _)
  have d0 : W.cell? ⟨w.heap.size + 1, 0, none⟩ = some (.int .i64 d.node) := H1.out.cell 0
  have d1 : W.cell? ⟨w.heap.size + 1, 1, none⟩ = some (.int .i64 d.kind) := H1.out.cell 1
  have d2 : W.cell? ⟨w.heap.size + 1, 2, none⟩ = some (.int .i64 d.mode) := H1.out.cell 2
  have d3 : W.cell? ⟨w.heap.size + 1, 3, none⟩ = some (.int .i64 d.uid) := H1.out.cell 3
  have d4 : W.cell? ⟨w.heap.size + 1, 4, none⟩ = some (.int .i64 d.gid) := H1.out.cell 4
  have d5 : W.cell? ⟨w.heap.size + 1, 5, none⟩ = some (.int .i64 d.links) := H1.out.cell 5
  have d6 : W.cell? ⟨w.heap.size + 1, 6, none⟩ = some (.int .i64 d.size) := H1.out.cell 6
  obtain ⟨V, hV⟩ : ∃ V, (bits .and .i64 d.mode 512 == 0) = V := ⟨_, rfl⟩
  cases V
  · have hv : (bits .and .i64 d.mode 512 != 0) = true := by rw [bne, hV]; rfl
    go_wp2_with fail
    refine (HOO.out d _).mono ?_
    rintro e w1 ⟨⟨r1, rfl⟩, b1⟩
    have B1 := Lib.hid b1
    clear c0 c1 s0 s1 s2 s3 s4 s5 s6 d0 d1 d2 d3 d4 d5 d6 b1
    obtain ⟨⟨c0, c1⟩, s0, s1, s2, s3, s4, s5, s6⟩ := HF.out w1 B1.out
    cases r1
    · go_wp2_with fail
      refine (HOO.out s _).mono ?_
      rintro e w2 ⟨⟨r2, rfl⟩, b2⟩
      have B2 := Lib.hid (HW.out.trans ((B1.out.trans (b2.mono B1.out.size)).mono HW.out.size))
      clear b2
      go_wp2_with fail
      go_ret
      exact ⟨⟨_, rfl⟩, B2.out⟩
    · go_wp2_with fail
      go_ret
      exact ⟨⟨_, rfl⟩, HW.out.trans (B1.out.mono HW.out.size)⟩
  · have hv : (bits .and .i64 d.mode 512 != 0) = false := by rw [bne, hV]; rfl
    go_wp2_with fail
    go_ret
    exact ⟨⟨_, rfl⟩, HW.out⟩
set_option maxRecDepth 100000 in
set_option maxHeartbeats 1000000 in
theorem right_any (s : ByteArray) (hs : s.size ≤ 1000000) (w : World) : Calls Tryz.prog 91 #[.string s] w (SomeB w) := by
  go_enter Tryz.func91, Tryz.ntmps91
  go_wp2_with fail
  go_loopw [3] (fun iv wr => ∃ i : Nat, i ≤ s.size ∧ iv = .int .i64 i ∧ Hid (wr = w)) (fun iv _ => s.size - (intOf iv).toNat)
  case atStart => exact ⟨0, by omega, rfl, rfl⟩
  case round =>
    obtain ⟨i, hi, rfl, HW⟩ := hrel
    by_cases hlt : i < s.size
    · have k0 : (0 : Int) ≤ (i : Int) := by omega
      have k1 : (i : Int) < (s.size : Int) := by omega
      go_wp2_with fail
      all_goals
        first
        | (go_ret; exact SomeB.mk rfl (by rw [HW.out]; exact Below.refl _ _))
        | (go_roundw
           case rel => exact ⟨i + 1, by omega, by go_num, HW⟩
           case measure => simp [intOf]; omega)
    · obtain rfl : i = s.size := by omega
      have k1 : ¬ (s.size : Int) < (s.size : Int) := by omega
      go_wp2_with (first | (go_at_call 118; refine (dots_any s _).mono ?_; rintro e w1 ⟨⟨r1, rfl⟩, b1⟩; have B1 := Lib.hid b1; clear b1))
      all_goals
        go_ret
        first | exact SomeB.mk rfl (by rw [HW.out]; exact Below.refl _ _) | exact SomeB.mk rfl (by rw [HW.out] at B1; exact B1.out)
end Go.Proofs.YtfjghemojnhmbaaGreat
