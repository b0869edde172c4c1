/- Plain facts on the bits of 64-bit numbers, as chapter 8's rights are told by them. No program in sight. -/
import Derived.WalkKit
namespace Go.Proofs.Ytlajinihhgfnmaa
open Go.RowKit

/-- Bit i of a number, as 64 bits hold it. -/
def bt (x : Int) (i : Nat) : Bool := (BitVec.ofInt 64 x).getLsbD i

theorem ofInt_wrap (n : Int) : BitVec.ofInt 64 (IntKind.i64.wrap n) = BitVec.ofInt 64 n := by
  rw [IntKind.wrap_i64]
  apply BitVec.eq_of_toInt_eq
  rw [BitVec.toInt_ofInt, BitVec.toInt_ofInt]
  show Int.bmod _ 18446744073709551616 = Int.bmod _ 18446744073709551616
  rw [show (n + 9223372036854775808) % 18446744073709551616 - 9223372036854775808 = n - 18446744073709551616 * ((n + 9223372036854775808) / 18446744073709551616) from by omega]
  simp [Int.bmod]

theorem ofInt_toNat (b : BitVec 64) : BitVec.ofInt 64 (b.toNat : Int) = b := by
  rw [BitVec.ofInt_natCast]; simp

theorem bt_and (a b : Int) (i : Nat) : bt (bits .and .i64 a b) i = (bt a i && bt b i) := by
  show (BitVec.ofInt 64 (IntKind.i64.wrap ((BitVec.ofInt 64 a &&& BitVec.ofInt 64 b).toNat : Int))).getLsbD i = _
  rw [ofInt_wrap, ofInt_toNat]; simp [bt]
theorem bt_or (a b : Int) (i : Nat) : bt (bits .or .i64 a b) i = (bt a i || bt b i) := by
  show (BitVec.ofInt 64 (IntKind.i64.wrap ((BitVec.ofInt 64 a ||| BitVec.ofInt 64 b).toNat : Int))).getLsbD i = _
  rw [ofInt_wrap, ofInt_toNat]; simp [bt]
theorem bt_andNot (a b : Int) (i : Nat) (h : i < 64) : bt (bits .andNot .i64 a b) i = (bt a i && !bt b i) := by
  show (BitVec.ofInt 64 (IntKind.i64.wrap ((BitVec.ofInt 64 a &&& ~~~(BitVec.ofInt 64 b)).toNat : Int))).getLsbD i = _
  rw [ofInt_wrap, ofInt_toNat]; simp [bt, h]

theorem bt_eq (x : Int) (i : Nat) : bt x i = decide ((x % 18446744073709551616).toNat / 2 ^ i % 2 = 1) := by
  unfold bt
  rw [BitVec.getLsbD, BitVec.toNat_ofInt, Nat.testBit_eq_decide_div_mod_eq]
  rfl

theorem bt_shr3 (x : Int) : bt (x / 8) 0 = bt x 3 ∧ bt (x / 8) 1 = bt x 4 ∧ bt (x / 8) 2 = bt x 5 := by
  simp only [bt_eq, decide_eq_decide]
  refine ⟨?_, ?_, ?_⟩ <;> omega
theorem bt_shr6 (x : Int) : bt (x / 64) 0 = bt x 6 ∧ bt (x / 64) 1 = bt x 7 ∧ bt (x / 64) 2 = bt x 8 := by
  simp only [bt_eq, decide_eq_decide]
  refine ⟨?_, ?_, ?_⟩ <;> omega

/-- a number of three bits -/
def of3 (a b c : Bool) : Int := (if a then 1 else 0) + (if b then 2 else 0) + (if c then 4 else 0)
theorem and7 (x : Int) : bits .and .i64 x 7 = of3 (bt x 0) (bt x 1) (bt x 2) := by
  have h7 : (7 : Int) = 2 ^ 3 - 1 := rfl
  have e : bits .and .i64 x 7 = x % 8 := by
    show IntKind.i64.wrap ((BitVec.ofInt 64 x &&& BitVec.ofInt 64 7).toNat : Int) = _
    rw [BitVec.toNat_and, BitVec.toNat_ofInt, show (BitVec.ofInt 64 7).toNat = 2 ^ 3 - 1 from rfl, Nat.and_two_pow_sub_one_eq_mod, IntKind.wrap_i64]
    omega
  rw [e]
  simp only [bt_eq, of3]
  simp only [decide_eq_true_eq]
  split <;> split <;> split <;> omega

/-- What cred.May answers, as its text reckons it. -/
def mayB (uid gid mode su sg want : Int) : Bool :=
  uid == 0 || bits .and .i64 (bits .andNot .i64 want (if uid = su then mode / 64 else if gid = sg then mode / 8 else mode)) 7 == 0

theorem of3_zero (a b c : Bool) : (of3 a b c == 0) = (!a && !b && !c) := by cases a <;> cases b <;> cases c <;> rfl

def ok3 (want has : Int) : Bool := (!bt want 0 || bt has 0) && (!bt want 1 || bt has 1) && (!bt want 2 || bt has 2)
theorem and7_andNot (want has : Int) : (bits .and .i64 (bits .andNot .i64 want has) 7 == 0) = ok3 want has := by
  rw [and7, of3_zero, bt_andNot _ _ _ (by omega), bt_andNot _ _ _ (by omega), bt_andNot _ _ _ (by omega), ok3]
  cases bt want 0 <;> cases bt want 1 <;> cases bt want 2 <;> cases bt has 0 <;> cases bt has 1 <;> cases bt has 2 <;> rfl
theorem may_ok3 (uid gid mode su sg want : Int) : mayB uid gid mode su sg want = (uid == 0 || ok3 want (if uid = su then mode / 64 else if gid = sg then mode / 8 else mode)) := by
  rw [mayB, and7_andNot]

theorem bt7 : bt 7 0 = true ∧ bt 7 1 = true ∧ bt 7 2 = true := by decide +kernel
theorem bt56 : bt 56 3 = true ∧ bt 56 4 = true ∧ bt 56 5 = true := by decide +kernel
theorem bt448 : bt 448 6 = true ∧ bt 448 7 = true ∧ bt 448 8 = true := by decide +kernel

/-- Only the three bits that count are asked. -/
theorem may_and7 (uid gid mode su sg a : Int) : mayB uid gid mode su sg (bits .and .i64 a 7) = mayB uid gid mode su sg a := by
  simp only [may_ok3, ok3, bt_and, bt7, Bool.and_true]
/-- Two rights: each of them. -/
theorem may_both (uid gid mode su sg a b : Int) : mayB uid gid mode su sg (bits .or .i64 a b) = (mayB uid gid mode su sg a && mayB uid gid mode su sg b) := by
  simp only [may_ok3, ok3, bt_or]
  generalize (if uid = su then mode / 64 else if gid = sg then mode / 8 else mode) = h
  cases (uid == 0) <;> cases bt a 0 <;> cases bt a 1 <;> cases bt a 2 <;> cases bt b 0 <;> cases bt b 1 <;> cases bt b 2 <;> cases bt h 0 <;> cases bt h 1 <;> cases bt h 2 <;> rfl
theorem may_root (gid mode su sg want : Int) : mayB 0 gid mode su sg want = true := by simp [mayB]
theorem may_owner (gid mode su sg want : Int) : mayB su gid (bits .and .i64 mode 448) su sg want = mayB su gid mode su sg want := by
  simp only [may_ok3, ok3, if_true, (bt_shr6 _).1, (bt_shr6 _).2.1, (bt_shr6 _).2.2, bt_and, bt448, Bool.and_true]
theorem may_group (uid mode su sg want : Int) (h : uid ≠ su) : mayB uid sg (bits .and .i64 mode 56) su sg want = mayB uid sg mode su sg want := by
  simp only [may_ok3, ok3, if_neg h, if_true, (bt_shr3 _).1, (bt_shr3 _).2.1, (bt_shr3 _).2.2, bt_and, bt56, Bool.and_true]
theorem may_other (uid gid mode su sg want : Int) (h : uid ≠ su) (g : gid ≠ sg) : mayB uid gid (bits .and .i64 mode 7) su sg want = mayB uid gid mode su sg want := by
  simp only [may_ok3, ok3, if_neg h, if_neg g, bt_and, bt7, Bool.and_true]
theorem may_here (mode gid su sg want : Int) (h0 : su ≠ 0) : mayB su gid mode su sg want = (bits .and .i64 (bits .andNot .i64 want (mode / 64)) 7 == 0) := by
  rw [mayB, if_pos rfl, show (su == 0) = false from by simpa using h0, Bool.false_or]
theorem may_there (uid gid mode su sg want : Int) (h0 : uid ≠ 0) (h1 : uid ≠ su) : mayB uid gid mode su sg want = (bits .and .i64 (bits .andNot .i64 want (if gid = sg then mode / 8 else mode)) 7 == 0) := by
  rw [mayB, if_neg h1, show (uid == 0) = false from by simpa using h0, Bool.false_or]
/-- One bit of nine. -/
theorem bt_pow (r i : Nat) (hr : r < 9) (hi : i < 9) : bt (2 ^ r) i = decide (i = r) := by
  rcases r with _ | _ | _ | _ | _ | _ | _ | _ | _ | r <;> (try omega) <;> rcases i with _ | _ | _ | _ | _ | _ | _ | _ | _ | i <;> first | omega | decide +kernel
theorem bt1 : bt 1 0 = true ∧ bt 1 1 = false ∧ bt 1 2 = false := by decide +kernel
theorem bt2 : bt 2 0 = false ∧ bt 2 1 = true ∧ bt 2 2 = false := by decide +kernel
theorem bt4 : bt 4 0 = false ∧ bt 4 1 = false ∧ bt 4 2 = true := by decide +kernel
theorem ok3_pow (k : Nat) (hk : k < 3) (has : Int) : ok3 (2 ^ k) has = bt has k := by
  rcases k with _ | _ | _ | k
  all_goals first | omega | simp [ok3, bt1, bt2, bt4]
theorem may_bit2 (gid su sg : Int) (r k : Nat) (h : su ≠ 0) (hr : r < 9) (hk : k < 3) : mayB su gid (2 ^ r) su sg (2 ^ k) = decide (r = 6 + k) := by
  rw [may_ok3, ok3_pow k hk, show (su == 0) = false from by simpa using h, if_pos rfl, Bool.false_or]
  have e := bt_shr6 (2 ^ r)
  rcases k with _ | _ | _ | k
  · rw [e.1, bt_pow r 6 hr (by omega)]; simp [eq_comm]
  · rw [e.2.1, bt_pow r 7 hr (by omega)]; simp [eq_comm]
  · rw [e.2.2, bt_pow r 8 hr (by omega)]; simp [eq_comm]
  · omega
theorem may_bit1 (uid su sg : Int) (r k : Nat) (h : uid ≠ 0) (h1 : uid ≠ su) (hr : r < 9) (hk : k < 3) : mayB uid sg (2 ^ r) su sg (2 ^ k) = decide (r = 3 + k) := by
  rw [may_ok3, ok3_pow k hk, show (uid == 0) = false from by simpa using h, if_neg h1, if_pos rfl, Bool.false_or]
  have e := bt_shr3 (2 ^ r)
  rcases k with _ | _ | _ | k
  · rw [e.1, bt_pow r 3 hr (by omega)]; simp [eq_comm]
  · rw [e.2.1, bt_pow r 4 hr (by omega)]; simp [eq_comm]
  · rw [e.2.2, bt_pow r 5 hr (by omega)]; simp [eq_comm]
  · omega
theorem may_bit0 (uid gid su sg : Int) (r k : Nat) (h : uid ≠ 0) (h1 : uid ≠ su) (h2 : gid ≠ sg) (hr : r < 9) (hk : k < 3) : mayB uid gid (2 ^ r) su sg (2 ^ k) = decide (r = k) := by
  rw [may_ok3, ok3_pow k hk, show (uid == 0) = false from by simpa using h, if_neg h1, if_neg h2, Bool.false_or, bt_pow r k hr (by omega)]; simp [eq_comm]
/-- All nine bits: everybody may all; none: only the root. -/
theorem may_all (uid gid su sg : Int) : mayB uid gid 511 su sg 7 = true := by
  rw [may_ok3]
  have a : ok3 7 (511 / 64) = true := by decide +kernel
  have b : ok3 7 (511 / 8) = true := by decide +kernel
  have c : ok3 7 511 = true := by decide +kernel
  split
  · rw [a]; simp
  · split
    · rw [b]; simp
    · rw [c]; simp
theorem may_none (uid gid su sg : Int) (h : uid ≠ 0) : mayB uid gid 0 su sg 1 = false ∧ mayB uid gid 0 su sg 2 = false ∧ mayB uid gid 0 su sg 4 = false := by
  have z : (if uid = su then (0 : Int) / 64 else if gid = sg then 0 / 8 else 0) = 0 := by split <;> (try split) <;> rfl
  simp only [may_ok3, z, show (uid == 0) = false from by simpa using h, Bool.false_or]
  decide +kernel
theorem and_assoc7 (a b : Int) : bits .and .i64 a (bits .and .i64 b 7) = bits .and .i64 (bits .and .i64 a b) 7 := by
  show IntKind.i64.wrap ((BitVec.ofInt 64 a &&& BitVec.ofInt 64 (IntKind.i64.wrap ((BitVec.ofInt 64 b &&& BitVec.ofInt 64 7).toNat : Int))).toNat : Int) = IntKind.i64.wrap ((BitVec.ofInt 64 (IntKind.i64.wrap ((BitVec.ofInt 64 a &&& BitVec.ofInt 64 b).toNat : Int)) &&& BitVec.ofInt 64 7).toNat : Int)
  rw [ofInt_wrap, ofInt_wrap, ofInt_toNat, ofInt_toNat, BitVec.and_assoc]
theorem of3_beq (a b c d e f : Bool) : (of3 a b c == of3 d e f) = (a == d && b == e && c == f) := by
  cases a <;> cases b <;> cases c <;> cases d <;> cases e <;> cases f <;> rfl
/-- The reference's test. -/
theorem ref_ok3 (has want : Int) : (bits .and .i64 (bits .and .i64 has 7) (bits .and .i64 want 7) == bits .and .i64 want 7) = ok3 want has := by
  rw [and_assoc7, and7 (bits .and .i64 (bits .and .i64 has 7) want), and7 want, of3_beq, ok3]
  simp only [bt_and, bt7, Bool.and_true]
  cases bt want 0 <;> cases bt want 1 <;> cases bt want 2 <;> cases bt has 0 <;> cases bt has 1 <;> cases bt has 2 <;> rfl
theorem ref_may (uid gid mode su sg want : Int) (h : uid ≠ 0) : mayB uid gid mode su sg want = (bits .and .i64 (bits .and .i64 (if uid = su then mode / 64 else if gid = sg then mode / 8 else mode) 7) (bits .and .i64 want 7) == bits .and .i64 want 7) := by
  rw [ref_ok3, may_ok3, show (uid == 0) = false from by simpa using h, Bool.false_or]
def ownsB (uid su : Int) : Bool := uid == 0 || uid == su
def stickyB (uid dm dsu su : Int) : Bool := bits .and .i64 dm 512 != 0 && !ownsB uid dsu && !ownsB uid su
theorem known1 : mayB 1 1 448 1 1 7 = true := by decide +kernel
theorem known2 : mayB 2 1 448 1 1 4 = false := by decide +kernel
theorem known4 : mayB 1 1 63 1 1 4 = false := by decide +kernel
attribute [irreducible] mayB ownsB stickyB
end Go.Proofs.Ytlajinihhgfnmaa
