/- Chapter 14's table of descriptors: what it holds; New. -/
import Derived.Test.YtfmhiamgfhdmmaaProg
import Derived.Test.YtfmhiamgfhdmmaaKit
import Derived.WalkKit
import Derived.WalkSpells
import Derived.Outline
import Derived.Handy
import Derived.Lib.Hide
import Derived.Deep.OwnRows
import Derived.Deep.LoopGhost
import Derived.Deep.MidRow
namespace Go.Proofs.Ytfmhiamgfhdmmaa
open Go.RowKit

/-- A descriptor. -/
structure Sl where
  op : Bool
  m : Int
  n : Int
  f : Int
  p : Int
def Sl.cells (s : Sl) : List Value := [.bool s.op, .int .i64 s.m, .int .i64 s.n, .int .i64 s.f, .int .i64 s.p]
def Sl.zero : Sl := ⟨false, 0, 0, 0, 0⟩
theorem Sl.cells_length (s : Sl) : s.cells.length = 5 := rfl

/-- A table: how many files it may hold; its 64 descriptors. -/
structure TS where
  most : Int
  T : Nat → Sl

structure IsTb (w : World) (b : Nat) (s : TS) : Prop where
  c0 : w.cell? ⟨b, 0, none⟩ = some (.int .i64 s.most)
  cs : ∀ k j, k < 64 → j < 5 → w.cell? ⟨b, 1 + k * 5 + j, none⟩ = (s.T k).cells[j]?
  fz : ∀ j, w.frozen? ⟨b, j, none⟩ = false
  lt : b < w.heap.size

theorem IsTb.frm {w w' : World} {b : Nat} {s : TS} {l : List Nat} (h : IsTb w b s) (hf : Frm l w w') (hn : b ∉ l) : IsTb w' b s :=
  ⟨(World.cell?_of_block (w := w) (a := ⟨b, 0, none⟩) (hf.block b h.lt hn)).trans h.c0, fun k j hk hj => (World.cell?_of_block (w := w) (a := ⟨b, 1 + k * 5 + j, none⟩) (hf.block b h.lt hn)).trans (h.cs k j hk hj),
    fun j => (World.frozen?_of_block (w := w) (a := ⟨b, j, none⟩) (hf.block b h.lt hn)).trans (h.fz j), Nat.lt_of_lt_of_le h.lt hf.size⟩
theorem IsTb.below {w w' : World} {b : Nat} {s : TS} (h : IsTb w b s) (hb : Below w.heap.size w w') : IsTb w' b s := h.frm (l := []) (Frm.of_below hb) (by simp)

theorem IsTb.keep {w w' : World} {b n : Nat} {s : TS} (h : IsTb w b s) (hf : Below n w w') (hn : b < n) : IsTb w' b s :=
  ⟨(hf.cell (p := ⟨b, 0, none⟩) hn).trans h.c0, fun k j hk hj => (hf.cell (p := ⟨b, 1 + k * 5 + j, none⟩) hn).trans (h.cs k j hk hj), fun j => (hf.frozen (p := ⟨b, j, none⟩) hn).trans (h.fz j), Nat.lt_of_lt_of_le h.lt hf.size⟩
theorem new_no (n : Int) (w : World) (h : n < 1 ∨ 64 < n) :
    Calls Try.prog 7 #[.int .i64 n] w fun e w' => e = .returned (.tuple #[.pointer none, .int .i64 1]) ∧ w = w' := by
  rcases h with h | h
  · have hd : decide (n < 1) = true := by simpa using h
    go_enter Try.func7, Try.ntmps7
    go_wp2
    go_ret2
    exact ⟨rfl, rfl⟩
  · have hd : decide (n < 1) = false := by simp; omega
    have hd2 : decide (n > 64) = true := by simp; omega
    go_enter Try.func7, Try.ntmps7
    go_wp2
    go_ret2
    exact ⟨rfl, rfl⟩

/-- The cells of a table. -/
def tcells (most : Int) (T : Nat → Sl) : List Value := .int .i64 most :: (List.range 64).flatMap fun k => (T k).cells
theorem info66 : (Try.prog.info? 66).map (fun i => (i.zero, i.size, i.bytes)) = some (some (.agg (tcells 0 fun _ => Sl.zero).toArray), 321, 2568) := by kernel_rfl
theorem zero66 (w : World) : (zeroValue 66).run Try.prog w = .ok (.agg (tcells 0 fun _ => Sl.zero).toArray) w := by
  obtain ⟨i, hi, hz, _, _⟩ := info_parts info66
  simp [zeroValue, typeInfo, hi, hz]
theorem flat5 (T : Nat → Sl) : ∀ (n k j : Nat), k < n → j < 5 → ((List.range n).flatMap fun k => (T k).cells)[k * 5 + j]? = (T k).cells[j]?
  | 0, k, j, h, _ => by omega
  | n + 1, k, j, h, hj => by
    have hl : ((List.range n).flatMap fun k => (T k).cells).length = n * 5 := by
      clear h hj
      induction n with
      | zero => rfl
      | succ n ih => rw [List.range_succ, List.flatMap_append, List.length_append, ih]; simp [Sl.cells_length]; omega
    rw [List.range_succ, List.flatMap_append]
    by_cases e : k < n
    · rw [List.getElem?_append_left (by rw [hl]; omega)]
      exact flat5 T n k j e hj
    · obtain rfl : k = n := by omega
      rw [List.getElem?_append_right (by rw [hl]; omega), hl]
      simp only [List.flatMap_cons, List.flatMap_nil, List.append_nil]
      rw [show k * 5 + j - k * 5 = j from by omega]

theorem tb_new (w : World) (n : Int) (T : Nat → Sl) (t : TypeId) : IsTb (w.alloc (.cells (tcells n T).toArray t)) w.heap.size ⟨n, T⟩ := by
  refine ⟨by rw [World.cell?_alloc_new]; rfl, fun k j hk hj => ?_, fun j => World.frozen?_alloc_new _ _ _ _, by simp⟩
  rw [World.cell?_alloc_new, show 1 + k * 5 + j = (k * 5 + j) + 1 from by omega]
  simp only [tcells, List.getElem?_toArray, List.getElem?_cons_succ]
  exact flat5 T 64 k j hk hj
theorem new_yes (n : Int) (w : World) (h1 : 1 ≤ n) (h2 : n ≤ 64) :
    Calls Try.prog 7 #[.int .i64 n] w fun e w' => e = .returned (.tuple #[.pointer (some ⟨w.heap.size, 0, none⟩), .int .i64 0]) ∧ IsTb w' w.heap.size ⟨n, fun _ => Sl.zero⟩ ∧ Below w.heap.size w w' := by
  have hd : decide (n < 1) = false := by simp; omega
  have hd2 : decide (n > 64) = false := by simp; omega
  have hz := zero66
  go_enter Try.func7, Try.ntmps7
  go_wp2
  go_ret2
  exact ⟨rfl, tb_new w n _ 66, (Below.refl _ _).alloc (Nat.le_refl _) _⟩

theorem proc_any (n : Int) (w : World) : Calls Try.prog 27 #[.int .i64 n] w fun e w' => e = .returned (.bool (decide (0 ≤ n ∧ n < 8))) ∧ w = w' := by
  by_cases h1 : 0 ≤ n
  · have d1 : decide (n ≥ 0) = true := by simpa using h1
    by_cases h2 : n < 8
    · have d2 : decide (n < 8) = true := by simpa using h2
      go_enter Try.func27, Try.ntmps27
      go_wp2
      go_ret
      exact ⟨by simp [h1, h2], rfl⟩
    · have d2 : decide (n < 8) = false := by simpa using h2
      go_enter Try.func27, Try.ntmps27
      go_wp2
      go_ret
      exact ⟨by simp, rfl⟩
  · have d1 : decide (n ≥ 0) = false := by simpa using h1
    go_enter Try.func27, Try.ntmps27
    go_wp2
    go_ret
    exact ⟨by simp, rfl⟩

/-- A row: one process's eight descriptors. -/
def row (T : Nat → Sl) (p : Nat) : List Value := (List.range 8).flatMap fun k => (T (p * 8 + k)).cells
theorem row_length (T : Nat → Sl) (p : Nat) : (row T p).length = 40 := rfl
theorem row_get (T : Nat → Sl) (p k j : Nat) (hk : k < 8) (hj : j < 5) : (row T p)[k * 5 + j]? = (T (p * 8 + k)).cells[j]? := flat5 (fun k => T (p * 8 + k)) 8 k j hk hj
theorem IsTb.range {w : World} {b : Nat} {s : TS} (h : IsTb w b s) {p : Nat} (hp : p < 8) : w.rangeAt b (1 + p * 40) (row s.T p) := by
  intro j v hv
  have hj : j < 40 := by have := (List.getElem?_eq_some_iff.1 hv).1; rwa [row_length] at this
  have e : j = (j / 5) * 5 + j % 5 := by omega
  rw [e, row_get _ _ _ _ (by omega) (by omega)] at hv
  rw [← hv, ← h.cs (p * 8 + j / 5) (j % 5) (by omega) (by omega)]
  congr 2
  omega
theorem info63 : (Try.prog.info? 63).map (·.size) = some 40 := by kernel_rfl
theorem IsTb.load {w : World} {b : Nat} {s : TS} (h : IsTb w b s) {p : Nat} (hp : p < 8) : (Instr.loadAt 63 (.pointer (some ⟨b, 1 + p * 40, none⟩))).run Try.prog w = .ok (.agg (row s.T p).toArray) w :=
  run_loadAt_mid w b _ 63 _ _ (h.range hp) Try.underlying63 rfl (by rw [row_length]; exact info63)
end Go.Proofs.Ytfmhiamgfhdmmaa
