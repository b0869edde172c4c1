/- Chapter 14's table: Open, Close, Get, Seek. -/
import Derived.Test.YtfmhiamgfhdmmaaOps
import Derived.WalkMore
import Derived.Deep.CutRange
import Derived.Deep.DeepCutAuto
namespace Go.Proofs.Ytfmhiamgfhdmmaa
open Go.RowKit

theorem open_arg {b : Nat} {p : Int} (hp : ¬ (0 ≤ p ∧ p < 8)) (m n f : Int) (w : World) : Calls Try.prog 9 #[.pointer (some ⟨b, 0, none⟩), .int .i64 p, .agg #[.int .i64 m, .int .i64 n], .int .i64 f] w fun e w' => e = .returned (.tuple #[.int .i64 0, .int .i64 1]) ∧ Below w.heap.size w w' := by
  have B0 : Below w.heap.size w (w.alloc (.cells #[.int .i64 m, .int .i64 n] 30)) := (Below.refl _ _).alloc (Nat.le_refl _) _
  go_enter Try.func9, Try.ntmps9
  go_wp2_with fail
  go_step3
  go_wp2_with fail
  refine (room_arg hp _).mono ?_
  rintro e w1 ⟨rfl, b1⟩
  go_wp2_with fail
  simp only [Exit.noGoto]
  go_ret2
  exact ⟨rfl, B0.trans (b1.mono B0.size)⟩
theorem open_no {b : Nat} {s : TS} {p : Nat} (hp : p < 8) (m n f : Int) {r : Int} (hr : roomOf s p = r) (h0 : r ≠ 0) {w : World} (h : IsTb w b s) : Calls Try.prog 9 #[.pointer (some ⟨b, 0, none⟩), .int .i64 p, .agg #[.int .i64 m, .int .i64 n], .int .i64 f] w fun e w' => e = .returned (.tuple #[.int .i64 0, .int .i64 r]) ∧ Below w.heap.size w w' := by
  have B0 : Below w.heap.size w (w.alloc (.cells #[.int .i64 m, .int .i64 n] 30)) := (Below.refl _ _).alloc (Nat.le_refl _) _
  have H := Lib.hid (h.below B0)
  have e1 : (r != 0) = true := by simpa using h0
  clear h h0
  go_enter Try.func9, Try.ntmps9
  go_wp2_with fail
  go_step3
  go_wp2_with fail
  refine (room_yes hp H.out).mono ?_
  rintro e w1 ⟨rfl, b1⟩
  rw [hr]
  clear hr
  go_wp2_with fail
  simp only [Exit.noGoto]
  go_ret2
  exact ⟨rfl, B0.trans (b1.mono B0.size)⟩

set_option maxHeartbeats 1000000 in
theorem open_yes {b : Nat} {s : TS} {p : Nat} (hp : p < 8) (m n f : Int) (hr : roomOf s p = 0) {w : World} (h : IsTb w b s) : Calls Try.prog 9 #[.pointer (some ⟨b, 0, none⟩), .int .i64 p, .agg #[.int .i64 m, .int .i64 n], .int .i64 f] w fun e w' =>
    ∃ fd : Nat, fd < 8 ∧ (∀ j, j < fd → (s.T (p * 8 + j)).op = true) ∧ (s.T (p * 8 + fd)).op = false ∧ e = .returned (.tuple #[.int .i64 fd, .int .i64 0]) ∧ IsTb w' b (s.put (p * 8 + fd) ⟨true, m, n, f, 0⟩) ∧ Frm [b] w w' := by
  have B0 : Below w.heap.size w (w.alloc (.cells #[.int .i64 m, .int .i64 n] 30)) := (Below.refl _ _).alloc (Nat.le_refl _) _
  have H := Lib.hid (h.below B0)
  have hlb := h.lt
  have hex : ∃ k, k < 8 ∧ (s.T (p * 8 + k)).op = false := exists_free hp (by
    unfold roomOf at hr
    split at hr
    · omega
    · omega)
  obtain ⟨q, hq, hqo⟩ := hex
  have HQ := Lib.hid hqo
  clear hqo h
  go_enter Try.func9, Try.ntmps9
  go_wp2_with fail
  go_step3
  go_wp2_with fail
  refine (room_yes hp H.out).mono ?_
  rintro e w1 ⟨rfl, b1⟩
  rw [hr]
  clear hr
  have H1 := Lib.hid (H.out.below b1)
  have F1 := Lib.hid ((Frm.of_below B0 : Frm [b] _ _).trans (Frm.of_below b1))
  have v0 : w1.cell? ⟨w.heap.size, 0, none⟩ = some (.int .i64 m) := (b1.cell (p := ⟨w.heap.size, 0, none⟩) (by simp)).trans (by simp)
  have v1 : w1.cell? ⟨w.heap.size, 1, none⟩ = some (.int .i64 n) := (b1.cell (p := ⟨w.heap.size, 1, none⟩) (by simp)).trans (by simp)
  clear b1
  have hp0 : (0 : Int) ≤ (p : Int) := by omega
  have hp1 : (p : Int) < 8 := by omega
  go_wp2_with fail
  go_step3
  go_wp2_with fail
  go_loopw [11] (fun iv wr => ∃ k : Nat, k ≤ q ∧ iv = .int .i64 k ∧ Hid (∀ j, j < k → (s.T (p * 8 + j)).op = true) ∧ wr = w1) (fun iv _ => 8 - (intOf iv).toNat)
  case atStart => exact ⟨0, by omega, rfl, Lib.hid (by intro j hj; omega), rfl⟩
  case round =>
    obtain ⟨k, hk, rfl, HK, rfl⟩ := hrel
    have hk8 : k < 8 := by omega
    have hk0 : (0 : Int) ≤ (k : Int) := by omega
    have hk1 : (k : Int) < 8 := by omega
    have hcs : ∀ j, j < 5 → wr.cell? ⟨b, 1 + p * 40 + k * 5 + j, none⟩ = (s.T (p * 8 + k)).cells[j]? := fun j hj => by
      rw [← H1.out.cs (p * 8 + k) j (by omega) hj, show 1 + (p * 8 + k) * 5 + j = 1 + p * 40 + k * 5 + j from by omega]
    obtain ⟨y, hy⟩ : ∃ y, s.T (p * 8 + k) = y := ⟨_, rfl⟩
    rw [hy] at hcs
    have c0 : wr.cell? ⟨b, 1 + p * 40 + k * 5, none⟩ = some (.bool y.op) := hcs 0 (by omega)
    have c1 : wr.cell? ⟨b, 1 + p * 40 + k * 5 + 1, none⟩ = some (.int .i64 y.m) := hcs 1 (by omega)
    have c2 : wr.cell? ⟨b, 1 + p * 40 + k * 5 + 2, none⟩ = some (.int .i64 y.n) := hcs 2 (by omega)
    have c3 : wr.cell? ⟨b, 1 + p * 40 + k * 5 + 3, none⟩ = some (.int .i64 y.f) := hcs 3 (by omega)
    have c4 : wr.cell? ⟨b, 1 + p * 40 + k * 5 + 4, none⟩ = some (.int .i64 y.p) := hcs 4 (by omega)
    have hfz := H1.out.fz
    have HY := Lib.hid hy
    clear hcs hy
    cases ho : y.op with
    | true =>
      rw [ho] at c0
      have HO := Lib.hid ho
      clear ho
      have hkq : k ≠ q := by
        rintro rfl
        have := HQ.out
        rw [HY.out, HO.out] at this
        cases this
      go_wp2_with fail
      go_roundw
      case rel => exact ⟨k + 1, by omega, by go_num, Lib.hid (fun j hj => by
        by_cases e : j = k
        · subst e; rw [HY.out]; exact HO.out
        · exact HK.out j (by omega)), trivial⟩
      case measure => simp [intOf]; omega
    | false =>
      rw [ho] at c0
      have HO := Lib.hid ho
      clear ho
      go_wp2_with fail
      go_still_tail 11, (by kernel_rfl)
      change wpList _ _ _ _ _ (World.drew _)
      go_wp2_with fail
      simp only [Exit.noGoto]
      go_ret2
      refine ⟨k, hk8, HK.out, by rw [HY.out]; exact HO.out, rfl, ?_, ?_⟩
      · have := H1.out.setCells ⟨true, m, n, f, 0⟩ (k := p * 8 + k) (by omega)
        rw [show 1 + (p * 8 + k) * 5 = 1 + p * 40 + k * 5 from by omega] at this
        refine IsTb.below ?_ (Below.refl _ _).drew
        simpa [Sl.cells, World.setCells, Nat.add_assoc] using this
      · have := F1.out.trans (frm_setCells b (⟨true, m, n, f, 0⟩ : Sl).cells (1 + p * 40 + k * 5) _)
        refine Frm.drew ?_
        simpa [Sl.cells, World.setCells, Nat.add_assoc] using this

theorem Frm.over {l m : List Nat} {a b c : World} (h : Frm l a b) (k : Frm m b c) (hm : ∀ x ∈ m, a.heap.size ≤ x) : Frm l a c :=
  ⟨k.os.trans h.os, k.tape.trans h.tape, k.output.trans h.output, Nat.le_trans h.size k.size, fun i hi hn => (k.block i (Nat.lt_of_lt_of_le hi h.size) (fun hm' => by have := hm i hm'; omega)).trans (h.block i hi hn)⟩
theorem below_set {w w1 : World} (h : Below w.heap.size w w1) (j : Nat) (v : Value) : Below w.heap.size w (w1.setCell ⟨w.heap.size, j, none⟩ v) := h.setCell (p := ⟨w.heap.size, j, none⟩) (Nat.le_refl _) v

/-- What 'find' refuses, Close and Get refuse. -/
theorem close_find {b : Nat} {p fd c : Int} (w : World) (hf : ∀ W, Below w.heap.size w W → Calls Try.prog 24 #[.pointer (some ⟨b, 0, none⟩), .int .i64 p, .int .i64 fd] W fun e w' => e = .returned (.tuple #[.pointer none, .int .i64 c]) ∧ Below W.heap.size W w') (hc : c ≠ 0) :
    Calls Try.prog 8 #[.pointer (some ⟨b, 0, none⟩), .int .i64 p, .int .i64 fd] w fun e w' => e = .returned (.tuple #[.agg #[.int .i64 0, .int .i64 0], .int .i64 c]) ∧ Below w.heap.size w w' := by
  have B0 : Below w.heap.size w (w.alloc (.cells #[.int .i64 0, .int .i64 0] 30)) := (Below.refl _ _).alloc (Nat.le_refl _) _
  have hne : (c != 0) = true := by simpa using hc
  have HF := Lib.hid hf
  clear hf hc
  go_enter Try.func8, Try.ntmps8
  go_wp2_with fail
  refine (HF.out _ B0).mono ?_
  rintro e w1 ⟨rfl, b1⟩
  have v0 : w1.cell? ⟨w.heap.size, 0, none⟩ = some (.int .i64 0) := (b1.cell (p := ⟨w.heap.size, 0, none⟩) (by simp)).trans (by simp)
  have v1 : w1.cell? ⟨w.heap.size, 1, none⟩ = some (.int .i64 0) := (b1.cell (p := ⟨w.heap.size, 1, none⟩) (by simp)).trans (by simp)
  have z0 : ∀ j, w1.frozen? ⟨w.heap.size, j, none⟩ = false := fun j => (b1.frozen (p := ⟨w.heap.size, j, none⟩) (by simp)).trans (by simp)
  have HB := Lib.hid (B0.trans (b1.mono B0.size))
  clear b1
  go_wp2_with fail
  refine bodyPost_ret (by simp [results, Try.results8, go_sem, v0, v1]; try rfl) rfl ?_
  exact ⟨rfl, below_set (below_set HB.out _ _) _ _⟩
theorem get_find {b : Nat} {p fd c : Int} (w : World) (hf : ∀ W, Below w.heap.size w W → Calls Try.prog 24 #[.pointer (some ⟨b, 0, none⟩), .int .i64 p, .int .i64 fd] W fun e w' => e = .returned (.tuple #[.pointer none, .int .i64 c]) ∧ Below W.heap.size W w') (hc : c ≠ 0) :
    Calls Try.prog 12 #[.pointer (some ⟨b, 0, none⟩), .int .i64 p, .int .i64 fd] w fun e w' => e = .returned (.tuple #[Sl.zero.file, .int .i64 c]) ∧ Below w.heap.size w w' := by
  have B0 : Below w.heap.size w (w.alloc (.cells #[.int .i64 0, .int .i64 0, .int .i64 0, .int .i64 0] 41)) := (Below.refl _ _).alloc (Nat.le_refl _) _
  have hne : (c != 0) = true := by simpa using hc
  have HF := Lib.hid hf
  clear hf hc
  go_enter Try.func12, Try.ntmps12
  go_wp2_with fail
  refine (HF.out _ B0).mono ?_
  rintro e w1 ⟨rfl, b1⟩
  have v0 : w1.cell? ⟨w.heap.size, 0, none⟩ = some (.int .i64 0) := (b1.cell (p := ⟨w.heap.size, 0, none⟩) (by simp)).trans (by simp)
  have v1 : w1.cell? ⟨w.heap.size, 1, none⟩ = some (.int .i64 0) := (b1.cell (p := ⟨w.heap.size, 1, none⟩) (by simp)).trans (by simp)
  have v2 : w1.cell? ⟨w.heap.size, 2, none⟩ = some (.int .i64 0) := (b1.cell (p := ⟨w.heap.size, 2, none⟩) (by simp)).trans (by simp)
  have v3 : w1.cell? ⟨w.heap.size, 3, none⟩ = some (.int .i64 0) := (b1.cell (p := ⟨w.heap.size, 3, none⟩) (by simp)).trans (by simp)
  have z0 : ∀ j, w1.frozen? ⟨w.heap.size, j, none⟩ = false := fun j => (b1.frozen (p := ⟨w.heap.size, j, none⟩) (by simp)).trans (by simp)
  have HB := Lib.hid (B0.trans (b1.mono B0.size))
  clear b1
  go_wp2_with fail
  refine bodyPost_ret (by simp [results, Try.results12, go_sem, v0, v1, v2, v3]; try rfl) rfl ?_
  exact ⟨rfl, below_set (below_set (below_set (below_set HB.out _ _) _ _) _ _) _ _⟩
theorem seek_find {b : Nat} {p fd c : Int} (z : Int) (w : World) (hf : ∀ W, Below w.heap.size w W → Calls Try.prog 24 #[.pointer (some ⟨b, 0, none⟩), .int .i64 p, .int .i64 fd] W fun e w' => e = .returned (.tuple #[.pointer none, .int .i64 c]) ∧ Below W.heap.size W w') (hc : c ≠ 0) :
    Calls Try.prog 11 #[.pointer (some ⟨b, 0, none⟩), .int .i64 p, .int .i64 fd, .int .i64 z] w fun e w' => e = .returned (.int .i64 c) ∧ Below w.heap.size w w' := by
  have hne : (c != 0) = true := by simpa using hc
  have HF := Lib.hid hf
  clear hf hc
  go_enter Try.func11, Try.ntmps11
  go_wp2_with fail
  refine (HF.out _ (Below.refl _ _)).mono ?_
  rintro e w1 ⟨rfl, b1⟩
  go_wp2_with fail
  go_ret
  exact ⟨rfl, b1⟩

/-- The cells of an open descriptor. -/
theorem slot_cells {w : World} {b : Nat} {s : TS} (h : IsTb w b s) {p fd : Nat} (hp : p < 8) (hf : fd < 8) {y : Sl} (hy : s.T (p * 8 + fd) = y) :
    w.cell? ⟨b, 1 + p * 40 + fd * 5, none⟩ = some (.bool y.op) ∧ w.cell? ⟨b, 1 + p * 40 + fd * 5 + 1, none⟩ = some (.int .i64 y.m) ∧ w.cell? ⟨b, 1 + p * 40 + fd * 5 + 2, none⟩ = some (.int .i64 y.n) ∧ w.cell? ⟨b, 1 + p * 40 + fd * 5 + 3, none⟩ = some (.int .i64 y.f) ∧ w.cell? ⟨b, 1 + p * 40 + fd * 5 + 4, none⟩ = some (.int .i64 y.p) := by
  have hcs : ∀ j, j < 5 → w.cell? ⟨b, 1 + p * 40 + fd * 5 + j, none⟩ = y.cells[j]? := fun j hj => by
    rw [← hy, ← h.cs (p * 8 + fd) j (by omega) hj, show 1 + (p * 8 + fd) * 5 + j = 1 + p * 40 + fd * 5 + j from by omega]
  exact ⟨hcs 0 (by omega), hcs 1 (by omega), hcs 2 (by omega), hcs 3 (by omega), hcs 4 (by omega)⟩

set_option maxHeartbeats 1000000 in
theorem close_yes {b : Nat} {s : TS} {p fd : Nat} (hp : p < 8) (hf : fd < 8) {y : Sl} (hy : s.T (p * 8 + fd) = y) (ho : y.op = true) {w : World} (h : IsTb w b s) :
    Calls Try.prog 8 #[.pointer (some ⟨b, 0, none⟩), .int .i64 p, .int .i64 fd] w fun e w' => e = .returned (.tuple #[.agg #[.int .i64 y.m, .int .i64 y.n], .int .i64 0]) ∧ IsTb w' b (s.put (p * 8 + fd) Sl.zero) ∧ Frm [b] w w' := by
  have B0 : Below w.heap.size w (w.alloc (.cells #[.int .i64 0, .int .i64 0] 30)) := (Below.refl _ _).alloc (Nat.le_refl _) _
  have H := Lib.hid (h.below B0)
  have hlb := h.lt
  have HO : Hid ((s.T (p * 8 + fd)).op = true) := Lib.hid (by rw [hy]; exact ho)
  clear h
  have HY := Lib.hid hy
  have HO2 := Lib.hid ho
  clear hy ho
  go_enter Try.func8, Try.ntmps8
  go_wp2_with fail
  refine (find_nat hp hf _ H.out).mono ?_
  rintro e w1 ⟨rfl, b1⟩
  rw [if_pos HO.out]
  have H1 := Lib.hid (H.out.below b1)
  have hs1 : w.heap.size < w1.heap.size := by have := b1.size; simp at this; omega
  obtain ⟨c0, c1, c2, c3, c4⟩ := slot_cells H1.out hp hf HY.out
  have hfz := H1.out.fz
  have v0 : w1.cell? ⟨w.heap.size, 0, none⟩ = some (.int .i64 0) := (b1.cell (p := ⟨w.heap.size, 0, none⟩) (by simp)).trans (by simp)
  have v1 : w1.cell? ⟨w.heap.size, 1, none⟩ = some (.int .i64 0) := (b1.cell (p := ⟨w.heap.size, 1, none⟩) (by simp)).trans (by simp)
  have z0 : ∀ j, w1.frozen? ⟨w.heap.size, j, none⟩ = false := fun j => (b1.frozen (p := ⟨w.heap.size, j, none⟩) (by simp)).trans (by simp)
  have HB := Lib.hid (B0.trans (b1.mono B0.size))
  have n1 : ¬ b = w1.heap.size := by omega
  have n2 : ¬ w.heap.size = w1.heap.size := by omega
  have n3 : ¬ w.heap.size = b := by omega
  have n4 : ¬ b = w.heap.size := by omega
  have n5 : b < w1.heap.size := by omega
  clear b1
  go_upto_region 6 with fail
  have H5 := H1.out.setCells Sl.zero (k := p * 8 + fd) (by omega)
  have F5 := frm_setCells b Sl.zero.cells (1 + p * 40 + fd * 5) w1
  have hs5 : ∀ vs o, (w1.setCells b o vs).heap.size = w1.heap.size := fun vs o => size_setCells b vs o w1
  have S5 := hs5 Sl.zero.cells (1 + p * 40 + fd * 5)
  rw [show 1 + (p * 8 + fd) * 5 = 1 + p * 40 + fd * 5 from by omega] at H5
  simp only [Sl.cells, Sl.zero, World.setCells, Nat.add_assoc, Nat.reduceAdd] at H5 F5 S5
  simp only [Nat.add_assoc]
  generalize (((((w1.setCell ⟨b, 1 + (p * 40 + fd * 5), none⟩ (.bool false)).setCell ⟨b, 1 + (p * 40 + (fd * 5 + 1)), none⟩ (.int .i64 0)).setCell ⟨b, 1 + (p * 40 + (fd * 5 + 2)), none⟩ (.int .i64 0)).setCell ⟨b, 1 + (p * 40 + (fd * 5 + 3)), none⟩ (.int .i64 0)).setCell ⟨b, 1 + (p * 40 + (fd * 5 + 4)), none⟩ (.int .i64 0)) = w5 at *
  clear hs5
  have c10 : (w5.alloc (.cells #[.int .i64 y.m, .int .i64 y.n] 30)).cell? ⟨w1.heap.size, 0, none⟩ = some (.int .i64 y.m) := by rw [← S5]; simp
  have c11 : (w5.alloc (.cells #[.int .i64 y.m, .int .i64 y.n] 30)).cell? ⟨w1.heap.size, 1, none⟩ = some (.int .i64 y.n) := by rw [← S5]; simp
  have B6 : Below w5.heap.size w5 (w5.alloc (.cells #[.int .i64 y.m, .int .i64 y.n] 30)) := (Below.refl _ _).alloc (Nat.le_refl _) _
  have F6 := F5.trans (Frm.of_below B6)
  have u0 := (World.cell?_of_block (w := w1) (a := ⟨w.heap.size, 0, none⟩) (F6.block _ hs1 (by simpa using n3))).trans v0
  have u1 := (World.cell?_of_block (w := w1) (a := ⟨w.heap.size, 1, none⟩) (F6.block _ hs1 (by simpa using n3))).trans v1
  have uz : ∀ j, (w5.alloc (.cells #[.int .i64 y.m, .int .i64 y.n] 30)).frozen? ⟨w.heap.size, j, none⟩ = false := fun j => (World.frozen?_of_block (w := w1) (a := ⟨w.heap.size, j, none⟩) (F6.block _ hs1 (by simpa using n3))).trans (z0 j)
  have H6 := Lib.hid (H5.below B6)
  have FF : Hid (Frm [b] w (w5.alloc (.cells #[.int .i64 y.m, .int .i64 y.n] 30))) := Lib.hid ((Frm.of_below HB.out).trans F6)
  clear c0 c1 c2 c3 c4 hfz v0 v1 z0 H5 F5 F6 B6 S5
  generalize w5.alloc (.cells #[.int .i64 y.m, .int .i64 y.n] 30) = w6 at *
  go_wp2_with fail
  refine bodyPost_ret (by simp [results, Try.results8, go_sem, u0, u1]; try rfl) rfl ?_
  have F7 : Frm [w.heap.size] w6 ((w6.setCell ⟨w.heap.size, 0, none⟩ (.int .i64 y.m)).setCell ⟨w.heap.size, 1, none⟩ (.int .i64 y.n)) := ((Frm.refl _ _).setCell (by simp) _).setCell (by simp) _
  refine ⟨rfl, H6.out.frm F7 (by simpa using n4), FF.out.over F7 (by simp)⟩
end Go.Proofs.Ytfmhiamgfhdmmaa
