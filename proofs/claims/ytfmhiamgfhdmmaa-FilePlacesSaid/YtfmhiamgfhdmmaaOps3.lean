/- Chapter 14's table: Get, Seek; each call's answers. -/
import Derived.Test.YtfmhiamgfhdmmaaOps2
namespace Go.Proofs.Ytfmhiamgfhdmmaa
open Go.RowKit

set_option maxHeartbeats 1000000 in
theorem get_yes {b : Nat} {s : TS} {p fd : Nat} (hp : p < 8) (hf : fd < 8) {y : Sl} (hy : s.T (p * 8 + fd) = y) (ho : y.op = true) {w : World} (h : IsTb w b s) :
    Calls Try.prog 12 #[.pointer (some ⟨b, 0, none⟩), .int .i64 p, .int .i64 fd] w fun e w' => e = .returned (.tuple #[y.file, .int .i64 0]) ∧ Below w.heap.size w w' := by
  have B0 : Below w.heap.size w (w.alloc (.cells #[.int .i64 0, .int .i64 0, .int .i64 0, .int .i64 0] 41)) := (Below.refl _ _).alloc (Nat.le_refl _) _
  have H := Lib.hid (h.below B0)
  have hlb := h.lt
  have HO : Hid ((s.T (p * 8 + fd)).op = true) := Lib.hid (by rw [hy]; exact ho)
  clear h
  have HY := Lib.hid hy
  clear hy ho
  go_enter Try.func12, Try.ntmps12
  go_wp2_with fail
  refine (find_nat hp hf _ H.out).mono ?_
  rintro e w1 ⟨rfl, b1⟩
  rw [if_pos HO.out]
  have H1 := Lib.hid (H.out.below b1)
  have hs1 : w.heap.size < w1.heap.size := by have := b1.size; simp at this; omega
  obtain ⟨c0, c1, c2, c3, c4⟩ := slot_cells H1.out hp hf HY.out
  have v0 : w1.cell? ⟨w.heap.size, 0, none⟩ = some (.int .i64 0) := (b1.cell (p := ⟨w.heap.size, 0, none⟩) (by simp)).trans (by simp)
  have v1 : w1.cell? ⟨w.heap.size, 1, none⟩ = some (.int .i64 0) := (b1.cell (p := ⟨w.heap.size, 1, none⟩) (by simp)).trans (by simp)
  have v2 : w1.cell? ⟨w.heap.size, 2, none⟩ = some (.int .i64 0) := (b1.cell (p := ⟨w.heap.size, 2, none⟩) (by simp)).trans (by simp)
  have v3 : w1.cell? ⟨w.heap.size, 3, none⟩ = some (.int .i64 0) := (b1.cell (p := ⟨w.heap.size, 3, none⟩) (by simp)).trans (by simp)
  have z0 : ∀ j, w1.frozen? ⟨w.heap.size, j, none⟩ = false := fun j => (b1.frozen (p := ⟨w.heap.size, j, none⟩) (by simp)).trans (by simp)
  have HB := Lib.hid (B0.trans (b1.mono B0.size))
  clear b1
  go_wp2_with fail
  refine bodyPost_ret (by simp [results, Try.results12, go_sem, v0, v1, v2, v3]; try rfl) rfl ?_
  exact ⟨rfl, below_set (below_set (below_set (below_set HB.out _ _) _ _) _ _) _ _⟩

theorem put_pos {w : World} {b k : Nat} {s : TS} (h : IsTb w b s) (hk : k < 64) (z : Int) : IsTb (w.setCell ⟨b, 1 + k * 5 + 4, none⟩ (.int .i64 z)) b (s.put k { s.T k with p := z }) := by
  refine h.put (fun j hj => ?_) (fun o ho => World.cell?_setCell_other _ _ _ _ (by intro hh; injection hh; omega)) (fun j => by rw [World.frozen?_setCell]) (by simp)
  by_cases e : j = 4
  · subst e
    rw [World.cell?_setCell_same (u := .int .i64 (s.T k).p) _ _ _ (by rw [h.cs k 4 hk (by omega)]; rfl)]
    rfl
  · rw [World.cell?_setCell_other _ _ _ _ (by intro hh; injection hh; omega), h.cs k j hk hj]
    match j, hj, e with
    | 0, _, _ => rfl
    | 1, _, _ => rfl
    | 2, _, _ => rfl
    | 3, _, _ => rfl
    | q + 4, h1, h2 => omega
theorem seek_yes {b : Nat} {s : TS} {p fd : Nat} (hp : p < 8) (hf : fd < 8) {y : Sl} (hy : s.T (p * 8 + fd) = y) (ho : y.op = true) {z : Int} (hz : 0 ≤ z) {w : World} (h : IsTb w b s) :
    Calls Try.prog 11 #[.pointer (some ⟨b, 0, none⟩), .int .i64 p, .int .i64 fd, .int .i64 z] w fun e w' => e = .returned (.int .i64 0) ∧ IsTb w' b (s.put (p * 8 + fd) { y with p := z }) ∧ Frm [b] w w' := by
  have H := Lib.hid h
  have HO : Hid ((s.T (p * 8 + fd)).op = true) := Lib.hid (by rw [hy]; exact ho)
  have d1 : decide (z < 0) = false := by simpa using hz
  clear h
  have HY := Lib.hid hy
  clear hy ho hz
  go_enter Try.func11, Try.ntmps11
  go_wp2_with fail
  refine (find_nat hp hf _ H.out).mono ?_
  rintro e w1 ⟨rfl, b1⟩
  rw [if_pos HO.out]
  have H1 := Lib.hid (H.out.below b1)
  obtain ⟨c0, c1, c2, c3, c4⟩ := slot_cells H1.out hp hf HY.out
  have hfz := H1.out.fz
  have HB := Lib.hid b1
  clear b1
  go_wp2_with fail
  go_ret
  have I := put_pos H1.out (k := p * 8 + fd) (by omega) z
  rw [show 1 + (p * 8 + fd) * 5 + 4 = 1 + p * 40 + fd * 5 + 4 from by omega, HY.out] at I
  have F : Frm [b] w1 (w1.setCell ⟨b, 1 + p * 40 + fd * 5 + 4, none⟩ (.int .i64 z)) := (Frm.refl _ _).setCell (by simp) _
  exact ⟨rfl, by simpa [Nat.add_assoc] using I, by simpa [Nat.add_assoc] using (Frm.of_below HB.out).trans F⟩
theorem seek_neg {b : Nat} {s : TS} {p fd : Nat} (hp : p < 8) (hf : fd < 8) (ho : (s.T (p * 8 + fd)).op = true) {z : Int} (hz : z < 0) {w : World} (h : IsTb w b s) :
    Calls Try.prog 11 #[.pointer (some ⟨b, 0, none⟩), .int .i64 p, .int .i64 fd, .int .i64 z] w fun e w' => e = .returned (.int .i64 39) ∧ Below w.heap.size w w' := by
  have H := Lib.hid h
  have HO := Lib.hid ho
  have d1 : decide (z < 0) = true := by simpa using hz
  clear h ho hz
  go_enter Try.func11, Try.ntmps11
  go_wp2_with fail
  refine (find_nat hp hf _ H.out).mono ?_
  rintro e w1 ⟨rfl, b1⟩
  rw [if_pos HO.out]
  go_wp2_with fail
  go_ret
  exact ⟨rfl, b1⟩

/-- What 'find' refuses: the number. -/
def why (s : TS) (p fd : Int) : Int := if ¬ (0 ≤ p ∧ p < 8) then 1 else if 0 ≤ fd ∧ fd < 8 ∧ (s.T (p.toNat * 8 + fd.toNat)).op = true then 0 else 33
theorem why_find {b : Nat} {s : TS} {p fd : Int} {w : World} (h : IsTb w b s) (hn : why s p fd ≠ 0) :
    ∀ W, Below w.heap.size w W → Calls Try.prog 24 #[.pointer (some ⟨b, 0, none⟩), .int .i64 p, .int .i64 fd] W fun e w' => e = .returned (.tuple #[.pointer none, .int .i64 (why s p fd)]) ∧ Below W.heap.size W w' := by
  intro W hW
  by_cases hp : 0 ≤ p ∧ p < 8
  · by_cases hf : 0 ≤ fd ∧ fd < 8
    · obtain ⟨P, rfl⟩ : ∃ P : Nat, p = P := ⟨p.toNat, by omega⟩
      obtain ⟨D, rfl⟩ : ∃ D : Nat, fd = D := ⟨fd.toNat, by omega⟩
      have ho : ¬ (s.T (P * 8 + D)).op = true := fun ho => hn (by simp [why, hp, hf, ho])
      have e : why s P D = 33 := by simp [why, hp, hf, ho]
      rw [e]
      have := find_nat (by omega : P < 8) (by omega : D < 8) W (h.below hW)
      rw [if_neg ho] at this
      exact this
    · have e : why s p fd = 33 := by
        unfold why
        rw [if_neg (by simpa using hp), if_neg (fun hh => hf ⟨hh.1, hh.2.1⟩)]
      rw [e]
      exact find_bad hp hf W
  · have e : why s p fd = 1 := by unfold why; rw [if_pos hp]
    rw [e]
    exact find_arg hp W
theorem why_yes {s : TS} {p fd : Int} (h : why s p fd = 0) : ∃ P D : Nat, P < 8 ∧ D < 8 ∧ p = P ∧ fd = D ∧ (s.T (P * 8 + D)).op = true := by
  unfold why at h
  split at h
  · omega
  · rename_i hp
    split at h
    · rename_i hf
      exact ⟨p.toNat, fd.toNat, by omega, by omega, by omega, by omega, hf.2.2⟩
    · omega

/-- The lowest descriptor that a process has not. -/
def first (T : Nat → Sl) (p : Nat) : Nat := ((List.range 8).find? fun k => !(T (p * 8 + k)).op).getD 0
theorem first_is {T : Nat → Sl} {p fd : Nat} (hf : fd < 8) (h1 : ∀ j, j < fd → (T (p * 8 + j)).op = true) (h2 : (T (p * 8 + fd)).op = false) : first T p = fd := by
  have : (List.range 8).find? (fun k => !(T (p * 8 + k)).op) = some fd := by
    rw [List.find?_range_eq_some]
    exact ⟨by simp [h2], by simpa using hf, fun j hj => by simp [h1 j hj]⟩
  unfold first
  rw [this]
  rfl

def opOpen (s : TS) (p m n f : Int) : (Int × Int) × TS :=
  if ¬ (0 ≤ p ∧ p < 8) then ((0, 1), s) else if roomOf s p.toNat = 0 then (((first s.T p.toNat : Nat), 0), s.put (p.toNat * 8 + first s.T p.toNat) ⟨true, m, n, f, 0⟩) else ((0, roomOf s p.toNat), s)
def opClose (s : TS) (p fd : Int) : (Int × Int × Int) × TS :=
  if why s p fd = 0 then (((s.T (p.toNat * 8 + fd.toNat)).m, (s.T (p.toNat * 8 + fd.toNat)).n, 0), s.put (p.toNat * 8 + fd.toNat) Sl.zero) else ((0, 0, why s p fd), s)
def opGet (s : TS) (p fd : Int) : Sl × Int := if why s p fd = 0 then (s.T (p.toNat * 8 + fd.toNat), 0) else (Sl.zero, why s p fd)
def opSeek (s : TS) (p fd z : Int) : Int × TS :=
  if why s p fd = 0 then if z < 0 then (39, s) else (0, s.put (p.toNat * 8 + fd.toNat) { s.T (p.toNat * 8 + fd.toNat) with p := z }) else (why s p fd, s)
def opRoom (s : TS) (p : Int) : Int := if ¬ (0 ≤ p ∧ p < 8) then 1 else roomOf s p.toNat

variable {b : Nat} {s : TS} {w : World}
theorem tb_open (h : IsTb w b s) (p m n f : Int) : Calls Try.prog 9 #[.pointer (some ⟨b, 0, none⟩), .int .i64 p, .agg #[.int .i64 m, .int .i64 n], .int .i64 f] w fun e w' =>
    e = .returned (.tuple #[.int .i64 (opOpen s p m n f).1.1, .int .i64 (opOpen s p m n f).1.2]) ∧ IsTb w' b (opOpen s p m n f).2 ∧ Frm [b] w w' := by
  unfold opOpen
  by_cases hp : 0 ≤ p ∧ p < 8
  · rw [if_neg (by simpa using hp)]
    obtain ⟨P, rfl⟩ : ∃ P : Nat, p = P := ⟨p.toNat, by omega⟩
    rw [Int.toNat_natCast]
    by_cases hr : roomOf s P = 0
    · rw [if_pos hr]
      refine (open_yes (by omega) m n f hr h).mono ?_
      rintro e w' ⟨fd, hfd, h1, h2, rfl, hI, hF⟩
      rw [first_is hfd h1 h2]
      exact ⟨rfl, hI, hF⟩
    · rw [if_neg hr]
      exact (open_no (by omega) m n f rfl hr h).mono fun _ _ ⟨e, B⟩ => ⟨e, h.below B, Frm.of_below B⟩
  · rw [if_pos hp]
    exact (open_arg hp m n f w).mono fun _ _ ⟨e, B⟩ => ⟨e, h.below B, Frm.of_below B⟩
theorem tb_close (h : IsTb w b s) (p fd : Int) : Calls Try.prog 8 #[.pointer (some ⟨b, 0, none⟩), .int .i64 p, .int .i64 fd] w fun e w' =>
    e = .returned (.tuple #[.agg #[.int .i64 (opClose s p fd).1.1, .int .i64 (opClose s p fd).1.2.1], .int .i64 (opClose s p fd).1.2.2]) ∧ IsTb w' b (opClose s p fd).2 ∧ Frm [b] w w' := by
  unfold opClose
  by_cases hw : why s p fd = 0
  · rw [if_pos hw]
    obtain ⟨P, D, hP, hD, rfl, rfl, ho⟩ := why_yes hw
    rw [Int.toNat_natCast, Int.toNat_natCast]
    exact close_yes hP hD rfl ho h
  · rw [if_neg hw]
    exact (close_find w (why_find h hw) hw).mono fun _ _ ⟨e, B⟩ => ⟨e, h.below B, Frm.of_below B⟩
theorem tb_get (h : IsTb w b s) (p fd : Int) : Calls Try.prog 12 #[.pointer (some ⟨b, 0, none⟩), .int .i64 p, .int .i64 fd] w fun e w' => e = .returned (.tuple #[(opGet s p fd).1.file, .int .i64 (opGet s p fd).2]) ∧ Below w.heap.size w w' := by
  unfold opGet
  by_cases hw : why s p fd = 0
  · rw [if_pos hw]
    obtain ⟨P, D, hP, hD, rfl, rfl, ho⟩ := why_yes hw
    rw [Int.toNat_natCast, Int.toNat_natCast]
    exact get_yes hP hD rfl ho h
  · rw [if_neg hw]
    exact get_find w (why_find h hw) hw
theorem tb_seek (h : IsTb w b s) (p fd z : Int) : Calls Try.prog 11 #[.pointer (some ⟨b, 0, none⟩), .int .i64 p, .int .i64 fd, .int .i64 z] w fun e w' => e = .returned (.int .i64 (opSeek s p fd z).1) ∧ IsTb w' b (opSeek s p fd z).2 ∧ Frm [b] w w' := by
  unfold opSeek
  by_cases hw : why s p fd = 0
  · rw [if_pos hw]
    obtain ⟨P, D, hP, hD, rfl, rfl, ho⟩ := why_yes hw
    rw [Int.toNat_natCast, Int.toNat_natCast]
    by_cases hz : z < 0
    · rw [if_pos hz]
      exact (seek_neg hP hD ho hz h).mono fun _ _ ⟨e, B⟩ => ⟨e, h.below B, Frm.of_below B⟩
    · rw [if_neg hz]
      exact seek_yes hP hD rfl ho (by omega) h
  · rw [if_neg hw]
    exact (seek_find z w (why_find h hw) hw).mono fun _ _ ⟨e, B⟩ => ⟨e, h.below B, Frm.of_below B⟩
theorem tb_room (h : IsTb w b s) (p : Int) : Calls Try.prog 20 #[.pointer (some ⟨b, 0, none⟩), .int .i64 p] w fun e w' => e = .returned (.int .i64 (opRoom s p)) ∧ Below w.heap.size w w' := by
  unfold opRoom
  by_cases hp : 0 ≤ p ∧ p < 8
  · rw [if_neg (by simpa using hp)]
    obtain ⟨P, rfl⟩ : ∃ P : Nat, p = P := ⟨p.toNat, by omega⟩
    rw [Int.toNat_natCast]
    exact room_yes (by omega) h
  · rw [if_pos hp]
    exact room_arg hp w
end Go.Proofs.Ytfmhiamgfhdmmaa
