/- Chapter 14's table: its calls. -/
import Derived.Test.YtfmhiamgfhdmmaaRoom2
import Derived.Deep.RegionLaw
import Derived.Deep.DeepMust
import Derived.StillTailTactics
namespace Go.Proofs.Ytfmhiamgfhdmmaa
open Go.RowKit

/-- One descriptor is another. -/
def TS.put (s : TS) (k : Nat) (x : Sl) : TS := ⟨s.most, fun j => if j = k then x else s.T j⟩

theorem IsTb.put {w w' : World} {b k : Nat} {s : TS} {x : Sl} (h : IsTb w b s) (hin : ∀ j, j < 5 → w'.cell? ⟨b, 1 + k * 5 + j, none⟩ = x.cells[j]?)
    (hout : ∀ o, (o < 1 + k * 5 ∨ 1 + k * 5 + 5 ≤ o) → w'.cell? ⟨b, o, none⟩ = w.cell? ⟨b, o, none⟩) (hfz : ∀ j, w'.frozen? ⟨b, j, none⟩ = w.frozen? ⟨b, j, none⟩) (hlt : w.heap.size ≤ w'.heap.size) : IsTb w' b (s.put k x) := by
  refine ⟨(hout 0 (by omega)).trans h.c0, fun i j hi hj => ?_, fun j => (hfz j).trans (h.fz j), Nat.lt_of_lt_of_le h.lt hlt⟩
  by_cases e : i = k
  · subst e
    simp only [TS.put, if_true]
    exact hin j hj
  · simp only [TS.put, if_neg e]
    exact (hout _ (by omega)).trans (h.cs i j hi hj)
theorem size_setCells (b : Nat) : ∀ (vs : List Value) (o : Nat) (w : World), (w.setCells b o vs).heap.size = w.heap.size
  | [], _, _ => rfl
  | v :: r, o, w => by rw [World.setCells, size_setCells b r]; simp
theorem frm_setCells (b : Nat) : ∀ (vs : List Value) (o : Nat) (w : World), Frm [b] w (w.setCells b o vs)
  | [], _, w => Frm.refl _ w
  | v :: r, o, w => by rw [World.setCells]; exact ((Frm.refl [b] w).setCell (by simp) v).trans (frm_setCells b r _ _)
theorem IsTb.setCells {w : World} {b k : Nat} {s : TS} (x : Sl) (h : IsTb w b s) (hk : k < 64) : IsTb (w.setCells b (1 + k * 5) x.cells) b (s.put k x) := by
  refine h.put (fun j hj => ?_) (fun o ho => ?_) (fun j => by rw [World.frozen?_setCells]) (by rw [size_setCells]; exact Nat.le_refl _)
  · rw [World.cell?_setCells_in b x.cells (1 + k * 5) w (fun i hi => by rw [h.cs k i hk (by simpa [Sl.cells_length] using hi), List.getElem?_eq_getElem (by simpa [Sl.cells_length] using hi)]; rfl) j (by simpa [Sl.cells_length] using hj)]
    rw [List.getElem?_eq_getElem]
  · exact World.cell?_setCells_out b x.cells (1 + k * 5) w ⟨b, o, none⟩ (fun _ _ => by rw [Sl.cells_length]; omega)

theorem room_yes {b : Nat} {s : TS} {p : Nat} (hp : p < 8) {w : World} (h : IsTb w b s) : Calls Try.prog 20 #[.pointer (some ⟨b, 0, none⟩), .int .i64 p] w fun e w' => e = .returned (.int .i64 (roomOf s p)) ∧ Below w.heap.size w w' :=
  (callsIn_wide (n := 3)).1 (room_in Fence.wide 3 trivial trivial trivial trivial rfl (by omega) b s p hp w h)
theorem count_any {b : Nat} {s : TS} {w : World} (h : IsTb w b s) : Calls Try.prog 13 #[.pointer (some ⟨b, 0, none⟩)] w fun e w' => e = .returned (.int .i64 (cntT s.T)) ∧ Below w.heap.size w w' :=
  (callsIn_wide (n := 3)).1 (count_in Fence.wide 3 trivial trivial trivial rfl (by omega) b s w h)
theorem in_any {b : Nat} {s : TS} {w : World} (h : IsTb w b s) (m : Int) : Calls Try.prog 14 #[.pointer (some ⟨b, 0, none⟩), .int .i64 m] w fun e w' => e = .returned (.int .i64 (inT s.T (told s.T 64) m)) ∧ Below w.heap.size w w' :=
  (callsIn_wide (n := 3)).1 (in_in Fence.wide 3 trivial trivial trivial rfl (by omega) b s m w h)
theorem room_arg {b : Nat} {p : Int} (hp : ¬ (0 ≤ p ∧ p < 8)) (w : World) : Calls Try.prog 20 #[.pointer (some ⟨b, 0, none⟩), .int .i64 p] w fun e w' => e = .returned (.int .i64 1) ∧ Below w.heap.size w w' := by
  go_enter Try.func20, Try.ntmps20
  go_wp2_with fail
  refine (proc_any p _).mono ?_
  rintro e w1 ⟨rfl, rfl⟩
  have hd : decide (0 ≤ p ∧ p < 8) = false := by simpa using hp
  rw [hd]
  go_wp2_with fail
  go_ret
  exact ⟨rfl, (Below.refl _ _).alloc (Nat.le_refl _) _⟩

theorem rows8 : ∀ p, p < 8 → (List.range 64).filter (fun x => x / 8 == p) = (List.range 8).map (fun k => p * 8 + k) := by decide
theorem own8 (T : Nat → Sl) {p : Nat} (hp : p < 8) : ownT T p = ((List.range 8).filter fun k => (T (p * 8 + k)).op).length := by
  unfold ownT cntP told
  rw [List.filter_filter]
  have e : (List.range 64).filter (fun a => a / 8 == p && (T a).op) = ((List.range 64).filter (fun x => x / 8 == p)).filter (fun a => (T a).op) := by
    rw [List.filter_filter]
    congr 1
    funext a
    exact Bool.and_comm _ _
  rw [e, rows8 p hp, List.filter_map, List.length_map]
  rfl
theorem all_of_own {T : Nat → Sl} {p : Nat} (hp : p < 8) (h : ∀ k, k < 8 → (T (p * 8 + k)).op = true) : ownT T p = 8 := by
  rw [own8 T hp, List.filter_eq_self.2 (fun k hk => h k (by simpa using hk))]; rfl
theorem exists_free {T : Nat → Sl} {p : Nat} (hp : p < 8) (h : ownT T p < 8) : ∃ k, k < 8 ∧ (T (p * 8 + k)).op = false := by
  apply Classical.byContradiction
  intro hn
  have : ownT T p = 8 := all_of_own hp (fun k hk => by
    cases e : (T (p * 8 + k)).op with
    | true => rfl
    | false => exact absurd ⟨k, hk, e⟩ hn)
  omega
theorem own_all {T : Nat → Sl} {p : Nat} (hp : p < 8) (h : 8 ≤ ownT T p) : ∀ k, k < 8 → (T (p * 8 + k)).op = true := by
  intro k hk
  rw [own8 T hp] at h
  have hl : ((List.range 8).filter fun k => (T (p * 8 + k)).op).length = (List.range 8).length := Nat.le_antisymm (List.length_filter_le _ _) (by simpa using h)
  exact List.length_filter_eq_length_iff.1 hl k (by simpa using hk)

/-- What 'find' answers. -/
theorem find_arg {b : Nat} {p fd : Int} (hp : ¬ (0 ≤ p ∧ p < 8)) (w : World) : Calls Try.prog 24 #[.pointer (some ⟨b, 0, none⟩), .int .i64 p, .int .i64 fd] w fun e w' => e = .returned (.tuple #[.pointer none, .int .i64 1]) ∧ Below w.heap.size w w' := by
  go_enter Try.func24, Try.ntmps24
  go_wp2_with fail
  refine (proc_any p _).mono ?_
  rintro e w1 ⟨rfl, rfl⟩
  have hd : decide (0 ≤ p ∧ p < 8) = false := by simpa using hp
  rw [hd]
  go_wp2_with fail
  go_ret2
  exact ⟨rfl, Below.refl _ _⟩
theorem find_bad {b : Nat} {p fd : Int} (hp : 0 ≤ p ∧ p < 8) (hf : ¬ (0 ≤ fd ∧ fd < 8)) (w : World) : Calls Try.prog 24 #[.pointer (some ⟨b, 0, none⟩), .int .i64 p, .int .i64 fd] w fun e w' => e = .returned (.tuple #[.pointer none, .int .i64 33]) ∧ Below w.heap.size w w' := by
  by_cases h0 : fd < 0
  · have d1 : decide (fd < 0) = true := by simpa using h0
    go_enter Try.func24, Try.ntmps24
    go_wp2_with fail
    refine (proc_any p _).mono ?_
    rintro e w1 ⟨rfl, rfl⟩
    rw [decide_eq_true hp]
    go_wp2_with fail
    go_ret2
    exact ⟨rfl, Below.refl _ _⟩
  · have d1 : decide (fd < 0) = false := by simpa using h0
    have d2 : decide (fd ≥ 8) = true := by simp; omega
    go_enter Try.func24, Try.ntmps24
    go_wp2_with fail
    refine (proc_any p _).mono ?_
    rintro e w1 ⟨rfl, rfl⟩
    rw [decide_eq_true hp]
    go_wp2_with fail
    go_ret2
    exact ⟨rfl, Below.refl _ _⟩
theorem find_nat {b : Nat} {s : TS} {p fd : Nat} (hp : p < 8) (hf : fd < 8) (w : World) (h : IsTb w b s) : Calls Try.prog 24 #[.pointer (some ⟨b, 0, none⟩), .int .i64 p, .int .i64 fd] w fun e w' =>
    e = .returned (if (s.T (p * 8 + fd)).op then .tuple #[.pointer (some ⟨b, 1 + p * 40 + fd * 5, none⟩), .int .i64 0] else .tuple #[.pointer none, .int .i64 33]) ∧ Below w.heap.size w w' := by
  have d1 : decide ((fd : Int) < 0) = false := by simp
  have d2 : decide ((fd : Int) ≥ 8) = false := by simp; omega
  have hc : w.cell? ⟨b, 1 + p * 40 + fd * 5, none⟩ = some (.bool (s.T (p * 8 + fd)).op) := by
    have := h.cs (p * 8 + fd) 0 (by omega) (by omega)
    rw [show 1 + (p * 8 + fd) * 5 + 0 = 1 + p * 40 + fd * 5 from by omega] at this
    exact this
  have hp0 : (0 : Int) ≤ (p : Int) := by omega
  have hp1 : (p : Int) < 8 := by omega
  have hf0 : (0 : Int) ≤ (fd : Int) := by omega
  have hf1 : (fd : Int) < 8 := by omega
  clear h
  cases ho : (s.T (p * 8 + fd)).op with
  | true =>
    rw [ho] at hc
    clear ho
    go_enter Try.func24, Try.ntmps24
    go_wp2_with fail
    refine (proc_any _ _).mono ?_
    rintro e w1 ⟨rfl, rfl⟩
    rw [decide_eq_true (⟨hp0, hp1⟩ : (0 : Int) ≤ (p : Int) ∧ (p : Int) < 8)]
    go_wp2_with fail
    go_ret2
    exact ⟨rfl, Below.refl _ _⟩
  | false =>
    rw [ho] at hc
    clear ho
    go_enter Try.func24, Try.ntmps24
    go_wp2_with fail
    refine (proc_any _ _).mono ?_
    rintro e w1 ⟨rfl, rfl⟩
    rw [decide_eq_true (⟨hp0, hp1⟩ : (0 : Int) ≤ (p : Int) ∧ (p : Int) < 8)]
    go_wp2_with fail
    go_ret2
    exact ⟨rfl, Below.refl _ _⟩
end Go.Proofs.Ytfmhiamgfhdmmaa
