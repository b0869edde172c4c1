/- Chapter 14's table as the document has it: Room, Open, Close, Get, Seek. -/
import Derived.Test.YtfmhiamgfhdmmaaRef
import Derived.Deep.CutRange
import Derived.Deep.DeepCutAuto
namespace Go.Proofs.Ytfmhiamgfhdmmaa
open Go.RowKit

/-- How many of a process's first k are open. -/
def rowN (T : Nat → Sl) (p k : Nat) : Nat := ((List.range k).filter fun j => (T (p * 8 + j)).op).length
theorem rowN_open {T : Nat → Sl} {p k : Nat} (h : (T (p * 8 + k)).op = true) : rowN T p (k + 1) = rowN T p k + 1 := by simp [rowN, List.range_succ, List.filter_append, h]
theorem rowN_shut {T : Nat → Sl} {p k : Nat} (h : (T (p * 8 + k)).op = false) : rowN T p (k + 1) = rowN T p k := by simp [rowN, List.range_succ, List.filter_append, h]
theorem rowN_le (T : Nat → Sl) (p k : Nat) : rowN T p k ≤ k := by unfold rowN; exact Nat.le_trans (List.length_filter_le _ _) (by simp)

set_option maxHeartbeats 1000000 in
theorem rroom_any {b : Nat} {s : TS} {w : World} (h : IsRt w b s) (p : Int) : Calls Try.prog 21 #[.pointer (some ⟨b, 0, none⟩), .int .i64 p] w fun e w' => e = .returned (.int .i64 (opRoom s p)) ∧ Below w.heap.size w w' := by
  have H := Lib.hid h
  clear h
  by_cases hp : 0 ≤ p ∧ p < 8
  · obtain ⟨P, rfl⟩ : ∃ P : Nat, p = P := ⟨p.toNat, by omega⟩
    have hP : P < 8 := by omega
    have hP0 : (0 : Int) ≤ (P : Int) := by omega
    have hP1 : (P : Int) < 8 := by omega
    have hres : opRoom s P = roomOf s P := by unfold opRoom; rw [if_neg (by omega), Int.toNat_natCast]
    rw [hres]
    clear hres
    go_enter Try.func21, Try.ntmps21
    go_wp2_with fail
    refine (rproc_any _ _).mono ?_
    rintro e w1 ⟨rfl, rfl⟩
    rw [decide_eq_true hp]
    clear hp
    go_wp2_with fail
    go_loopw [5, 6] (fun nv iv wr => ∃ k : Nat, k ≤ 8 ∧ iv = .int .i64 k ∧ nv = .int .i64 (rowN s.T P k : Int) ∧ wr = w) (fun _ iv _ => 8 - (intOf iv).toNat)
    case atStart => exact ⟨0, by omega, rfl, rfl, rfl⟩
    case round =>
      obtain ⟨k, hk, rfl, rfl, rfl⟩ := hrel
      by_cases hlk : k < 8
      · have hk0 : (0 : Int) ≤ (k : Int) := by omega
        have hk1 : (k : Int) < 8 := by omega
        have ci := H.out.is hP hlk
        have hle := rowN_le s.T P k
        cases ho : (s.T (P * 8 + k)).op with
        | true =>
          rw [ho] at ci
          have HO := Lib.hid ho
          clear ho
          go_wp2_with fail
          go_roundw
          case rel => exact ⟨k + 1, by omega, by go_num, by rw [rowN_open HO.out]; go_num, trivial⟩
          case measure => simp [intOf]; omega
        | false =>
          rw [ho] at ci
          have HO := Lib.hid ho
          clear ho
          go_wp2_with fail
          go_roundw
          case rel => exact ⟨k + 1, by omega, by go_num, by rw [rowN_shut HO.out], trivial⟩
          case measure => simp [intOf]; omega
      · obtain rfl : k = 8 := by omega
        have h8 : rowN s.T P 8 = ownT s.T P := (own8 s.T hP).symm
        have hle := rowN_le s.T P 8
        have c0 := H.out.c0
        by_cases g1 : rowN s.T P 8 = 8
        · have e1 : ((rowN s.T P 8 : Int) == 8) = true := by simpa using (by omega : (rowN s.T P 8 : Int) = 8)
          have hres : roomOf s P = 41 := if_pos (by omega)
          have HRES := Lib.hid hres
          clear g1 hres h8
          go_wp2_with fail
          go_ret
          exact ⟨by rw [HRES.out]; rfl, Below.refl _ _⟩
        · have e1 : ((rowN s.T P 8 : Int) == 8) = false := beq_eq_false_iff_ne.2 (by omega)
          by_cases g2 : s.most ≤ (cntT s.T : Int)
          · have d2 : decide ((cntT s.T : Int) ≥ s.most) = true := decide_eq_true g2
            have hres : roomOf s P = 40 := by unfold roomOf; rw [if_neg (by omega), if_pos g2]
            have HRES := Lib.hid hres
            clear g1 g2 hres h8
            go_wp2_with fail
            go_region_held3 (fun w' => w'.cell? ⟨b, 0, none⟩ = some (.int .i64 s.most)) (first | exact c0) (first | (go_at_call 22; (first | refine (rcount_any H.out).mono ?_ | refine (rcount_any H.out.drew).mono ?_); rintro e w5 ⟨rfl, rfl⟩))
            all_goals
              go_wp2_with fail
              go_ret
              exact ⟨by rw [HRES.out]; rfl, by first | exact Below.refl _ _ | exact (Below.refl _ _).drew⟩
          · have d2 : decide ((cntT s.T : Int) ≥ s.most) = false := decide_eq_false g2
            have hres : roomOf s P = 0 := by unfold roomOf; rw [if_neg (by omega), if_neg g2]
            have HRES := Lib.hid hres
            clear g1 g2 hres h8
            go_wp2_with fail
            go_region_held3 (fun w' => w'.cell? ⟨b, 0, none⟩ = some (.int .i64 s.most)) (first | exact c0) (first | (go_at_call 22; (first | refine (rcount_any H.out).mono ?_ | refine (rcount_any H.out.drew).mono ?_); rintro e w5 ⟨rfl, rfl⟩))
            all_goals
              go_wp2_with fail
              go_ret
              exact ⟨by rw [HRES.out]; rfl, by first | exact Below.refl _ _ | exact (Below.refl _ _).drew⟩
  · have hres : opRoom s p = 1 := by unfold opRoom; rw [if_pos hp]
    rw [hres]
    clear hres
    go_enter Try.func21, Try.ntmps21
    go_wp2_with fail
    refine (rproc_any _ _).mono ?_
    rintro e w1 ⟨rfl, rfl⟩
    rw [decide_eq_false hp]
    go_wp2_with fail
    go_ret
    exact ⟨rfl, Below.refl _ _⟩

theorem rcheck_any {b : Nat} {s : TS} {w : World} (h : IsRt w b s) (p fd : Int) : Calls Try.prog 26 #[.pointer (some ⟨b, 0, none⟩), .int .i64 p, .int .i64 fd] w fun e w' => e = .returned (.int .i64 (why s p fd)) ∧ w = w' := by
  by_cases hp : 0 ≤ p ∧ p < 8
  · by_cases h0 : fd < 0
    · have e : why s p fd = 33 := by unfold why; rw [if_neg (by simpa using hp), if_neg (fun hh => by omega)]
      have d1 : decide (fd < 0) = true := by simpa using h0
      rw [e]
      clear e h
      go_enter Try.func26, Try.ntmps26
      go_wp2_with fail
      refine (rproc_any p _).mono ?_
      rintro e w1 ⟨rfl, rfl⟩
      rw [decide_eq_true hp]
      go_wp2_with fail
      go_ret
      exact ⟨rfl, rfl⟩
    · by_cases h8 : fd < 8
      · obtain ⟨P, rfl⟩ : ∃ P : Nat, p = P := ⟨p.toNat, by omega⟩
        obtain ⟨D, rfl⟩ : ∃ D : Nat, fd = D := ⟨fd.toNat, by omega⟩
        have hp0 : (0 : Int) ≤ (P : Int) := by omega
        have hp1 : (P : Int) < 8 := by omega
        have hf0 : (0 : Int) ≤ (D : Int) := by omega
        have hf1 : (D : Int) < 8 := by omega
        have d1 : decide ((D : Int) < 0) = false := by simp
        have d2 : decide ((D : Int) ≥ 8) = false := by simp; omega
        have ci := h.is (by omega : P < 8) (by omega : D < 8)
        clear h h0 h8
        cases ho : (s.T (P * 8 + D)).op with
        | true =>
          have e : why s P D = 0 := by unfold why; rw [if_neg (by omega), if_pos ⟨hf0, hf1, by rw [Int.toNat_natCast, Int.toNat_natCast]; exact ho⟩]
          rw [e]
          rw [ho] at ci
          clear e ho
          go_enter Try.func26, Try.ntmps26
          go_wp2_with fail
          refine (rproc_any _ _).mono ?_
          rintro e w1 ⟨rfl, rfl⟩
          rw [decide_eq_true hp]
          go_wp2_with fail
          go_ret
          exact ⟨rfl, rfl⟩
        | false =>
          have e : why s P D = 33 := by
            unfold why
            rw [if_neg (by omega), if_neg (fun hh => by rw [Int.toNat_natCast, Int.toNat_natCast, ho] at hh; exact absurd hh.2.2 (by simp))]
          rw [e]
          rw [ho] at ci
          clear e ho
          go_enter Try.func26, Try.ntmps26
          go_wp2_with fail
          refine (rproc_any _ _).mono ?_
          rintro e w1 ⟨rfl, rfl⟩
          rw [decide_eq_true hp]
          go_wp2_with fail
          go_ret
          exact ⟨rfl, rfl⟩
      · have e : why s p fd = 33 := by unfold why; rw [if_neg (by simpa using hp), if_neg (fun hh => by omega)]
        have d1 : decide (fd < 0) = false := by simpa using h0
        have d2 : decide (fd ≥ 8) = true := by simp; omega
        rw [e]
        clear e h
        go_enter Try.func26, Try.ntmps26
        go_wp2_with fail
        refine (rproc_any p _).mono ?_
        rintro e w1 ⟨rfl, rfl⟩
        rw [decide_eq_true hp]
        go_wp2_with fail
        go_ret
        exact ⟨rfl, rfl⟩
  · have e : why s p fd = 1 := by unfold why; rw [if_pos hp]
    rw [e]
    clear e h
    go_enter Try.func26, Try.ntmps26
    go_wp2_with fail
    refine (rproc_any p _).mono ?_
    rintro e w1 ⟨rfl, rfl⟩
    rw [decide_eq_false hp]
    go_wp2_with fail
    go_ret
    exact ⟨rfl, rfl⟩

/-- A slot's numbers and its mark turn. -/
theorem IsRt.put {w w' : World} {b k : Nat} {s : TS} {x : Sl} (h : IsRt w b s) (hk : k < 64) (hin : ∀ j, j < 4 → w'.cell? ⟨b, 1 + k * 4 + j, none⟩ = x.fcells[j]?) (hop : w'.cell? ⟨b, 257 + k, none⟩ = some (.bool x.op))
    (hout : ∀ o, (o < 1 + k * 4 ∨ 1 + k * 4 + 4 ≤ o) → o ≠ 257 + k → w'.cell? ⟨b, o, none⟩ = w.cell? ⟨b, o, none⟩) (hfz : ∀ j, w'.frozen? ⟨b, j, none⟩ = w.frozen? ⟨b, j, none⟩) (hlt : w.heap.size ≤ w'.heap.size) : IsRt w' b (s.put k x) := by
  refine ⟨(hout 0 (by omega) (by omega)).trans h.c0, fun i j hi hj => ?_, fun i hi => ?_, fun j => (hfz j).trans (h.fz j), Nat.lt_of_lt_of_le h.lt hlt⟩
  · by_cases e : i = k
    · subst e
      simp only [TS.put, if_true]
      exact hin j hj
    · simp only [TS.put, if_neg e]
      exact (hout _ (by omega) (by omega)).trans (h.cf i j hi hj)
  · by_cases e : i = k
    · subst e
      simp only [TS.put, if_true]
      exact hop
    · simp only [TS.put, if_neg e]
      exact (hout _ (by omega) (by omega)).trans (h.ci i hi)
theorem IsRt.setF {w : World} {b k : Nat} {s : TS} (x : Sl) (h : IsRt w b s) (hk : k < 64) (ho : x.op = (s.T k).op) : IsRt (w.setCells b (1 + k * 4) x.fcells) b (s.put k x) := by
  refine h.put hk (fun j hj => ?_) ?_ (fun o ho _ => ?_) (fun j => by rw [World.frozen?_setCells]) (by rw [size_setCells]; exact Nat.le_refl _)
  · rw [World.cell?_setCells_in b x.fcells (1 + k * 4) w (fun i hi => by rw [h.cf k i hk (by simpa [Sl.fcells_length] using hi), List.getElem?_eq_getElem (by simpa [Sl.fcells_length] using hi)]; rfl) j (by simpa [Sl.fcells_length] using hj)]
    rw [List.getElem?_eq_getElem]
  · rw [World.cell?_setCells_out b x.fcells (1 + k * 4) w ⟨b, 257 + k, none⟩ (fun _ _ => by rw [Sl.fcells_length]; right; show 1 + k * 4 + 4 ≤ 257 + k; omega), h.ci k hk, ho]
  · exact World.cell?_setCells_out b x.fcells (1 + k * 4) w ⟨b, o, none⟩ (fun _ _ => by rw [Sl.fcells_length]; omega)
theorem IsRt.setO {w : World} {b k : Nat} {s : TS} (o : Bool) (h : IsRt w b s) (hk : k < 64) : IsRt (w.setCell ⟨b, 257 + k, none⟩ (.bool o)) b (s.put k { s.T k with op := o }) := by
  refine h.put hk (fun j hj => ?_) ?_ (fun x _ hx => World.cell?_setCell_other _ _ _ _ (by intro hh; injection hh; omega)) (fun j => by rw [World.frozen?_setCell]) (by simp)
  · rw [World.cell?_setCell_other _ _ _ _ (by intro hh; injection hh; omega), h.cf k j hk hj]
    rfl
  · exact World.cell?_setCell_same (u := .bool (s.T k).op) _ _ _ (h.ci k hk)
theorem put_put (s : TS) (k : Nat) (x y : Sl) : (s.put k x).put k y = s.put k y := by
  unfold TS.put
  congr 1
  funext j
  dsimp only
  split <;> rfl
theorem put_at (s : TS) (k : Nat) (x : Sl) : (s.put k x).T k = x := by simp [TS.put]
end Go.Proofs.Ytfmhiamgfhdmmaa
