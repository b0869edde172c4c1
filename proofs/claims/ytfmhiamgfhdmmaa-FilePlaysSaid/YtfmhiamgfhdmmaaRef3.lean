/- Chapter 14's table as the document has it: Open, Close, Get, Seek. -/
import Derived.Test.YtfmhiamgfhdmmaaRef2
import Derived.Deep.RegionLaw
import Derived.StillTailTactics
namespace Go.Proofs.Ytfmhiamgfhdmmaa
open Go.RowKit

theorem opOpen_no {s : TS} {p m n f : Int} (h : opRoom s p ≠ 0) : opOpen s p m n f = ((0, opRoom s p), s) := by
  unfold opOpen opRoom at *
  split at h
  · rename_i hp
    rw [if_pos hp, if_pos hp]
  · rename_i hp
    rw [if_neg hp, if_neg hp, if_neg h]
theorem opRoom_zero {s : TS} {p : Int} (h : opRoom s p = 0) : ∃ P : Nat, P < 8 ∧ p = P ∧ roomOf s P = 0 := by
  unfold opRoom at h
  split at h
  · omega
  · exact ⟨p.toNat, by omega, by omega, h⟩

set_option maxHeartbeats 1000000 in
theorem ropen_any {b : Nat} {s : TS} {w : World} (h : IsRt w b s) (p m n f : Int) : Calls Try.prog 16 #[.pointer (some ⟨b, 0, none⟩), .int .i64 p, .agg #[.int .i64 m, .int .i64 n], .int .i64 f] w fun e w' =>
    e = .returned (.tuple #[.int .i64 (opOpen s p m n f).1.1, .int .i64 (opOpen s p m n f).1.2]) ∧ IsRt w' b (opOpen s p m n f).2 ∧ Frm [b] w w' := by
  have B0 : Below w.heap.size w (w.alloc (.cells #[.int .i64 m, .int .i64 n] 30)) := (Below.refl _ _).alloc (Nat.le_refl _) _
  have H := Lib.hid (h.below B0)
  have hlb := h.lt
  have H0 := Lib.hid h
  clear h
  by_cases hr : opRoom s p = 0
  · obtain ⟨P, hP, rfl, hroom⟩ := opRoom_zero hr
    obtain ⟨q, hq, hqo⟩ := exists_free hP (T := s.T) (by
      unfold roomOf at hroom
      split at hroom
      · omega
      · omega)
    have HQ := Lib.hid hqo
    have HROOM := Lib.hid hroom
    have HR := Lib.hid hr
    have key : Hid (∀ k : Nat, k < 8 → (∀ j, j < k → (s.T (P * 8 + j)).op = true) → (s.T (P * 8 + k)).op = false → opOpen s P m n f = (((k : Int), 0), s.put (P * 8 + k) ⟨true, m, n, f, 0⟩)) := by
      refine Lib.hid (fun k hk h1 h2 => ?_)
      unfold opOpen
      rw [if_neg (by omega), Int.toNat_natCast, if_pos HROOM.out, first_is hk h1 h2]
    obtain ⟨r, hrr⟩ : ∃ r, opOpen s P m n f = r := ⟨_, rfl⟩
    have HRR := Lib.hid hrr
    rw [hrr]
    clear hrr hqo hroom
    have hp0 : (0 : Int) ≤ (P : Int) := by omega
    have hp1 : (P : Int) < 8 := by omega
    clear hr
    go_enter Try.func16, Try.ntmps16
    go_wp2_with fail
    refine (rroom_any H.out _).mono ?_
    rintro e w1 ⟨rfl, b1⟩
    rw [HR.out]
    have H1 := Lib.hid (H.out.below b1)
    have F1 := Lib.hid ((Frm.of_below B0 : Frm [b] _ _).trans (Frm.of_below b1))
    have v0 : w1.cell? ⟨w.heap.size, 0, none⟩ = some (.int .i64 m) := (b1.cell (p := ⟨w.heap.size, 0, none⟩) (by simp)).trans (by simp)
    have v1 : w1.cell? ⟨w.heap.size, 1, none⟩ = some (.int .i64 n) := (b1.cell (p := ⟨w.heap.size, 1, none⟩) (by simp)).trans (by simp)
    have hs1 : w.heap.size < w1.heap.size := by have := b1.size; simp at this; omega
    clear b1
    go_wp2_with fail
    go_loopw [11] (fun iv wr => ∃ k : Nat, k ≤ q ∧ iv = .int .i64 k ∧ Hid (∀ j, j < k → (s.T (P * 8 + j)).op = true) ∧ wr = w1) (fun iv _ => 8 - (intOf iv).toNat)
    case atStart => exact ⟨0, by omega, rfl, Lib.hid (by intro j hj; omega), rfl⟩
    case round =>
      obtain ⟨k, hk, rfl, HK, rfl⟩ := hrel
      have hk8 : k < 8 := by omega
      have hk0 : (0 : Int) ≤ (k : Int) := by omega
      have hk1 : (k : Int) < 8 := by omega
      have ci := H1.out.is hP hk8
      have hfz := H1.out.fz
      cases ho : (s.T (P * 8 + k)).op with
      | true =>
        rw [ho] at ci
        have HO := Lib.hid ho
        clear ho
        have hkq : k ≠ q := by
          rintro rfl
          have := HQ.out
          rw [HO.out] at this
          cases this
        go_wp2_with fail
        go_roundw
        case rel => exact ⟨k + 1, by omega, by go_num, Lib.hid (fun j hj => by
          by_cases e : j = k
          · subst e; exact HO.out
          · exact HK.out j (by omega)), trivial⟩
        case measure => simp [intOf]; omega
      | false =>
        rw [ho] at ci
        have HO := Lib.hid ho
        clear ho
        have hres := HRR.out.symm.trans (key.out k hk8 HK.out HO.out)
        subst hres
        go_upto_region 9 with fail
        have I2 := Lib.hid (H1.out.setO true (k := P * 8 + k) (by omega))
        rw [show 257 + (P * 8 + k) = 257 + P * 8 + k from by omega] at I2
        have F2 := Lib.hid (F1.out.setCell (p := ⟨b, 257 + P * 8 + k, none⟩) (by simp) (.bool true))
        have u0 : (wr.setCell ⟨b, 257 + P * 8 + k, none⟩ (.bool true)).cell? ⟨w.heap.size, 0, none⟩ = some (.int .i64 m) := (World.cell?_setCell_other _ _ _ _ (by intro hh; injection hh; omega)).trans v0
        have u1 : (wr.setCell ⟨b, 257 + P * 8 + k, none⟩ (.bool true)).cell? ⟨w.heap.size, 1, none⟩ = some (.int .i64 n) := (World.cell?_setCell_other _ _ _ _ (by intro hh; injection hh; omega)).trans v1
        clear v0 v1 ci hfz
        generalize wr.setCell ⟨b, 257 + P * 8 + k, none⟩ (.bool true) = w2 at *
        have e4 : ∀ j, j < 4 → w2.cell? ⟨b, 1 + P * 32 + k * 4 + j, none⟩ = ((s.put (P * 8 + k) { s.T (P * 8 + k) with op := true }).T (P * 8 + k)).fcells[j]? := fun j hj => by
          rw [← I2.out.cf (P * 8 + k) j (by omega) hj, show 1 + (P * 8 + k) * 4 + j = 1 + P * 32 + k * 4 + j from by omega]
        rw [put_at] at e4
        obtain ⟨y, hy⟩ : ∃ y, s.T (P * 8 + k) = y := ⟨_, rfl⟩
        rw [hy] at e4
        have c0 : w2.cell? ⟨b, 1 + P * 32 + k * 4, none⟩ = some (.int .i64 y.m) := e4 0 (by omega)
        have c1 : w2.cell? ⟨b, 1 + P * 32 + k * 4 + 1, none⟩ = some (.int .i64 y.n) := e4 1 (by omega)
        have c2 : w2.cell? ⟨b, 1 + P * 32 + k * 4 + 2, none⟩ = some (.int .i64 y.f) := e4 2 (by omega)
        have c3 : w2.cell? ⟨b, 1 + P * 32 + k * 4 + 3, none⟩ = some (.int .i64 y.p) := e4 3 (by omega)
        have hfz := I2.out.fz
        clear e4 hy
        go_still_tail 10, (by kernel_rfl)
        change wpList _ _ _ _ _ (World.drew _)
        go_wp2_with fail
        go_ret2
        refine ⟨rfl, ?_, ?_⟩
        · have := I2.out.setF ⟨true, m, n, f, 0⟩ (k := P * 8 + k) (by omega) (by rw [put_at])
          rw [put_put, show 1 + (P * 8 + k) * 4 = 1 + P * 32 + k * 4 from by omega] at this
          refine IsRt.drew ?_
          simpa [Sl.fcells, World.setCells, Nat.add_assoc] using this
        · have := F2.out.trans (frm_setCells b (⟨true, m, n, f, 0⟩ : Sl).fcells (1 + P * 32 + k * 4) _)
          refine Frm.drew ?_
          simpa [Sl.fcells, World.setCells, Nat.add_assoc] using this
  · rw [opOpen_no hr]
    have e1 : (opRoom s p != 0) = true := by simpa using hr
    clear hr
    go_enter Try.func16, Try.ntmps16
    go_wp2_with fail
    refine (rroom_any H.out _).mono ?_
    rintro e w1 ⟨rfl, b1⟩
    go_wp2_with fail
    go_ret2
    exact ⟨rfl, H.out.below b1, (Frm.of_below B0).trans (Frm.of_below b1)⟩

theorem rt_cells {w : World} {b : Nat} {s : TS} (h : IsRt w b s) {p fd : Nat} (hp : p < 8) (hf : fd < 8) {y : Sl} (hy : s.T (p * 8 + fd) = y) :
    w.cell? ⟨b, 1 + p * 32 + fd * 4, none⟩ = some (.int .i64 y.m) ∧ w.cell? ⟨b, 1 + p * 32 + fd * 4 + 1, none⟩ = some (.int .i64 y.n) ∧ w.cell? ⟨b, 1 + p * 32 + fd * 4 + 2, none⟩ = some (.int .i64 y.f) ∧ w.cell? ⟨b, 1 + p * 32 + fd * 4 + 3, none⟩ = some (.int .i64 y.p) := by
  have hcs : ∀ j, j < 4 → w.cell? ⟨b, 1 + p * 32 + fd * 4 + j, none⟩ = y.fcells[j]? := fun j hj => by
    rw [← hy, ← h.cf (p * 8 + fd) j (by omega) hj, show 1 + (p * 8 + fd) * 4 + j = 1 + p * 32 + fd * 4 + j from by omega]
  exact ⟨hcs 0 (by omega), hcs 1 (by omega), hcs 2 (by omega), hcs 3 (by omega)⟩

set_option maxHeartbeats 1000000 in
theorem rget_any {b : Nat} {s : TS} {w : World} (h : IsRt w b s) (p fd : Int) : Calls Try.prog 19 #[.pointer (some ⟨b, 0, none⟩), .int .i64 p, .int .i64 fd] w fun e w' => e = .returned (.tuple #[(opGet s p fd).1.file, .int .i64 (opGet s p fd).2]) ∧ Below w.heap.size w w' := by
  have B0 : Below w.heap.size w (w.alloc (.cells #[.int .i64 0, .int .i64 0, .int .i64 0, .int .i64 0] 53)) := (Below.refl _ _).alloc (Nat.le_refl _) _
  have H := Lib.hid (h.below B0)
  clear h
  by_cases hw : why s p fd = 0
  · obtain ⟨P, D, hP, hD, rfl, rfl, ho⟩ := why_yes hw
    obtain ⟨y, hy⟩ : ∃ y, s.T (P * 8 + D) = y := ⟨_, rfl⟩
    have e : opGet s P D = (y, 0) := by unfold opGet; rw [if_pos hw, Int.toNat_natCast, Int.toNat_natCast, hy]
    rw [e]
    simp only [Sl.file]
    obtain ⟨c0, c1, c2, c3⟩ := rt_cells H.out hP hD hy
    have HW := Lib.hid hw
    have hp0 : (0 : Int) ≤ (P : Int) := by omega
    have hp1 : (P : Int) < 8 := by omega
    have hf0 : (0 : Int) ≤ (D : Int) := by omega
    have hf1 : (D : Int) < 8 := by omega
    clear e hw hy ho
    go_enter Try.func19, Try.ntmps19
    go_wp2_with fail
    refine (rcheck_any H.out _ _).mono ?_
    rintro e w1 ⟨rfl, rfl⟩
    rw [HW.out]
    go_wp2_with fail
    go_returns
    exact ⟨rfl, by go_grown⟩
  · have e : opGet s p fd = (Sl.zero, why s p fd) := by unfold opGet; rw [if_neg hw]
    rw [e]
    simp only [Sl.file, Sl.zero]
    have e1 : (why s p fd != 0) = true := by simpa using hw
    clear e hw
    go_enter Try.func19, Try.ntmps19
    go_wp2_with fail
    refine (rcheck_any H.out _ _).mono ?_
    rintro e w1 ⟨rfl, rfl⟩
    go_wp2_with fail
    go_returns
    exact ⟨rfl, by go_grown⟩

theorem rput_pos {w : World} {b k : Nat} {s : TS} (h : IsRt w b s) (hk : k < 64) (z : Int) : IsRt (w.setCell ⟨b, 1 + k * 4 + 3, none⟩ (.int .i64 z)) b (s.put k { s.T k with p := z }) := by
  refine h.put hk (fun j hj => ?_) ?_ (fun o ho _ => World.cell?_setCell_other _ _ _ _ (by intro hh; injection hh; omega)) (fun j => by rw [World.frozen?_setCell]) (by simp)
  · by_cases e : j = 3
    · subst e
      rw [World.cell?_setCell_same (u := .int .i64 (s.T k).p) _ _ _ (by rw [h.cf k 3 hk (by omega)]; rfl)]
      rfl
    · rw [World.cell?_setCell_other _ _ _ _ (by intro hh; injection hh; omega), h.cf k j hk hj]
      match j, hj, e with
      | 0, _, _ => rfl
      | 1, _, _ => rfl
      | 2, _, _ => rfl
      | q + 3, h1, h2 => omega
  · rw [World.cell?_setCell_other _ _ _ _ (by intro hh; injection hh; omega)]
    exact h.ci k hk

theorem rseek_any {b : Nat} {s : TS} {w : World} (h : IsRt w b s) (p fd z : Int) : Calls Try.prog 18 #[.pointer (some ⟨b, 0, none⟩), .int .i64 p, .int .i64 fd, .int .i64 z] w fun e w' => e = .returned (.int .i64 (opSeek s p fd z).1) ∧ IsRt w' b (opSeek s p fd z).2 ∧ Frm [b] w w' := by
  have H := Lib.hid h
  clear h
  by_cases hw : why s p fd = 0
  · obtain ⟨P, D, hP, hD, rfl, rfl, ho⟩ := why_yes hw
    have HW := Lib.hid hw
    have hp0 : (0 : Int) ≤ (P : Int) := by omega
    have hp1 : (P : Int) < 8 := by omega
    have hf0 : (0 : Int) ≤ (D : Int) := by omega
    have hf1 : (D : Int) < 8 := by omega
    by_cases hz : z < 0
    · have e : opSeek s P D z = (39, s) := by unfold opSeek; rw [if_pos hw, if_pos hz]
      have d1 : decide (z < 0) = true := by simpa using hz
      rw [e]
      clear e hw ho hz
      go_enter Try.func18, Try.ntmps18
      go_wp2_with fail
      refine (rcheck_any H.out _ _).mono ?_
      rintro e w1 ⟨rfl, rfl⟩
      rw [HW.out]
      go_wp2_with fail
      go_ret
      exact ⟨rfl, H.out, Frm.refl _ _⟩
    · have e : opSeek s P D z = (0, s.put (P * 8 + D) { s.T (P * 8 + D) with p := z }) := by unfold opSeek; rw [if_pos hw, if_neg hz, Int.toNat_natCast, Int.toNat_natCast]
      have d1 : decide (z < 0) = false := by simpa using hz
      rw [e]
      obtain ⟨c0, c1, c2, c3⟩ := rt_cells H.out hP hD rfl
      have hfz := H.out.fz
      clear e hw ho hz
      go_enter Try.func18, Try.ntmps18
      go_wp2_with fail
      refine (rcheck_any H.out _ _).mono ?_
      rintro e w1 ⟨rfl, rfl⟩
      rw [HW.out]
      go_wp2_with fail
      go_ret
      have I := rput_pos H.out (k := P * 8 + D) (by omega) z
      rw [show 1 + (P * 8 + D) * 4 + 3 = 1 + P * 32 + D * 4 + 3 from by omega] at I
      have F : Frm [b] w (w.setCell ⟨b, 1 + P * 32 + D * 4 + 3, none⟩ (.int .i64 z)) := (Frm.refl _ _).setCell (by simp) _
      exact ⟨rfl, by simpa [Nat.add_assoc] using I, by simpa [Nat.add_assoc] using F⟩
  · have e : opSeek s p fd z = (why s p fd, s) := by unfold opSeek; rw [if_neg hw]
    rw [e]
    have e1 : (why s p fd != 0) = true := by simpa using hw
    clear e hw
    go_enter Try.func18, Try.ntmps18
    go_wp2_with fail
    refine (rcheck_any H.out _ _).mono ?_
    rintro e w1 ⟨rfl, rfl⟩
    go_wp2_with fail
    go_ret
    exact ⟨rfl, H.out, Frm.refl _ _⟩
end Go.Proofs.Ytfmhiamgfhdmmaa
