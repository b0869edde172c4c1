/- The reference's memory does as the program's; lists held against each other. -/
import Derived.Test.YtmhmgenchpemkaaMem2
import Derived.BigQuiet
namespace Go.Proofs.Ytmhmgenchpemkaa
open Go.RowKit

theorem acc_same (s : MS) (kind : Int) (k : Nat) (done : Bool) : (s.acc kind k (s.ws.getD k 0) done).ws = s.ws := by
  by_cases hk : k < s.ws.length
  · simp [MS.acc, hk]
  · simp [MS.acc, List.set_eq_of_length_le (show s.ws.length ≤ k by omega)]

/-- The reference's last row of writes: the count, then the access. -/
theorem refMem {w : World} {b c : Nat} {s : MS} (h : IsMem w b c s) (hne : c ≠ b) (kind : Int) (i : Nat) (x v : Int) (done : Bool) (hi : i < s.ws.length) (hx : s.ws.getD i 0 = x) :
    IsMem (((((((w.setCell ⟨c, i, none⟩ (.int .i64 v)).setCell ⟨b, 1, none⟩ (.int .i64 (wrap64 (s.st + 1)))).setCell ⟨b, 2, none⟩ (.int .i64 kind)).setCell ⟨b, 3, none⟩ (.int .i64 i)).setCell ⟨b, 4, none⟩ (.int .i64 x)).setCell ⟨b, 5, none⟩ (.int .i64 v)).setCell ⟨b, 6, none⟩ (.bool done)) b c (s.acc kind i v done) := by
  refine ⟨?_, ?_, h.ne, by simpa [MS.acc] using h.le⟩
  · have := ((((((h.hb.other (a := ⟨c, i, none⟩) hne (.int .i64 v)).set 1 (.int .i64 (wrap64 (s.st + 1))) (by simp [MS.cells])).set 2 (.int .i64 kind) (by simp [MS.cells])).set 3 (.int .i64 i) (by simp [MS.cells])).set 4 (.int .i64 x) (by simp [MS.cells])).set 5 (.int .i64 v) (by simp [MS.cells])).set 6 (.bool done) (by simp [MS.cells])
    rw [← hx] at this ⊢
    simpa [MS.cells, MS.acc] using this
  · have := ((((((h.hc.set i (.int .i64 v) (by rw [ints_size]; exact hi)).other (a := ⟨b, 1, none⟩) h.ne (.int .i64 (wrap64 (s.st + 1)))).other (a := ⟨b, 2, none⟩) h.ne (.int .i64 kind)).other (a := ⟨b, 3, none⟩) h.ne (.int .i64 i)).other (a := ⟨b, 4, none⟩) h.ne (.int .i64 x)).other (a := ⟨b, 5, none⟩) h.ne (.int .i64 v)).other (a := ⟨b, 6, none⟩) h.ne (.bool done)
    rw [ints_set] at this
    exact this

/-- .. where nothing is stored into the cell. -/
theorem refMem0 {w : World} {b c : Nat} {s : MS} (h : IsMem w b c s) (kind : Int) (i : Nat) (x : Int) (done : Bool) (hi : i < s.ws.length) (hx : s.ws.getD i 0 = x) :
    IsMem ((((((w.setCell ⟨b, 1, none⟩ (.int .i64 (wrap64 (s.st + 1)))).setCell ⟨b, 2, none⟩ (.int .i64 kind)).setCell ⟨b, 3, none⟩ (.int .i64 i)).setCell ⟨b, 4, none⟩ (.int .i64 x)).setCell ⟨b, 5, none⟩ (.int .i64 x)).setCell ⟨b, 6, none⟩ (.bool done)) b c (s.acc kind i x done) := by
  refine ⟨?_, ?_, h.ne, by simpa [MS.acc] using h.le⟩
  · have := (((((h.hb.set 1 (.int .i64 (wrap64 (s.st + 1))) (by simp [MS.cells])).set 2 (.int .i64 kind) (by simp [MS.cells])).set 3 (.int .i64 i) (by simp [MS.cells])).set 4 (.int .i64 x) (by simp [MS.cells])).set 5 (.int .i64 x) (by simp [MS.cells])).set 6 (.bool done) (by simp [MS.cells])
    rw [← hx] at this ⊢
    simpa [MS.cells, MS.acc, hi] using this
  · have := (((((h.hc.other (a := ⟨b, 1, none⟩) h.ne (.int .i64 (wrap64 (s.st + 1)))).other (a := ⟨b, 2, none⟩) h.ne (.int .i64 kind)).other (a := ⟨b, 3, none⟩) h.ne (.int .i64 i)).other (a := ⟨b, 4, none⟩) h.ne (.int .i64 x)).other (a := ⟨b, 5, none⟩) h.ne (.int .i64 x)).other (a := ⟨b, 6, none⟩) h.ne (.bool done)
    rw [← hx, acc_same]
    rw [← hx] at this
    exact this

set_option maxHeartbeats 1000000 in
theorem do_out (b c : Nat) (s : MS) (kind i old next : Int) (w : World) (h : IsMem w b c s) (hin : ¬ (0 ≤ i ∧ i < s.ws.length)) :
    Calls Try.prog 46 #[.pointer (some ⟨b, 0, none⟩), .int .i64 kind, .int .i64 i, .int .i64 old, .int .i64 next] w fun e w' => e = .returned (.tuple #[.int .i64 0, .bool false, .int .i64 1]) ∧ w = w' := by
  have h1 := h.hb.1
  simp only [MS.cells] at h1
  clear h
  by_cases h0 : i < 0
  · have hd : decide (i < 0) = true := by simpa using h0
    go_enter Try.func46, Try.ntmps46
    go_wp2
    go_ret3
    exact ⟨rfl, rfl⟩
  · have hd : decide (i < 0) = false := by simpa using h0
    have hd2 : decide ((s.ws.length : Int) ≤ i) = true := by simp; omega
    go_enter Try.func46, Try.ntmps46
    go_wp2
    go_ret3
    exact ⟨rfl, rfl⟩

set_option maxHeartbeats 2000000 in
theorem do_load (b c : Nat) (s : MS) (i : Int) (w : World) (h : IsMem w b c s) :
    Calls Try.prog 46 #[.pointer (some ⟨b, 0, none⟩), .int .i64 1, .int .i64 i, .int .i64 0, .int .i64 0] w fun e w' => e = .returned (.tuple #[.int .i64 (s.load i).1, .bool (decide (0 ≤ i ∧ i < s.ws.length)), .int .i64 (s.load i).2.1]) ∧ IsMem w' b c (s.load i).2.2 ∧ Frm [b, c] w w' := by
  by_cases hin : 0 ≤ i ∧ i < s.ws.length
  · have e : s.load i = (s.ws.getD i.toNat 0, 0, s.acc 1 i.toNat (s.ws.getD i.toNat 0) true) := by rw [MS.load, if_pos hin]
    have e2 : decide (0 ≤ i ∧ i < s.ws.length) = true := by simpa using hin
    rw [e, e2]
    clear e e2
    obtain ⟨k, rfl⟩ := Int.eq_ofNat_of_zero_le hin.1
    have hk : k < s.ws.length := by omega
    rw [Int.toNat_natCast]
    have H := Lib.hid h
    have hci : w.cell? ⟨c, k, none⟩ = some (.int .i64 (s.ws.getD k 0)) := (h.hc.cell k).trans (ints_get _ _ hk)
    obtain ⟨x, hx⟩ : ∃ x, s.ws.getD k 0 = x := ⟨_, rfl⟩
    have HX := Lib.hid hx
    rw [hx] at hci ⊢
    clear hx
    have hne := h.ne
    have hne' := h.ne.symm
    have h2 := h.hb.2.1
    have h1 := h.hb.1
    simp only [MS.cells] at h1
    have hk0 : decide ((k : Int) < 0) = false := by simp
    have hk1 : (k : Int) < (s.ws.length : Int) := by omega
    clear hin h
    go_enter Try.func46, Try.ntmps46
    go_wp2
    go_ret3
    exact ⟨rfl, refMem0 H.out 1 k x true hk HX.out, ((((((Frm.refl [b, c] w).setCell (by simp) _).setCell (by simp) _).setCell (by simp) _).setCell (by simp) _).setCell (by simp) _).setCell (by simp) _⟩
  · have e : s.load i = (0, 1, s) := by rw [MS.load, if_neg hin]
    have e2 : decide (0 ≤ i ∧ i < s.ws.length) = false := by simpa using hin
    rw [e, e2]
    exact (do_out b c s 1 i 0 0 w h hin).mono (by rintro e w' ⟨rfl, rfl⟩; exact ⟨rfl, h, Frm.refl _ _⟩)

set_option maxHeartbeats 2000000 in
theorem do_store (b c : Nat) (s : MS) (i v : Int) (w : World) (h : IsMem w b c s) :
    Calls Try.prog 46 #[.pointer (some ⟨b, 0, none⟩), .int .i64 2, .int .i64 i, .int .i64 0, .int .i64 v] w fun e w' => (∃ x y, e = .returned (.tuple #[.int .i64 x, .bool y, .int .i64 (s.store i v).1])) ∧ IsMem w' b c (s.store i v).2 ∧ Frm [b, c] w w' := by
  by_cases hin : 0 ≤ i ∧ i < s.ws.length
  · have e : s.store i v = (0, s.acc 2 i.toNat v true) := by rw [MS.store, if_pos hin]
    rw [e]
    clear e
    obtain ⟨k, rfl⟩ := Int.eq_ofNat_of_zero_le hin.1
    have hk : k < s.ws.length := by omega
    rw [Int.toNat_natCast]
    have H := Lib.hid h
    have hci : w.cell? ⟨c, k, none⟩ = some (.int .i64 (s.ws.getD k 0)) := (h.hc.cell k).trans (ints_get _ _ hk)
    obtain ⟨x, hx⟩ : ∃ x, s.ws.getD k 0 = x := ⟨_, rfl⟩
    have HX := Lib.hid hx
    rw [hx] at hci
    clear hx
    have hne := h.ne
    have hne' := h.ne.symm
    have h2 := h.hb.2.1
    have h3 := h.hc.2.1
    have h1 := h.hb.1
    simp only [MS.cells] at h1
    have hk0 : decide ((k : Int) < 0) = false := by simp
    have hk1 : (k : Int) < (s.ws.length : Int) := by omega
    clear hin h
    refine Calls.mono (R := fun e w' => e = .returned (.tuple #[.int .i64 x, .bool true, .int .i64 0]) ∧ IsMem w' b c (s.acc 2 k v true) ∧ Frm [b, c] w w') ?_ (by rintro e w' ⟨rfl, hm, hf⟩; exact ⟨⟨_, _, rfl⟩, hm, hf⟩)
    go_enter Try.func46, Try.ntmps46
    go_wp2
    go_ret3
    exact ⟨rfl, refMem H.out hne' 2 k x v true hk HX.out, (((((((Frm.refl [b, c] w).setCell (by simp) _).setCell (by simp) _).setCell (by simp) _).setCell (by simp) _).setCell (by simp) _).setCell (by simp) _).setCell (by simp) _⟩
  · have e : s.store i v = (1, s) := by rw [MS.store, if_neg hin]
    rw [e]
    exact (do_out b c s 2 i 0 v w h hin).mono (by rintro e w' ⟨rfl, rfl⟩; exact ⟨⟨_, _, rfl⟩, h, Frm.refl _ _⟩)

set_option maxHeartbeats 4000000 in
theorem do_swap (b c : Nat) (s : MS) (i old next : Int) (w : World) (h : IsMem w b c s) :
    Calls Try.prog 46 #[.pointer (some ⟨b, 0, none⟩), .int .i64 3, .int .i64 i, .int .i64 old, .int .i64 next] w fun e w' => (∃ x, e = .returned (.tuple #[.int .i64 x, .bool (s.swap i old next).1, .int .i64 (s.swap i old next).2.1])) ∧ IsMem w' b c (s.swap i old next).2.2 ∧ Frm [b, c] w w' := by
  by_cases hin : 0 ≤ i ∧ i < s.ws.length
  · have e : s.swap i old next = if s.ws.getD i.toNat 0 = old then (true, 0, s.acc 3 i.toNat next true) else (false, 0, s.acc 3 i.toNat (s.ws.getD i.toNat 0) false) := by rw [MS.swap, if_pos hin]
    rw [e]
    clear e
    obtain ⟨k, rfl⟩ := Int.eq_ofNat_of_zero_le hin.1
    have hk : k < s.ws.length := by omega
    rw [Int.toNat_natCast]
    have H := Lib.hid h
    have hci : w.cell? ⟨c, k, none⟩ = some (.int .i64 (s.ws.getD k 0)) := (h.hc.cell k).trans (ints_get _ _ hk)
    obtain ⟨x, hx⟩ : ∃ x, s.ws.getD k 0 = x := ⟨_, rfl⟩
    have HX := Lib.hid hx
    rw [hx] at hci ⊢
    clear hx
    have hne := h.ne
    have hne' := h.ne.symm
    have h2 := h.hb.2.1
    have h3 := h.hc.2.1
    have h1 := h.hb.1
    simp only [MS.cells] at h1
    have hk0 : decide ((k : Int) < 0) = false := by simp
    have hk1 : (k : Int) < (s.ws.length : Int) := by omega
    clear hin h
    by_cases hx : x = old
    · subst hx
      rw [if_pos rfl]
      refine Calls.mono (R := fun e w' => e = .returned (.tuple #[.int .i64 x, .bool true, .int .i64 0]) ∧ IsMem w' b c (s.acc 3 k next true) ∧ Frm [b, c] w w') ?_ (by rintro e w' ⟨rfl, hm, hf⟩; exact ⟨⟨_, rfl⟩, hm, hf⟩)
      go_enter Try.func46, Try.ntmps46
      go_wp2
      go_ret3
      exact ⟨rfl, refMem H.out hne' 3 k x next true hk HX.out, (((((((Frm.refl [b, c] w).setCell (by simp) _).setCell (by simp) _).setCell (by simp) _).setCell (by simp) _).setCell (by simp) _).setCell (by simp) _).setCell (by simp) _⟩
    · rw [if_neg hx]
      have hx' : (x == old) = false := by simpa using hx
      refine Calls.mono (R := fun e w' => e = .returned (.tuple #[.int .i64 x, .bool false, .int .i64 0]) ∧ IsMem w' b c (s.acc 3 k x false) ∧ Frm [b, c] w w') ?_ (by rintro e w' ⟨rfl, hm, hf⟩; exact ⟨⟨_, rfl⟩, hm, hf⟩)
      go_enter Try.func46, Try.ntmps46
      go_wp2
      go_ret3
      exact ⟨rfl, refMem0 H.out 3 k x false hk HX.out, ((((((Frm.refl [b, c] w).setCell (by simp) _).setCell (by simp) _).setCell (by simp) _).setCell (by simp) _).setCell (by simp) _).setCell (by simp) _⟩
  · have e : s.swap i old next = (false, 1, s) := by rw [MS.swap, if_neg hin]
    rw [e]
    exact (do_out b c s 3 i old next w h hin).mono (by rintro e w' ⟨rfl, rfl⟩; exact ⟨⟨_, rfl⟩, h, Frm.refl _ _⟩)

/-- Two lists of one length that hold the same. -/
theorem same_any (g c n c1 c2 : Nat) (f : Nat → Int) (w : World) (hn : n ≤ 1000000) (h1 : ∀ i, i < n → w.cell? ⟨g, i, none⟩ = some (.int .i64 (f i))) (h2 : ∀ i, i < n → w.cell? ⟨c, i, none⟩ = some (.int .i64 (f i))) :
    Calls Try.prog 24 #[.slice (some ⟨g, 0, none⟩) n c1, .slice (some ⟨c, 0, none⟩) n c2] w fun e w' => e = .returned (.bool true) ∧ Below w.heap.size w w' := by
  have H1 := Lib.hid h1
  have H2 := Lib.hid h2
  clear h1 h2
  go_enter Try.func24, Try.ntmps24
  go_wp2_with fail
  go_loopw [5] (fun iv wr => ∃ k : Nat, k ≤ n ∧ iv = .int .i64 k ∧ Hid (∃ m, wr = w.drewN m)) (fun iv _ => n - (intOf iv).toNat)
  case atStart => exact ⟨0, by omega, rfl, 0, rfl⟩
  case round =>
    obtain ⟨k, hk, rfl, hw⟩ := hrel
    obtain ⟨m, rfl⟩ := hw.out
    by_cases hlt : k < n
    · have c1 := H1.out k hlt
      have c2 := H2.out k hlt
      obtain ⟨x, hx⟩ : ∃ x, f k = x := ⟨_, rfl⟩
      rw [hx] at c1 c2
      clear hx
      have hk0 : (0 : Int) ≤ (k : Int) := by omega
      have hk1 : (k : Int) < (n : Int) := by omega
      go_wp2_with fail
      go_quiet (fail)
      go_wp2_with fail
      go_roundw
      case rel => exact ⟨k + 1, by omega, by go_num, _, rfl⟩
      case measure => simp [intOf]; omega
    · obtain rfl : k = n := by omega
      go_wp2_with fail
      go_ret
      exact ⟨rfl, ⟨rfl, rfl, rfl, Nat.le_refl _, fun _ _ => rfl⟩⟩
end Go.Proofs.Ytmhmgenchpemkaa
