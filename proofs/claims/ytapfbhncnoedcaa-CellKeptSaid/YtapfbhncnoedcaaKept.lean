/- The walks of CellKept and CellNumbers. -/
import Derived.Test.YtapfbhncnoedcaaKnown
import Derived.Test.YtapfbhncnoedcaaWords
import Derived.Laws.StructEq
namespace Go.Proofs.Ytapfbhncnoedcaa
open Go.RowKit

/-- What the loop over the list that was handed out keeps. -/
def KeptInv (w wr : World) (b c g n : Nat) (s : MS) : Prop := IsMem wr b c s ∧ (∃ cs, Holds wr g cs ∧ n ≤ cs.size) ∧ b ≠ g ∧ c ≠ g ∧ w.heap.size ≤ g ∧ Below w.heap.size w wr

theorem KeptInv.set {w wr : World} {b c g n : Nat} {s : MS} (h : KeptInv w wr b c g n s) (k : Nat) (hk : k < n) (v : Value) : KeptInv w (wr.setCell ⟨g, k, none⟩ v) b c g n s := by
  obtain ⟨hm, ⟨cs, hh, hn⟩, h1, h2, h3, hB⟩ := h
  exact ⟨hm.frm (l := [g]) ((Frm.refl _ _).setCell (by simp) _) (by simpa using h1) (by simpa using h2), ⟨_, hh.set k v (by omega), by simpa using hn⟩, h1, h2, h3, hB.setCell h3 v⟩

set_option maxHeartbeats 2000000 in
theorem kept_any (n : Int) (w : World) (h1 : -9223372036854775808 ≤ n) (h2 : n ≤ 9223372036854775807) :
    Calls Try.prog 5 #[.int .i64 n] w fun e w' => e = .returned (.bool true) ∧ Below w.heap.size w w' := by
  go_enter Try.func5, Try.ntmps5
  go_wp2_with fail
  refine (within_any n 0 63 w h1 h2 (by omega) (by omega) (by omega)).mono ?_
  rintro e w0 ⟨rfl, rfl⟩
  obtain ⟨N, hN, hle⟩ : ∃ N : Nat, 0 + n % (63 - 0 + 1) = (N : Int) ∧ N ≤ 63 := ⟨(n % 64).toNat, by omega, by omega⟩
  rw [hN]
  clear hN
  go_wp2_with fail
  refine (new_int (1 + N) w (by omega) (by omega)).mono ?_
  rintro e w1 ⟨rfl, m1, B1⟩
  have M1 := Lib.hid m1
  clear m1
  rw [show (1 + (N : Int)).toNat = N + 1 from by omega] at M1
  go_wp2_with fail
  refine (store_any _ _ _ _ _ _ M1.out).mono ?_
  rintro e w2 ⟨rfl, m2, f2⟩
  have B2 := Below.of_frm B1 f2 (by simp)
  have e2 : (MS.new (N + 1)).store 0 4 = (0, (MS.new (N + 1)).acc 2 0 4 true) := by rw [MS.store, if_pos]; rfl; simp [MS.new] <;> omega
  rw [e2] at m2 ⊢
  obtain ⟨s, hs, hl, h4⟩ : ∃ s, (MS.new (N + 1)).acc 2 0 4 true = s ∧ s.ws.length = N + 1 ∧ s.ws.getD 0 0 = 4 := ⟨_, rfl, by simp [MS.acc, MS.new], by simp [MS.acc, MS.new]⟩
  rw [hs] at m2
  have M2 := Lib.hid m2
  have HL := Lib.hid hl
  have H4 := Lib.hid h4
  clear m2 f2 M1 B1 e2 hs hl h4
  go_wp2_with fail
  refine (words_any _ _ s _ M2.out (by rw [HL.out]; omega)).mono ?_
  rintro e w3 ⟨g, rfl, ⟨hg, cs, hcs, hcv⟩, B3⟩
  have hsz2 := B2.size
  have l1 := M2.out.hb.lt
  have l2 := M2.out.hc.lt
  have hn : s.ws.length ≤ cs.size := by
    rcases Nat.lt_or_ge cs.size s.ws.length with h | h
    · have := hcv cs.size h; simp at this
    · exact h
  have K : Hid (KeptInv w w3 (w.heap.size + 1) w.heap.size g s.ws.length s) := ⟨M2.out.frm (l := []) (Frm.of_below B3) (by simp) (by simp), ⟨cs, hcs, hn⟩, by omega, by omega, by omega, B2.trans (B3.mono B2.size)⟩
  clear hcs hcv B3 M2 B2 hg hn hsz2 l1 l2
  rw [HL.out] at K ⊢
  go_wp2_with fail
  go_loopw [6] (fun iv wr => ∃ k : Nat, k ≤ N + 1 ∧ iv = .int .i64 k ∧ Hid (KeptInv w wr (w.heap.size + 1) w.heap.size g (N + 1) s)) (fun iv _ => (N + 1) - (intOf iv).toNat)
  case atStart => exact ⟨0, by omega, rfl, K⟩
  case round =>
    obtain ⟨k, hk, rfl, hK⟩ := hrel
    clear K
    by_cases hlt : k < N + 1
    · have hn := KeptInv.set hK.out k hlt (.int .i64 99)
      obtain ⟨cs, hh, hsz⟩ := hK.out.2.1
      obtain ⟨x, hx⟩ : ∃ x, wr.cell? ⟨g, k, none⟩ = some x := ⟨cs[k], by rw [hh.cell k]; simp [show k < cs.size by omega]⟩
      have hf := hh.free k
      have HN := Lib.hid hn
      have hk0 : (0 : Int) ≤ (k : Int) := by omega
      have hk1 : (k : Int) < ((N + 1 : Nat) : Int) := by omega
      clear hn hh hsz
      go_wp2_with fail
      go_roundw
      case rel => exact ⟨k + 1, by omega, by go_num, HN⟩
      case measure => simp [intOf]; omega
    · obtain rfl : k = N + 1 := by omega
      have hB := hK.out.2.2.2.2.2
      go_wp2_with fail
      refine (load_any _ _ s 0 _ hK.out.1).mono ?_
      rintro e w4 ⟨rfl, m4, f4⟩
      have e4 : s.load 0 = (4, 0, s.acc 1 0 4 true) := by rw [MS.load, if_pos (by rw [HL.out]; omega), show (0 : Int).toNat = 0 from rfl, H4.out]
      rw [e4] at m4 ⊢
      have M4 := Lib.hid m4
      have B4 := Below.of_frm hB f4 (by simp)
      have l4 : (s.acc 1 0 4 true).ws.length = N + 1 := by simp [MS.acc]; exact HL.out
      have L4 := Lib.hid l4
      clear m4 f4 e4 l4 hB
      go_wp2_with fail
      refine (words_any _ _ _ _ M4.out (by rw [L4.out]; omega)).mono ?_
      rintro e w5 ⟨g', rfl, ⟨hg', cs', hcs', hcv'⟩, B5⟩
      have hc0 : w5.cell? ⟨g', 0, none⟩ = some (.int .i64 4) := by
        rw [hcs'.cell 0, hcv' 0 (by rw [L4.out]; omega)]
        congr 2
        simp [MS.acc, show 0 < s.ws.length by rw [HL.out]; omega]
      have B6 := B4.trans (B5.mono B4.size)
      rw [L4.out]
      clear hcs' hcv' hg' B5
      have hd : decide ((0 : Int) < ((N + 1 : Nat) : Int)) = true := by simp <;> omega
      have hd0 : (0 : Int) < ((N + 1 : Nat) : Int) := by omega
      go_wp2_with fail
      refine (known_any _).mono ?_
      rintro e w7 ⟨rfl, B7⟩
      go_wp2_with fail
      go_ret
      exact ⟨rfl, B6.trans (B7.mono B6.size)⟩

def nu1 : MS := ((MS.new 64).store 63 (-5)).2
def nu2 : MS := (nu1.load 63).2.2
def nu3 : MS := (nu2.store (-1) 1).2
def nu4 : MS := (nu3.swap 63 (-5) 9).2.2
theorem nu_vals : ((MS.new 64).store 63 (-5)).1 = 0 ∧ (nu1.load 63).1 = -5 ∧ (nu1.load 63).2.1 = 0 ∧ (nu2.store (-1) 1).1 = 1 ∧ (nu3.swap 63 (-5) 9).1 = true ∧ nu4.st = 3 ∧ nu4.lk = 3 ∧ nu4.la = 63 ∧ nu4.lo = -5 ∧ nu4.ln = 9 ∧ nu4.ld = true ∧ nu4.ws.length = 64 := by decide +kernel

set_option maxRecDepth 100000 in
set_option maxHeartbeats 4000000 in
theorem numbers_any (w : World) : Calls Try.prog 6 #[] w fun e w' => e = .returned (.bool true) ∧ Below w.heap.size w w' := by
  obtain ⟨a1, a2, a3, a4, a5, a6, a7, a8, a9, a10, a11, a12⟩ := nu_vals
  go_enter Try.func6, Try.ntmps6
  go_wp2_with fail
  refine (new_no 0 w (by omega)).mono ?_
  rintro e w' ⟨rfl, rfl⟩
  go_wp2_with fail
  refine (new_no 65 w (by omega)).mono ?_
  rintro e w' ⟨rfl, rfl⟩
  go_wp2_with fail
  refine (new_int 64 w (by omega) (by omega)).mono ?_
  rintro e w1 ⟨rfl, m1, B1⟩
  rw [show (64 : Int).toNat = 64 from rfl] at m1
  have M1 := Lib.hid m1
  clear m1
  go_wp2_with fail
  refine (last_any _ _ _ _ M1.out).mono ?_
  rintro e w2 ⟨rfl, b2⟩
  have M2 := Lib.hid (M1.out.frm (l := []) (Frm.of_below b2) (by simp) (by simp))
  have B2 := B1.trans (b2.mono B1.size)
  clear b2 M1 B1
  simp only [MS.new]
  go_wp2_with fail
  refine (steps_any _ _ _ _ M2.out).mono ?_
  rintro e w' ⟨rfl, rfl⟩
  rw [show (MS.new 64).st = 0 from rfl]
  go_wp2_with fail
  refine (store_any _ _ _ _ _ _ M2.out).mono ?_
  rintro e w3 ⟨rfl, m3, f3⟩
  rw [a1]
  have M3 := Lib.hid (show IsMem w3 _ _ nu1 from m3)
  have B3 := Below.of_frm B2 f3 (by simp)
  clear m3 f3 M2 B2 a1
  go_wp2_with fail
  refine (load_any _ _ _ _ _ M3.out).mono ?_
  rintro e w4 ⟨rfl, m4, f4⟩
  rw [a2, a3]
  have M4 := Lib.hid (show IsMem w4 _ _ nu2 from m4)
  have B4 := Below.of_frm B3 f4 (by simp)
  clear m4 f4 M3 B3 a2 a3
  go_wp2_with fail
  refine (store_any _ _ _ _ _ _ M4.out).mono ?_
  rintro e w5 ⟨rfl, m5, f5⟩
  rw [a4]
  have M5 := Lib.hid (show IsMem w5 _ _ nu3 from m5)
  have B5 := Below.of_frm B4 f5 (by simp)
  clear m5 f5 M4 B4 a4
  go_wp2_with fail
  refine (swap_any _ _ _ _ _ _ _ M5.out).mono ?_
  rintro e w6 ⟨rfl, m6, f6⟩
  have e6 : (nu3.swap 63 (-5) 9).2.1 = 0 := by decide +kernel
  rw [a5, e6]
  have M6 := Lib.hid (show IsMem w6 _ _ nu4 from m6)
  have B6 := Below.of_frm B5 f6 (by simp)
  clear m6 f6 M5 B5 a5 e6
  go_wp2_with fail
  refine (steps_any _ _ _ _ M6.out).mono ?_
  rintro e w' ⟨rfl, rfl⟩
  rw [a6]
  go_wp2_with fail
  refine (last_any _ _ _ _ M6.out).mono ?_
  rintro e w7 ⟨rfl, b7⟩
  rw [a7, a8, a9, a10, a11]
  have M7 := Lib.hid (M6.out.frm (l := []) (Frm.of_below b7) (by simp) (by simp))
  have B7 := B6.trans (b7.mono B6.size)
  clear b7 M6 B6 a6 a7 a8 a9 a10 a11
  go_wp2_with fail
  refine (words_any _ _ _ _ M7.out (by rw [a12]; omega)).mono ?_
  rintro e w8 ⟨g, rfl, _, B8⟩
  rw [a12]
  have B9 := B7.trans (B8.mono B7.size)
  clear B8 B7 M7 a12
  go_wp2_with fail
  refine (known_any _).mono ?_
  rintro e w9 ⟨rfl, b9⟩
  go_wp2_with fail
  go_ret
  exact ⟨rfl, B9.trans (b9.mono B9.size)⟩
end Go.Proofs.Ytapfbhncnoedcaa
