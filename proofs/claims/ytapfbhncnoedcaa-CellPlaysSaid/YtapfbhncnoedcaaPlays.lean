/- The walk of CellPlays. -/
import Derived.Test.YtapfbhncnoedcaaAsks
namespace Go.Proofs.Ytapfbhncnoedcaa
open Go.RowKit

/-- Between two rounds: the program's memory and the reference's hold the same. -/
def PInv (w wr : World) (b c b' c' : Nat) (n : Nat) (s : MS) : Prop :=
  IsMem wr b c s ∧ IsMem wr b' c' s ∧ s.ws.length = n ∧ (w.heap.size ≤ b ∧ w.heap.size ≤ c ∧ w.heap.size ≤ b' ∧ w.heap.size ≤ c' ∧ b' ≠ b ∧ b' ≠ c ∧ c' ≠ b ∧ c' ≠ c) ∧ Below w.heap.size w wr

/-- The first has gone on, the second not yet. -/
def PMid (w wr : World) (b c b' c' : Nat) (n : Nat) (s s' : MS) : Prop :=
  IsMem wr b c s' ∧ IsMem wr b' c' s ∧ s'.ws.length = n ∧ (w.heap.size ≤ b ∧ w.heap.size ≤ c ∧ w.heap.size ≤ b' ∧ w.heap.size ≤ c' ∧ b' ≠ b ∧ b' ≠ c ∧ c' ≠ b ∧ c' ≠ c) ∧ Below w.heap.size w wr

theorem PInv.one {w wr w' : World} {b c b' c' n : Nat} {s s' : MS} (h : PInv w wr b c b' c' n s) (hm : IsMem w' b c s') (hl : s'.ws.length = s.ws.length) (hf : Frm [b, c] wr w') : PMid w w' b c b' c' n s s' := by
  obtain ⟨h1, h2, h3, h4, h5⟩ := h
  exact ⟨hm, h2.frm hf (by simp; omega) (by simp; omega), hl.trans h3, h4, Below.of_frm h5 hf (by simp; omega)⟩
theorem PMid.two {w wr w' : World} {b c b' c' n : Nat} {s s' : MS} (h : PMid w wr b c b' c' n s s') (hm : IsMem w' b' c' s') (hf : Frm [b', c'] wr w') : PInv w w' b c b' c' n s' := by
  obtain ⟨h1, h2, h3, h4, h5⟩ := h
  exact ⟨h1.frm hf (by simp; omega) (by simp; omega), hm, h3, h4, Below.of_frm h5 hf (by simp; omega)⟩
theorem PInv.on {w wr w' : World} {b c b' c' n : Nat} {s : MS} (h : PInv w wr b c b' c' n s) (hb : Below wr.heap.size wr w') : PInv w w' b c b' c' n s := by
  obtain ⟨h1, h2, h3, h4, h5⟩ := h
  exact ⟨h1.frm (l := []) (Frm.of_below hb) (by simp) (by simp), h2.frm (l := []) (Frm.of_below hb) (by simp) (by simp), h3, h4, h5.trans (hb.mono h5.size)⟩

theorem load_len (s : MS) (i : Int) : (s.load i).2.2.ws.length = s.ws.length := by unfold MS.load; split <;> simp [MS.acc]
theorem store_len (s : MS) (i v : Int) : (s.store i v).2.ws.length = s.ws.length := by unfold MS.store; split <;> simp [MS.acc]
theorem swap_len (s : MS) (i o v : Int) : (s.swap i o v).2.2.ws.length = s.ws.length := by unfold MS.swap; split <;> (try split) <;> simp [MS.acc]

set_option maxRecDepth 100000 in
theorem plays_no (n : Int) (a : Option Addr) (len cap : Nat) (w : World) (h : n < 1 ∨ 64 < n) :
    Calls Try.prog 7 #[.int .i64 n, .slice a len cap] w fun e w' => e = .returned (.bool true) ∧ Below w.heap.size w w' := by
  rcases h with h | h
  · have hd : decide (n < 1) = true := by simpa using h
    go_enter Try.func7, Try.ntmps7
    go_wp2_with fail
    refine (new_no n w (.inl h)).mono ?_
    rintro e w' ⟨rfl, rfl⟩
    go_wp2_with fail
    refine (known_any _).mono ?_
    rintro e w' ⟨rfl, hb⟩
    go_wp2_with fail
    go_ret
    exact ⟨rfl, hb⟩
  · have hd : decide (n < 1) = false := by simp; omega
    go_enter Try.func7, Try.ntmps7
    go_wp2_with fail
    refine (new_no n w (.inr h)).mono ?_
    rintro e w' ⟨rfl, rfl⟩
    go_wp2_with fail
    refine (known_any _).mono ?_
    rintro e w' ⟨rfl, hb⟩
    go_wp2_with fail
    go_ret
    exact ⟨rfl, hb⟩

theorem rnew_int (n : Int) (w : World) (h1 : 1 ≤ n) (h2 : n ≤ 64) :
    Calls Try.prog 17 #[.int .i64 n] w fun e w' => e = .returned (.pointer (some ⟨w.heap.size + 1, 0, none⟩)) ∧ IsMem w' (w.heap.size + 1) w.heap.size (MS.new n.toNat) ∧ Below w.heap.size w w' := by
  obtain ⟨k, rfl⟩ := Int.eq_ofNat_of_zero_le (show 0 ≤ n by omega)
  rw [Int.toNat_natCast]
  exact rnew_yes k w (by omega) (by omega)

theorem steps_below {b c : Nat} {s : MS} {w : World} (h : IsMem w b c s) : Calls Try.prog 12 #[.pointer (some ⟨b, 0, none⟩)] w fun e w' => e = .returned (.int .i64 s.st) ∧ Below w.heap.size w w' :=
  (steps_any b c s w h).mono fun _ _ ⟨he, hw⟩ => ⟨he, hw ▸ Below.refl _ _⟩

set_option maxRecDepth 100000 in
set_option maxHeartbeats 8000000 in
theorem plays_yes (n : Int) (a : Option Addr) (len cap : Nat) (g : Nat → Nat → Int) (w : World) (h1 : 1 ≤ n) (h2 : n ≤ 64) (hr : Asks w a len g) (hm : len ≤ 9223372036854775807) :
    Calls Try.prog 7 #[.int .i64 n, .slice a len cap] w fun e w' => e = .returned (.bool true) ∧ Below w.heap.size w w' := by
  have hd : decide (n < 1) = false := by simp; omega
  have hd2 : decide (64 < n) = false := by simp; omega
  go_enter Try.func7, Try.ntmps7
  go_wp2_with fail
  refine (new_int n w h1 h2).mono ?_
  rintro e w1 ⟨rfl, m1, B1⟩
  have M1 := Lib.hid m1
  clear m1
  go_wp2_with fail
  refine (rnew_int n _ h1 h2).mono ?_
  rintro e w2 ⟨rfl, m2, B2⟩
  have hs1 := B1.size
  have l1 := M1.out.hb.lt
  have l2 := M1.out.hc.lt
  have P2 : Hid (PInv w w2 (w.heap.size + 1) w.heap.size (w1.heap.size + 1) w1.heap.size n.toNat (MS.new n.toNat)) :=
    ⟨M1.out.frm (l := []) (Frm.of_below B2) (by simp) (by simp), m2, by simp [MS.new], by omega, B1.trans (B2.mono B1.size)⟩
  clear M1 B1 m2 B2
  go_wp2_with fail
  go_loopw [8] (fun iv wr => ∃ (k : Nat) (s : MS), k ≤ len ∧ k ≤ 200 ∧ iv = .int .i64 k ∧ Hid (PInv w wr (w.heap.size + 1) w.heap.size (w1.heap.size + 1) w1.heap.size n.toNat s)) (fun iv _ => len - (intOf iv).toNat)
  case atStart => exact ⟨0, _, by omega, by omega, rfl, P2⟩
  case round =>
    obtain ⟨k, s, hk, hk2, rfl, hP⟩ := hrel
    clear P2
    have hB := hP.out.2.2.2.2
    have hk0 : (0 : Int) ≤ (k : Int) := by omega
    by_cases hlt : k < len ∧ k < 200
    · obtain ⟨hl, h200⟩ := hlt
      have hl' : (k : Int) < (len : Int) := by omega
      have hdl : decide ((k : Int) < (len : Int)) = true := by simpa using hl'
      rcases hr with h0 | ⟨b, off, rfl, hbs, hcell⟩
      · omega
      · obtain ⟨c0, _⟩ := hcell k 0 hl (by omega)
        obtain ⟨c1, _⟩ := hcell k 1 hl (by omega)
        obtain ⟨c2, _⟩ := hcell k 2 hl (by omega)
        obtain ⟨c3, _⟩ := hcell k 3 hl (by omega)
        rw [Nat.add_zero] at c0
        generalize g k 0 = z0 at c0
        generalize g k 1 = z1 at c1
        generalize g k 2 = z2 at c2
        generalize g k 3 = z3 at c3
        have d0 := (hB.cell (p := ⟨b, off + k * 4, none⟩) hbs).trans c0
        have d1 := (hB.cell (p := ⟨b, off + k * 4 + 1, none⟩) hbs).trans c1
        have d2 := (hB.cell (p := ⟨b, off + k * 4 + 2, none⟩) hbs).trans c2
        have d3 := (hB.cell (p := ⟨b, off + k * 4 + 3, none⟩) hbs).trans c3
        clear hcell c0 c1 c2 c3
        cases k1 : (z0 == 1)
        · cases k2 : (z0 == 2)
          · have X0 := Lib.hid (Holds.new wr #[.int .i64 z0, .int .i64 z1, .int .i64 z2, .int .i64 z3] 38)
            have P0 := Lib.hid (PInv.on hP.out ((Below.refl wr.heap.size wr).alloc (Nat.le_refl _) (.cells #[.int .i64 z0, .int .i64 z1, .int .i64 z2, .int .i64 z3] 38)))
            have q1 : wr.heap.size ∉ [w.heap.size + 1, w.heap.size] := by have := hP.out.1.hb.lt; have := hP.out.1.hc.lt; simp; omega
            have q2 : wr.heap.size ∉ [w1.heap.size + 1, w1.heap.size] := by have := hP.out.2.1.hb.lt; have := hP.out.2.1.hc.lt; simp; omega
            go_wp2_with fail
            refine (swap_any _ _ s z1 z2 z3 _ P0.out.1).mono ?_
            rintro e w3 ⟨rfl, m3, f3⟩
            have P3 := Lib.hid (PInv.one P0.out m3 (swap_len _ _ _ _) f3)
            have X3 := Lib.hid (X0.out.frm f3 q1)
            obtain ⟨x3, _, x3'⟩ := X3.out
            clear m3 f3 X0
            go_wp2_with fail
            refine (do_swap _ _ s z1 z2 z3 _ P3.out.2.1).mono ?_
            rintro e w5 ⟨⟨x5, rfl⟩, m5, f5⟩
            have P5 := Lib.hid (PMid.two P3.out m5 f5)
            clear m5 f5 P3 P0 X3 x3 x3' q1 q2 d0 d1 d2 d3
            -- what both tell
            have M5 := Lib.hid P5.out.1
            have hb5 := P5.out.2.1.hb
            have hlb5 := hb5.lt
            obtain ⟨r5, _, _⟩ := hb5
            simp only [MS.cells] at r5
            go_wp2_with fail
            refine (last_any _ _ _ _ M5.out).mono ?_
            rintro e w6 ⟨rfl, b6⟩
            have P6 := Lib.hid (PInv.on P5.out b6)
            have M6 := Lib.hid P6.out.1
            have hb6 := P6.out.2.1.hb
            have hlb6 := hb6.lt
            have hlc6 : w1.heap.size < w6.heap.size := by omega
            have hld6 : ¬ w1.heap.size + 1 = w6.heap.size := by omega
            obtain ⟨r6, _, _⟩ := hb6
            simp only [MS.cells] at r6
            clear r5 hlb5 M5 b6
            go_wp2_with fail
            refine wp_region_graft (by kernel_rfl) (by kernel_rfl) ?_
            repeat (go_big_quiet_step ((go_at_call 12; exact calls_graft (steps_below (M6.out.frm (l := []) (((Frm.refl [] w6).alloc _).trans (Frm.of_below (graft_below _ _))) (by simp) (by simp))))))
            refine wpQuiet_nil ?_
            intro w8 b8
            have P8 := Lib.hid (PInv.on P6.out ((((Below.refl _ _).alloc (Nat.le_refl _) _)).trans (b8.mono (by simp))))
            clear r6 hlb6 hlc6 hld6 b8
            go_wp2_with fail
            go_roundw
            case rel => exact ⟨k + 1, _, by omega, by omega, by go_num, P8⟩
            case measure => simp [intOf]; omega
          · have _k := k2
            have X0 := Lib.hid (Holds.new wr #[.int .i64 z0, .int .i64 z1, .int .i64 z2, .int .i64 z3] 38)
            have P0 := Lib.hid (PInv.on hP.out ((Below.refl wr.heap.size wr).alloc (Nat.le_refl _) (.cells #[.int .i64 z0, .int .i64 z1, .int .i64 z2, .int .i64 z3] 38)))
            have q1 : wr.heap.size ∉ [w.heap.size + 1, w.heap.size] := by have := hP.out.1.hb.lt; have := hP.out.1.hc.lt; simp; omega
            have q2 : wr.heap.size ∉ [w1.heap.size + 1, w1.heap.size] := by have := hP.out.2.1.hb.lt; have := hP.out.2.1.hc.lt; simp; omega
            go_wp2_with fail
            refine (store_any _ _ s z1 z3 _ P0.out.1).mono ?_
            rintro e w3 ⟨rfl, m3, f3⟩
            have P3 := Lib.hid (PInv.one P0.out m3 (store_len _ _ _) f3)
            have X3 := Lib.hid (X0.out.frm f3 q1)
            obtain ⟨x3, _, x3'⟩ := X3.out
            clear m3 f3 X0
            go_wp2_with fail
            refine (do_store _ _ s z1 z3 _ P3.out.2.1).mono ?_
            rintro e w5 ⟨⟨x5, y5, rfl⟩, m5, f5⟩
            have P5 := Lib.hid (PMid.two P3.out m5 f5)
            clear m5 f5 P3 P0 X3 x3 x3' q1 q2 d0 d1 d2 d3
            -- what both tell
            have M5 := Lib.hid P5.out.1
            have hb5 := P5.out.2.1.hb
            have hlb5 := hb5.lt
            obtain ⟨r5, _, _⟩ := hb5
            simp only [MS.cells] at r5
            go_wp2_with fail
            refine (last_any _ _ _ _ M5.out).mono ?_
            rintro e w6 ⟨rfl, b6⟩
            have P6 := Lib.hid (PInv.on P5.out b6)
            have M6 := Lib.hid P6.out.1
            have hb6 := P6.out.2.1.hb
            have hlb6 := hb6.lt
            have hlc6 : w1.heap.size < w6.heap.size := by omega
            have hld6 : ¬ w1.heap.size + 1 = w6.heap.size := by omega
            obtain ⟨r6, _, _⟩ := hb6
            simp only [MS.cells] at r6
            clear r5 hlb5 M5 b6
            go_wp2_with fail
            refine wp_region_graft (by kernel_rfl) (by kernel_rfl) ?_
            repeat (go_big_quiet_step ((go_at_call 12; exact calls_graft (steps_below (M6.out.frm (l := []) (((Frm.refl [] w6).alloc _).trans (Frm.of_below (graft_below _ _))) (by simp) (by simp))))))
            refine wpQuiet_nil ?_
            intro w8 b8
            have P8 := Lib.hid (PInv.on P6.out ((((Below.refl _ _).alloc (Nat.le_refl _) _)).trans (b8.mono (by simp))))
            clear r6 hlb6 hlc6 hld6 b8
            go_wp2_with fail
            go_roundw
            case rel => exact ⟨k + 1, _, by omega, by omega, by go_num, P8⟩
            case measure => simp [intOf]; omega
        · have _k := k1
          have X0 := Lib.hid (Holds.new wr #[.int .i64 z0, .int .i64 z1, .int .i64 z2, .int .i64 z3] 38)
          have P0 := Lib.hid (PInv.on hP.out ((Below.refl wr.heap.size wr).alloc (Nat.le_refl _) (.cells #[.int .i64 z0, .int .i64 z1, .int .i64 z2, .int .i64 z3] 38)))
          have q1 : wr.heap.size ∉ [w.heap.size + 1, w.heap.size] := by have := hP.out.1.hb.lt; have := hP.out.1.hc.lt; simp; omega
          have q2 : wr.heap.size ∉ [w1.heap.size + 1, w1.heap.size] := by have := hP.out.2.1.hb.lt; have := hP.out.2.1.hc.lt; simp; omega
          go_wp2_with fail
          refine (load_any _ _ s z1 _ P0.out.1).mono ?_
          rintro e w3 ⟨rfl, m3, f3⟩
          have P3 := Lib.hid (PInv.one P0.out m3 (load_len _ _) f3)
          have X3 := Lib.hid (X0.out.frm f3 q1)
          obtain ⟨x3, _, x3'⟩ := X3.out
          clear m3 f3 X0
          go_wp2_with fail
          refine (do_load _ _ s z1 _ P3.out.2.1).mono ?_
          rintro e w5 ⟨rfl, m5, f5⟩
          have P5 := Lib.hid (PMid.two P3.out m5 f5)
          clear m5 f5 P3 P0 X3 x3 x3' q1 q2 d0 d1 d2 d3
          -- what both tell
          have M5 := Lib.hid P5.out.1
          have hb5 := P5.out.2.1.hb
          have hlb5 := hb5.lt
          obtain ⟨r5, _, _⟩ := hb5
          simp only [MS.cells] at r5
          go_wp2_with fail
          refine (last_any _ _ _ _ M5.out).mono ?_
          rintro e w6 ⟨rfl, b6⟩
          have P6 := Lib.hid (PInv.on P5.out b6)
          have M6 := Lib.hid P6.out.1
          have hb6 := P6.out.2.1.hb
          have hlb6 := hb6.lt
          have hlc6 : w1.heap.size < w6.heap.size := by omega
          have hld6 : ¬ w1.heap.size + 1 = w6.heap.size := by omega
          obtain ⟨r6, _, _⟩ := hb6
          simp only [MS.cells] at r6
          clear r5 hlb5 M5 b6
          go_wp2_with fail
          refine wp_region_graft (by kernel_rfl) (by kernel_rfl) ?_
          repeat (go_big_quiet_step ((go_at_call 12; exact calls_graft (steps_below (M6.out.frm (l := []) (((Frm.refl [] w6).alloc _).trans (Frm.of_below (graft_below _ _))) (by simp) (by simp))))))
          refine wpQuiet_nil ?_
          intro w8 b8
          have P8 := Lib.hid (PInv.on P6.out ((((Below.refl _ _).alloc (Nat.le_refl _) _)).trans (b8.mono (by simp))))
          clear r6 hlb6 hlc6 hld6 b8
          go_wp2_with fail
          go_roundw
          case rel => exact ⟨k + 1, _, by omega, by omega, by go_num, P8⟩
          case measure => simp [intOf]; omega
    · have hnl : k = len ∨ (k = 200 ∧ 200 < len) := by omega
      clear hlt hr
      rcases hnl with rfl | ⟨rfl, h200⟩
      all_goals
        go_wp2_with fail
        have P1 := Lib.hid (show PInv w wr.drew (w.heap.size + 1) w.heap.size (w1.heap.size + 1) w1.heap.size n.toNat s from PInv.on hP.out (Below.refl _ _).drew)
        have LN := Lib.hid hP.out.2.2.1
        have r0 : wr.cell? ⟨w1.heap.size + 1, 0, none⟩ = some (.slice (some ⟨w1.heap.size, 0, none⟩) s.ws.length s.ws.length) := by rw [hP.out.2.1.hb.cell 0]; rfl
        have q1 := hP.out.2.1.hb.lt
        go_region_held3 (fun w' => w'.cell? ⟨w1.heap.size + 1, 0, none⟩ = some (.slice (some ⟨w1.heap.size, 0, none⟩) s.ws.length s.ws.length)) (first | exact r4 | exact r3 | exact r2 | exact r0)
          (first
            | (go_at_call 15; refine (words_any _ _ s _ P1.out.1 (by rw [LN.out]; omega)).mono ?_; rintro e w2 ⟨g', rfl, ⟨hg, cs, hcs, hcv⟩, B2⟩; have r2 := (B2.cell (p := ⟨w1.heap.size + 1, 0, none⟩) q1).trans r0; have P2 := Lib.hid (PInv.on P1.out B2); clear B2)
            | (go_at_call 19; refine (same_any g' w1.heap.size s.ws.length s.ws.length s.ws.length (fun j => s.ws.getD j 0) _ (by rw [LN.out]; omega) (fun j hj => (hcs.cell j).trans (hcv j hj)) (fun j hj => (P2.out.2.1.hc.cell j).trans (ints_get _ _ hj))).mono ?_; rintro e w3 ⟨rfl, B3⟩; have P3 := Lib.hid (PInv.on P2.out B3); have r3 := (B3.cell (p := ⟨w1.heap.size + 1, 0, none⟩) P2.out.2.1.hb.lt).trans r2; clear B3)
            | (go_at_call 13; refine (known_any _).mono ?_; rintro e w4 ⟨rfl, B4⟩; have P4 := Lib.hid (PInv.on P3.out B4); have r4 := (B4.cell (p := ⟨w1.heap.size + 1, 0, none⟩) P3.out.2.1.hb.lt).trans r3; clear B4))
        go_wp2_with fail
        go_ret
        exact ⟨rfl, P4.out.2.2.2.2⟩
theorem plays_any (n : Int) (a : Option Addr) (len cap : Nat) (g : Nat → Nat → Int) (w : World) (hr : Asks w a len g) (hm : len ≤ 9223372036854775807) :
    Calls Try.prog 7 #[.int .i64 n, .slice a len cap] w fun e w' => e = .returned (.bool true) ∧ Below w.heap.size w w' := by
  by_cases h : n < 1 ∨ 64 < n
  · exact plays_no n a len cap w h
  · exact plays_yes n a len cap g w (by omega) (by omega) hr hm
end Go.Proofs.Ytapfbhncnoedcaa
