/- The walk of FileLowest. -/
import Derived.Test.YtfmhiamgfhdmmaaLow
import Derived.Deep.RegionLaw
import Derived.Deep.RegionHeld3
import Derived.Deep.DeepMust
import Derived.Deep.CutRange
import Derived.Deep.DeepCutAuto
namespace Go.Proofs.Ytfmhiamgfhdmmaa
open Go.RowKit

theorem tb_open_is {b : Nat} {s s' : TS} {w : World} {p m n f x c : Int} (he : opOpen s p m n f = ((x, c), s')) (h : IsTb w b s) : Calls Try.prog 9 #[.pointer (some ⟨b, 0, none⟩), .int .i64 p, .agg #[.int .i64 m, .int .i64 n], .int .i64 f] w fun e w' =>
    e = .returned (.tuple #[.int .i64 x, .int .i64 c]) ∧ IsTb w' b s' ∧ Frm [b] w w' := by
  have := tb_open h p m n f
  rw [he] at this
  exact this
theorem tb_close_is {b : Nat} {s s' : TS} {w : World} {p fd x y c : Int} (he : opClose s p fd = ((x, y, c), s')) (h : IsTb w b s) : Calls Try.prog 8 #[.pointer (some ⟨b, 0, none⟩), .int .i64 p, .int .i64 fd] w fun e w' =>
    e = .returned (.tuple #[.agg #[.int .i64 x, .int .i64 y], .int .i64 c]) ∧ IsTb w' b s' ∧ Frm [b] w w' := by
  have := tb_close h p fd
  rw [he] at this
  exact this
theorem open_most (s : TS) (p m n f : Int) : (opOpen s p m n f).2.most = s.most := by
  unfold opOpen
  split
  · rfl
  · split <;> rfl
theorem Lw.drewN {w wr : World} {b q : Nat} {s : TS} (h : Lw w wr b q s) (n : Nat) : Lw w (wr.drewN n) b q s := h.below (below_drewN (Below.refl _ _) n)
theorem Mid.drewN {w wr : World} {b q : Nat} {s s' : TS} (h : Mid w wr b q s s') (n : Nat) : Mid w (wr.drewN n) b q s s' := h.below (below_drewN (Below.refl _ _) n)
theorem Lw.drew {w wr : World} {b q : Nat} {s : TS} (h : Lw w wr b q s) : Lw w wr.drew b q s := h.below (Below.refl _ _).drew

set_option maxRecDepth 100000 in
set_option maxHeartbeats 8000000 in
theorem lowest_any (a : Option Addr) (len cap : Nat) (f : Nat → Nat → Int) (w : World) (hr : Asks7 w a len f) (hm : len ≤ 9223372036854775807) :
    Calls Try.prog 3 #[.slice a len cap] w fun e w' => e = .returned (.bool true) ∧ Below w.heap.size w w' := by
  have hz28 := zero28
  go_enter Try.func3, Try.ntmps3
  go_wp2_with fail
  refine (new_yes 64 w (by omega) (by omega)).mono ?_
  rintro e w1 ⟨rfl, i1, b1⟩
  have T1 : Hid (Tb w w1 w.heap.size ks0) := Lib.hid (Tb.start i1 b1)
  clear i1 b1
  go_wp2_with fail
  have hs1 := T1.out.bel.size
  have hb1 := T1.out.tb.lt
  have L1 : Hid (Lw w (w1.alloc (.cells (bools fun _ => Sl.zero) 28)) w.heap.size w1.heap.size ks0) := by
    have T2 := T1.out.alloc (.cells (bools fun _ => Sl.zero) 28)
    exact Lib.hid ⟨T2.tb, Holds.new w1 _ _, rfl, by omega, T2.bel, by omega, by omega⟩
  clear T1 hz28
  generalize w1.alloc (.cells (bools fun _ => Sl.zero) 28) = w2 at *
  clear hs1 hb1
  generalize w1.heap.size = q at *
  go_loopw [6] (fun iv wr => ∃ i : Nat, i ≤ len ∧ i ≤ 200 ∧ iv = .int .i64 i ∧ Hid (∃ s, Lw w wr w.heap.size q s)) (fun iv _ => len - (intOf iv).toNat)
  case atStart => exact ⟨0, by omega, by omega, rfl, ⟨_, L1.out⟩⟩
  case round =>
    obtain ⟨i, hil, hi200, rfl, ⟨s, hS⟩⟩ := hrel
    have HS := Lib.hid hS
    clear hS L1
    by_cases hlt : i < len ∧ i < 200
    · obtain ⟨hlt1, hlt2⟩ := hlt
      have h1 : (i : Int) < (len : Int) := by omega
      have h2 : (i : Int) < 200 := by omega
      have h0 : (0 : Int) ≤ (i : Int) := by omega
      rcases hr with e0 | ⟨bb, off, rfl, hbs, hcell⟩
      · omega
      · have hcc : Hid (∀ W, Below w.heap.size w W → ∀ j, j < 7 → W.cell? ⟨bb, off + i * 7 + j, none⟩ = some (.int .i64 (f i j))) := Lib.hid (fun W hW j hj => (hW.cell (p := ⟨bb, off + i * 7 + j, none⟩) hbs).trans (hcell i j hlt1 hj).1)
        have hb1 := (hcell i 1 hlt1 (by omega)).2
        obtain ⟨z0, e0⟩ : ∃ z, f i 0 = z := ⟨_, rfl⟩
        obtain ⟨z1, e1⟩ : ∃ z, f i 1 = z := ⟨_, rfl⟩
        obtain ⟨z2, e2⟩ : ∃ z, f i 2 = z := ⟨_, rfl⟩
        obtain ⟨z3, e3⟩ : ∃ z, f i 3 = z := ⟨_, rfl⟩
        obtain ⟨z5, e5⟩ : ∃ z, f i 5 = z := ⟨_, rfl⟩
        obtain ⟨z6, e6⟩ : ∃ z, f i 6 = z := ⟨_, rfl⟩
        have C : Hid (∀ W, Below w.heap.size w W → W.cell? ⟨bb, off + i * 7, none⟩ = some (.int .i64 z0) ∧ W.cell? ⟨bb, off + i * 7 + 1, none⟩ = some (.int .i64 z1) ∧ W.cell? ⟨bb, off + i * 7 + 2, none⟩ = some (.int .i64 z2) ∧ W.cell? ⟨bb, off + i * 7 + 3, none⟩ = some (.int .i64 z3) ∧ W.cell? ⟨bb, off + i * 7 + 5, none⟩ = some (.int .i64 z5) ∧ W.cell? ⟨bb, off + i * 7 + 5 + 1, none⟩ = some (.int .i64 z6)) :=
          Lib.hid (fun W hW => ⟨by rw [← e0]; exact hcc.out W hW 0 (by omega), by rw [← e1]; exact hcc.out W hW 1 (by omega), by rw [← e2]; exact hcc.out W hW 2 (by omega), by rw [← e3]; exact hcc.out W hW 3 (by omega), by rw [← e5]; exact hcc.out W hW 5 (by omega), by rw [← e6]; exact hcc.out W hW 6 (by omega)⟩)
        rw [e1] at hb1
        clear e0 e1 e2 e3 e5 e6 hcc hcell
        obtain ⟨c0, c1, c2, c3, c5, c6⟩ := C.out wr HS.out.bel
        go_upto_if 41 with fail
        go_cut [7] (fun s7 wx => ∃ x : Int, s7 = .int .i64 x ∧ 0 ≤ x ∧ wx = wr)
        case first =>
          by_cases g : z1 < 0
          · have d : decide (z1 < 0) = true := by simpa using g
            go_wp2_with fail
            go_meet
            exact ⟨-(z1 + 1), by simp [go_sem], by omega, rfl⟩
          · have d : decide (z1 < 0) = false := by simpa using g
            go_wp2_with fail
            go_meet
            exact ⟨z1, rfl, by omega, rfl⟩
        case rest =>
          obtain ⟨x, rfl, hx0, rfl⟩ := hcut
          obtain ⟨P, hP, hP8⟩ : ∃ P : Nat, Int.tmod x 8 = (P : Int) ∧ P < 8 := by
            have e0 := Int.tmod_eq_emod_of_nonneg hx0 (b := 8)
            exact ⟨(Int.tmod x 8).toNat, by omega, by omega⟩
          have hP0 : (0 : Int) ≤ (P : Int) := by omega
          have hP1 : (P : Int) < 8 := by omega
          by_cases hk : Int.tmod z0 2 = 0
          · have k0 : (Int.tmod z0 2 == 0) = true := by simpa using hk
            clear hk
            by_cases g1 : z2 < 0
            · have he : opClose s P z2 = ((0, 0, 33), s) := by
                unfold opClose why
                rw [if_neg (show ¬ ¬ ((0 : Int) ≤ (P : Int) ∧ (P : Int) < 8) by omega), if_neg (show ¬ (0 ≤ z2 ∧ z2 < 8 ∧ _) from fun h => by omega), if_neg (by omega)]
              have HE := Lib.hid he
              have d1 : decide (z2 ≥ 0) = false := decide_eq_false (by omega)
              clear he g1
              go_wp2_with (go_at_call 8; refine (tb_close_is HE.out HS.out.tb).mono ?_; rintro e w3 ⟨rfl, i3, f3⟩; have M3 := Lib.hid (((HS.out.step i3 f3 HS.out.most).same).below ((Below.refl _ _).alloc (Nat.le_refl _) (.cells #[.int .i64 0, .int .i64 0] 30))); clear i3 f3)
              clear c0 c1 c2 c3 c5 c6
              obtain ⟨c0, c1, c2, c3, c5, c6⟩ := C.out _ M3.out.bel
              generalize w3.alloc (.cells #[.int .i64 0, .int .i64 0] 30) = w4 at *
              go_quiet (fail)
              go_wp2_with fail
              go_roundw
              case rel => exact ⟨i + 1, by omega, by omega, by go_num, ⟨s, M3.out.drewN _⟩⟩
              case measure => simp [intOf]; omega
            · by_cases g2 : z2 < 8
              · obtain ⟨D, rfl⟩ : ∃ D : Nat, z2 = D := ⟨z2.toNat, by omega⟩
                have hD : D < 8 := by omega
                have d1 : decide ((D : Int) ≥ 0) = true := decide_eq_true (by omega)
                have d2 : decide ((D : Int) < 8) = true := decide_eq_true (by omega)
                have hD0 : (0 : Int) ≤ (D : Int) := by omega
                have hD1 : (D : Int) < 8 := by omega
                clear g1 g2
                cases ho : (s.T (P * 8 + D)).op with
                | false =>
                  have he : opClose s P D = ((0, 0, 33), s) := by
                    unfold opClose why
                    rw [if_neg (show ¬ ¬ ((0 : Int) ≤ (P : Int) ∧ (P : Int) < 8) by omega), if_neg (show ¬ ((0 : Int) ≤ (D : Int) ∧ (D : Int) < 8 ∧ (s.T ((P : Int).toNat * 8 + (D : Int).toNat)).op = true) from fun h => by rw [Int.toNat_natCast, Int.toNat_natCast, ho] at h; exact absurd h.2.2 (by simp)), if_neg (by omega)]
                  have HE := Lib.hid he
                  have HO := Lib.hid ho
                  clear he ho
                  go_wp2_with (go_at_call 8; refine (tb_close_is HE.out HS.out.tb).mono ?_; rintro e w3 ⟨rfl, i3, f3⟩; have M3 := Lib.hid (((HS.out.step i3 f3 HS.out.most).same).below ((Below.refl _ _).alloc (Nat.le_refl _) (.cells #[.int .i64 0, .int .i64 0] 30))); clear i3 f3)
                  clear c0 c1 c2 c3 c5 c6
                  obtain ⟨c0, c1, c2, c3, c5, c6⟩ := C.out _ M3.out.bel
                  have cb := (M3.out.hv.cell (P * 8 + D)).trans (bools_get s.T (by omega))
                  rw [HO.out] at cb
                  generalize w3.alloc (.cells #[.int .i64 0, .int .i64 0] 30) = w4 at *
                  go_quiet (fail)
                  go_wp2_with fail
                  go_roundw
                  case rel => exact ⟨i + 1, by omega, by omega, by go_num, ⟨s, M3.out.drewN _⟩⟩
                  case measure => simp [intOf]; omega
                | true =>
                  obtain ⟨y1, hy1⟩ : ∃ y, (s.T (P * 8 + D)).m = y := ⟨_, rfl⟩
                  obtain ⟨y2, hy2⟩ : ∃ y, (s.T (P * 8 + D)).n = y := ⟨_, rfl⟩
                  have he : opClose s P D = ((y1, y2, 0), s.put (P * 8 + D) Sl.zero) := by
                    have e : why s P D = 0 := by
                      unfold why
                      rw [if_neg (show ¬ ¬ ((0 : Int) ≤ (P : Int) ∧ (P : Int) < 8) by omega), if_pos ⟨hD0, hD1, by rw [Int.toNat_natCast, Int.toNat_natCast]; exact ho⟩]
                    unfold opClose
                    rw [if_pos e, Int.toNat_natCast, Int.toNat_natCast, hy1, hy2]
                  have HE := Lib.hid he
                  have HO := Lib.hid ho
                  clear he ho hy1 hy2
                  go_wp2_with (go_at_call 8; refine (tb_close_is HE.out HS.out.tb).mono ?_; rintro e w3 ⟨rfl, i3, f3⟩; have M3 := Lib.hid ((HS.out.step i3 f3 HS.out.most).below ((Below.refl _ _).alloc (Nat.le_refl _) (.cells #[.int .i64 y1, .int .i64 y2] 30))); clear i3 f3)
                  clear c0 c1 c2 c3 c5 c6
                  obtain ⟨c0, c1, c2, c3, c5, c6⟩ := C.out _ M3.out.bel
                  have cb := (M3.out.hv.cell (P * 8 + D)).trans (bools_get s.T (by omega))
                  rw [HO.out] at cb
                  have cz := M3.out.hv.2.1
                  generalize w3.alloc (.cells #[.int .i64 y1, .int .i64 y2] 30) = w4 at *
                  go_quiet (fail)
                  have M4 := Lib.hid (M3.out.drewN nq)
                  clear c0 c1 c2 c3 c5 c6 cb cz M3
                  obtain ⟨c0, c1, c2, c3, c5, c6⟩ := C.out _ M4.out.bel
                  have cb := (M4.out.hv.cell (P * 8 + D)).trans (bools_get s.T (by omega))
                  rw [HO.out] at cb
                  have cz := M4.out.hv.2.1
                  generalize w4.drewN nq = w5 at *
                  go_wp2_with fail
                  go_still_tail 8, (by kernel_rfl)
                  change wpList _ _ _ _ _ (World.drew _)
                  go_wp2_with fail
                  go_roundw
                  case rel => exact ⟨i + 1, by omega, by omega, by go_num, ⟨_, (M4.out.set (by omega) rfl).drew⟩⟩
                  case measure => simp [intOf]; omega
              · have he : opClose s P z2 = ((0, 0, 33), s) := by
                  unfold opClose why
                  rw [if_neg (show ¬ ¬ ((0 : Int) ≤ (P : Int) ∧ (P : Int) < 8) by omega), if_neg (show ¬ (0 ≤ z2 ∧ z2 < 8 ∧ _) from fun h => by omega), if_neg (by omega)]
                have HE := Lib.hid he
                have d1 : decide (z2 ≥ 0) = true := decide_eq_true (by omega)
                have d2 : decide (z2 < 8) = false := decide_eq_false (by omega)
                clear he g1 g2
                go_wp2_with (go_at_call 8; refine (tb_close_is HE.out HS.out.tb).mono ?_; rintro e w3 ⟨rfl, i3, f3⟩; have M3 := Lib.hid (((HS.out.step i3 f3 HS.out.most).same).below ((Below.refl _ _).alloc (Nat.le_refl _) (.cells #[.int .i64 0, .int .i64 0] 30))); clear i3 f3)
                clear c0 c1 c2 c3 c5 c6
                obtain ⟨c0, c1, c2, c3, c5, c6⟩ := C.out _ M3.out.bel
                generalize w3.alloc (.cells #[.int .i64 0, .int .i64 0] 30) = w4 at *
                go_quiet (fail)
                go_wp2_with fail
                go_roundw
                case rel => exact ⟨i + 1, by omega, by omega, by go_num, ⟨s, M3.out.drewN _⟩⟩
                case measure => simp [intOf]; omega
          · have k0 : (Int.tmod z0 2 == 0) = false := by simpa using hk
            clear hk
            obtain ⟨x1, x2, s', he⟩ : ∃ x1 x2 s', opOpen s P z5 z6 z3 = ((x1, x2), s') := ⟨_, _, _, rfl⟩
            have HE := Lib.hid he
            have hm' : s'.most = 64 := by
              have := open_most s P z5 z6 z3
              rw [he] at this
              exact this.trans HS.out.most
            have HM' := Lib.hid hm'
            obtain ⟨W, hW⟩ : ∃ W, wf s.T P 8 = W := ⟨_, rfl⟩
            have HW := Lib.hid hW
            clear he hm' hW
            go_wp2_with fail
            go_region_held3 (fun w' => w'.cell? ⟨bb, off + i * 7 + 3, none⟩ = some (.int .i64 z3) ∧ w'.cell? ⟨bb, off + i * 7 + 5, none⟩ = some (.int .i64 z5) ∧ w'.cell? ⟨bb, off + i * 7 + 5 + 1, none⟩ = some (.int .i64 z6)) (first | exact ⟨c3, c5, c6⟩) (first | (go_at_call 9; (first | refine (tb_open_is HE.out HS.out.tb).mono ?_ | refine (tb_open_is HE.out (HS.out.tb.below (Below.refl _ _).drew)).mono ?_); rintro e w3 ⟨rfl, i3, f3⟩; have M3 := Lib.hid (by first | exact HS.out.step i3 f3 HM'.out | exact HS.out.drew.step i3 f3 HM'.out); obtain ⟨c0, c1, c2, c3, c5, c6⟩ := C.out w3 M3.out.bel; clear i3 f3))
            go_wp2_with fail
            go_loopw [13, 14] (fun s13 s14 wr => ((∃ k : Nat, k < 8 ∧ s14 = .int .i64 k ∧ s13 = .int .i64 (wf s.T P (7 - k))) ∨ (s14 = .int .i64 (-1) ∧ s13 = .int .i64 W)) ∧ wr = w3) (fun _ s14 _ => (intOf s14 + 1).toNat)
            case atStart => exact ⟨.inl ⟨7, by omega, rfl, rfl⟩, rfl⟩
            case round =>
              obtain ⟨hrel, rfl⟩ := hrel
              rcases hrel with ⟨k, hk8, rfl, rfl⟩ | ⟨rfl, rfl⟩
              · have cb := (M3.out.hv.cell (P * 8 + k)).trans (bools_get s.T (by omega))
                have hk0 : (0 : Int) ≤ (k : Int) := by omega
                have hk1 : (k : Int) < 8 := by omega
                have dk : decide ((k : Int) ≥ 0) = true := decide_eq_true (by omega)
                have hstep : wf s.T P (7 - k + 1) = if (s.T (P * 8 + k)).op = false then (k : Int) else wf s.T P (7 - k) := by
                  rw [wf, show 7 - (7 - k) = k from by omega]
                cases ho : (s.T (P * 8 + k)).op with
                | true =>
                  rw [ho] at cb hstep
                  simp only [Bool.true_eq_false, if_false] at hstep
                  have HST := Lib.hid hstep
                  clear hstep ho
                  go_wp2_with fail
                  go_roundw
                  case rel =>
                    refine ⟨?_, trivial⟩
                    by_cases e : k = 0
                    · subst e
                      exact .inr ⟨by go_num, by rw [← HW.out, ← HST.out]⟩
                    · obtain ⟨k', rfl⟩ : ∃ k', k = k' + 1 := ⟨k - 1, by omega⟩
                      exact .inl ⟨k', by omega, by go_num, by rw [← HST.out]; congr 2; omega⟩
                  case measure => simp [intOf]
                | false =>
                  rw [ho] at cb hstep
                  simp only [if_true] at hstep
                  have HST := Lib.hid hstep
                  clear hstep ho
                  go_wp2_with fail
                  go_roundw
                  case rel =>
                    refine ⟨?_, trivial⟩
                    by_cases e : k = 0
                    · subst e
                      exact .inr ⟨by go_num, by rw [← HW.out, ← HST.out]⟩
                    · obtain ⟨k', rfl⟩ : ∃ k', k = k' + 1 := ⟨k - 1, by omega⟩
                      exact .inl ⟨k', by omega, by go_num, by rw [← HST.out]; congr 2; omega⟩
                  case measure => simp [intOf]
              · have hmost := HS.out.most
                rcases wf_spec s.T P 8 (by omega) with ⟨w8, hall⟩ | ⟨j, _, hj8, wj, hjo, hbef⟩
                · obtain rfl : W = -1 := by rw [← HW.out]; exact w8
                  have he2 := HE.out.symm.trans (open_full hP8 hmost (fun j h1 h2 => hall j (by omega) h2) z5 z6 z3)
                  cases he2
                  clear w8 hall hmost
                  go_wp2_with fail
                  go_roundw
                  case rel => exact ⟨i + 1, by omega, by omega, by go_num, ⟨_, M3.out.same⟩⟩
                  case measure => simp [intOf]; omega
                · obtain rfl : W = (j : Int) := by rw [← HW.out]; exact wj
                  have he2 := HE.out.symm.trans (open_at hP8 hmost hj8 hjo (fun i h1 h2 => hbef i (by omega) h2) z5 z6 z3)
                  cases he2
                  have cb := (M3.out.hv.cell (P * 8 + j)).trans (bools_get s.T (by omega))
                  have cz := M3.out.hv.2.1
                  have hj0 : (0 : Int) ≤ (j : Int) := by omega
                  have hj1 : (j : Int) < 8 := by omega
                  have dj : decide ((j : Int) ≥ 0) = true := decide_eq_true hj0
                  clear wj hjo hbef hmost
                  go_wp2_with fail
                  go_roundw
                  case rel => exact ⟨i + 1, by omega, by omega, by go_num, ⟨_, M3.out.set (by omega) rfl⟩⟩
                  case measure => simp [intOf]; omega
    · by_cases h1 : (i : Int) < (len : Int)
      · have h2 : ¬ (i : Int) < 200 := by omega
        go_wp2_with (go_at_call 10; refine (known_any _).mono ?_; rintro e w6 ⟨rfl, b6⟩)
        go_ret
        exact ⟨rfl, HS.out.bel.trans (b6.mono HS.out.bel.size)⟩
      · go_wp2_with (go_at_call 10; refine (known_any _).mono ?_; rintro e w6 ⟨rfl, b6⟩)
        go_ret
        exact ⟨rfl, HS.out.bel.trans (b6.mono HS.out.bel.size)⟩
end Go.Proofs.Ytfmhiamgfhdmmaa
