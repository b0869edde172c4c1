/- The walk of ArenaPlays. -/
import Derived.Test.YtpmolcbfjjibgaaPlaysI
import Derived.Deep.RegionLaw
import Derived.Deep.RegionHeld3
import Derived.Deep.DeepMust
import Derived.Deep.CutRange
import Derived.Deep.DeepCutAuto
namespace Go.Proofs.Ytpmolcbfjjibgaa
open Go.RowKit

/-- A list of asks that came in. -/
def Asks5 (w : World) (a : Option Addr) (len : Nat) (g : Nat → Nat → Int) : Prop :=
  len = 0 ∨ ∃ b off, a = some ⟨b, off, none⟩ ∧ b < w.heap.size ∧ ∀ i j, i < len → j < 5 → w.cell? ⟨b, off + i * 5 + j, none⟩ = some (.int .i64 (g i j)) ∧ -9223372036854775808 ≤ g i j ∧ g i j ≤ 9223372036854775807

theorem rf_cells {w : World} {base r : Nat} {lr : List Nat} {t : AS} (h : Rf w base r lr t) : ∃ a c, w.cell? ⟨r, 2, none⟩ = some (.slice a t.free.length c) ∧ w.cell? ⟨r, 3, none⟩ = some (.int .i64 t.stale) ∧ r < w.heap.size := by
  obtain ⟨gc, vc, tv, h, _⟩ := h
  obtain ⟨a, c, hv⟩ := h.hf.value
  exact ⟨a, c, by rw [h.hb.cell 2, hv]; rfl, by rw [h.hb.cell 3]; rfl, h.hb.lt⟩
theorem rlive_ar {w : World} {base r : Nat} {lr : List Nat} {t : AS} (h : Rf w base r lr t) (hpos : ∀ j, j < t.sl.length → 0 ≤ (t.sl.getD j (0, 0)).1) :
    Calls Try.prog 25 #[.pointer (some ⟨r, 0, none⟩)] w fun e w' => ∃ v, e = .returned v ∧ Win w' w.heap.size 50 2 v (handles t.sl).length (prs (handles t.sl)) ∧ Below w.heap.size w w' := by
  obtain ⟨gc, vc, tv, h, _⟩ := h
  exact rlive_any _ _ _ _ _ t w h hpos
theorem stale_graft {w x : World} {base b : Nat} {l : List Nat} {s : AS} (h : Ar w base b l s) : Calls Try.prog 17 #[.pointer (some ⟨b, 0, none⟩)] (graft w x) fun e w' => e = .returned (.int .i64 s.stale) ∧ Below (graft w x).heap.size (graft w x) w' :=
  (ar_stale (h.below (graft_below w x))).mono fun _ _ ⟨e, hw⟩ => ⟨e, hw ▸ Below.refl _ _⟩
theorem left_graft {w x : World} {base b : Nat} {l : List Nat} {s : AS} (h : Ar w base b l s) : Calls Try.prog 15 #[.pointer (some ⟨b, 0, none⟩)] (graft w x) fun e w' => e = .returned (.int .i64 s.free.length) ∧ Below (graft w x).heap.size (graft w x) w' :=
  (ar_left (h.below (graft_below w x))).mono fun _ _ ⟨e, hw⟩ => ⟨e, hw ▸ Below.refl _ _⟩
theorem Pl.var2 {w wr : World} {b r q : Nat} {l lr : List Nat} {hv : Value} {had : List (Int × Int)} {vs : List (Nat × Array Value)} {s t : AS} {x y : Value} (h : Pl w wr b r l lr hv had vs s t) (hq : (q, #[x, y]) ∈ vs) :
    wr.cell? ⟨q, 0, none⟩ = some x ∧ wr.cell? ⟨q, 1, none⟩ = some y := ⟨(h.vars _ hq).1.cell 0, (h.vars _ hq).1.cell 1⟩
theorem Pl.var5 {w wr : World} {b r q : Nat} {l lr : List Nat} {hv : Value} {had : List (Int × Int)} {vs : List (Nat × Array Value)} {s t : AS} {x y z u v : Value} (h : Pl w wr b r l lr hv had vs s t) (hq : (q, #[x, y, z, u, v]) ∈ vs) :
    wr.cell? ⟨q, 2, none⟩ = some z := (h.vars _ hq).1.cell 2

set_option maxRecDepth 100000 in
set_option maxHeartbeats 8000000 in
theorem plays_any (n : Int) (a : Option Addr) (len cap : Nat) (f : Nat → Nat → Int) (w : World) (hr : Asks5 w a len f) (hm : len ≤ 9223372036854775807) :
    Calls Try.prog 7 #[.int .i64 n, .slice a len cap] w fun e w' => e = .returned (.bool true) ∧ Below w.heap.size w w' := by
  obtain ⟨i30, hi, hz0, hz1, hz2⟩ := info_parts info30
  go_enter Try.func7, Try.ntmps7
  go_wp2_with fail
  by_cases hn : n < 1 ∨ 64 < n
  · refine (new_no n w hn).mono ?_
    rintro e w0 ⟨rfl, rfl⟩
    by_cases h1 : n < 1
    · have d1 : decide (n < 1) = true := by simpa using h1
      clear hn
      go_wp2_with (go_at_call 12; refine (known_any _).mono ?_; rintro e w4 ⟨rfl, b4⟩)
      go_ret
      exact ⟨rfl, b4⟩
    · have d1 : decide (n < 1) = false := by simpa using h1
      have d2 : decide (n > 64) = true := by simp; omega
      clear hn
      go_wp2_with (go_at_call 12; refine (known_any _).mono ?_; rintro e w4 ⟨rfl, b4⟩)
      go_ret
      exact ⟨rfl, b4⟩
  · obtain ⟨N, rfl⟩ : ∃ N : Nat, n = (N : Int) := ⟨n.toNat, by omega⟩
    have hN1 : 1 ≤ N := by omega
    have hN2 : N ≤ 64 := by omega
    have d1 : decide ((N : Int) < 1) = false := by simp; omega
    have d2 : decide ((N : Int) > 64) = false := by simp; omega
    clear hn
    refine (ar_new N w hN1 hN2).mono ?_
    rintro e w1 ⟨rfl, ⟨l1, a1⟩, B1⟩
    have A1 := Lib.hid a1
    have HB1 := Lib.hid B1
    clear a1 B1
    go_wp2_with fail
    refine (rnew_any N w1 hN2).mono ?_
    rintro e w2 ⟨rfl, ⟨gc, vc, tv, r2⟩, b2⟩
    have I2 : Hid (∃ l lr, Pl w w2 (w.heap.size + 1) (w1.heap.size + 2) l lr (.slice none 0 0) [] [] (AS.new N N) (AS.new N N)) := by
      have hs := HB1.out.size
      have hR : Rf w2 w1.heap.size (w1.heap.size + 2) (rfoot (w1.heap.size + 2) gc vc tv) (AS.new N N) := ⟨gc, vc, tv, r2, rfl⟩
      refine ⟨l1, _, A1.out.below b2, ⟨gc, vc, tv, ⟨r2.hb, r2.hg, r2.hv, r2.hf.of_base hs, r2.bg, r2.bv, r2.gv, r2.fb, r2.fg, r2.fv, r2.le, by have := r2.b0; omega, by have := r2.g0; omega, by have := r2.v0; omega⟩, rfl⟩, Win.nil _ _ _ _, by simp, fun k hk hm => ?_, by simp [Value.ownBlock], by simp [Value.ownBlock], HB1.out.trans (b2.mono hs)⟩
      have := (A1.out.foot_lt k hk).2
      have := (hR.foot_lt k hm).1
      omega
    clear r2 b2 A1 HB1
    go_wp2_with fail
    go_loopw [8, 9] (fun hv iv wr => ∃ i : Nat, ∃ had s, i ≤ len ∧ i ≤ 200 ∧ iv = .int .i64 i ∧ had.length ≤ i ∧ Hid (Gd N i s) ∧ Hid (∃ l lr, Pl w wr (w.heap.size + 1) (w1.heap.size + 2) l lr hv had [] s s)) (fun _ iv _ => len - (intOf iv).toNat)
    case atStart => exact ⟨0, [], _, by omega, by omega, rfl, by simp, Gd.new N hN2, I2⟩
    case round =>
      obtain ⟨i, had, s, hil, hi200, rfl, hhl, hG, ⟨l, lr, hS⟩⟩ := hrel
      have HS := Lib.hid hS
      clear hS I2
      by_cases hlt : i < len ∧ i < 200
      · obtain ⟨hlt1, hlt2⟩ := hlt
        have h1 : (i : Int) < (len : Int) := by omega
        have h2 : (i : Int) < 200 := by omega
        have h0 : (0 : Int) ≤ (i : Int) := by omega
        rcases hr with e0 | ⟨bb, off, rfl, hbs, hcell⟩
        · omega
        · have cc : ∀ j, j < 5 → wr.cell? ⟨bb, off + i * 5 + j, none⟩ = some (.int .i64 (f i j)) := fun j hj => (HS.out.bel.cell (p := ⟨bb, off + i * 5 + j, none⟩) hbs).trans (hcell i j hlt1 hj).1
          have hb1 := (hcell i 1 hlt1 (by omega)).2
          have c0 : wr.cell? ⟨bb, off + i * 5, none⟩ = some (.int .i64 (f i 0)) := cc 0 (by omega)
          have c1 := cc 1 (by omega)
          have c2 := cc 2 (by omega)
          have c3 := cc 3 (by omega)
          have c4 := cc 4 (by omega)
          obtain ⟨z0, e0⟩ : ∃ z, f i 0 = z := ⟨_, rfl⟩
          obtain ⟨z1, e1⟩ : ∃ z, f i 1 = z := ⟨_, rfl⟩
          obtain ⟨z2, e2⟩ : ∃ z, f i 2 = z := ⟨_, rfl⟩
          obtain ⟨z3, e3⟩ : ∃ z, f i 3 = z := ⟨_, rfl⟩
          obtain ⟨z4, e4⟩ : ∃ z, f i 4 = z := ⟨_, rfl⟩
          rw [e0] at c0
          rw [e1] at c1 hb1
          rw [e2] at c2
          rw [e3] at c3
          rw [e4] at c4
          have hbw : bb < wr.heap.size := Nat.lt_of_lt_of_le hbs HS.out.bel.size
          have hbn : ¬ bb = wr.heap.size := by omega
          clear e0 e1 e2 e3 e4 hcell cc hbs
          obtain ⟨aw, cw, rfl⟩ := HS.out.hw.value
          go_upto_region 13 with fail
          go_cut [10, 11, 74] (fun s10 s11 s74 wx => ∃ bo : Bool, s10 = .pointer (some ⟨wr.heap.size, 0, none⟩) ∧ s11 = .pointer (some ⟨wr.heap.size + 1, 0, none⟩) ∧ s74 = .bool bo ∧ (bo = true → 0 ≤ z1 ∧ 0 < had.length) ∧ wx = (wr.alloc (.cells #[.int .i64 z0, .int .i64 z1, .int .i64 z2, .int .i64 z3, .int .i64 z4] 49)).alloc (.cells #[.int .i64 z3, .int .i64 z4] 30))
          case first =>
            by_cases g1 : 0 ≤ z1
            · have k1 : decide (z1 ≥ 0) = true := by simpa using g1
              by_cases g2 : 0 < had.length
              · have k2 : decide ((had.length : Int) > 0) = true := decide_eq_true (by omega)
                go_wp2_with fail
                go_meet
                exact ⟨true, rfl, rfl, rfl, fun _ => ⟨g1, g2⟩, rfl⟩
              · have k2 : decide ((had.length : Int) > 0) = false := decide_eq_false (by omega)
                go_wp2_with fail
                go_meet
                exact ⟨false, rfl, rfl, rfl, (by simp), rfl⟩
            · have k1 : decide (z1 ≥ 0) = false := by simpa using g1
              go_wp2_with fail
              go_meet
              exact ⟨false, rfl, rfl, rfl, (by simp), rfl⟩
          case rest =>
            obtain ⟨bo, rfl, rfl, rfl, hbo, rfl⟩ := hcut
            go_upto_if 74 with fail
            go_cut [11] (fun s11 wx => ∃ hk hg : Int, s11 = .pointer (some ⟨wr.heap.size + 1, 0, none⟩) ∧ wx = (wr.alloc (.cells #[.int .i64 z0, .int .i64 z1, .int .i64 z2, .int .i64 z3, .int .i64 z4] 49)).alloc (.cells #[.int .i64 hk, .int .i64 hg] 30))
            case first =>
              cases bo with
              | false =>
                go_wp2_with fail
                go_meet
                exact ⟨z3, z4, rfl, rfl⟩
              | true =>
                obtain ⟨g1, g2⟩ := hbo rfl
                have hW := HS.out.hw
                obtain ⟨fw, ow, dw, ew⟩ := hW.form g2
                cases ew
                obtain ⟨q, hq, hql⟩ : ∃ q : Nat, Int.tmod z1 (had.length : Int) = (q : Int) ∧ q < had.length := by
                  have e0 := Int.tmod_eq_emod_of_nonneg g1 (b := (had.length : Int))
                  have e1 := Int.emod_nonneg z1 (b := (had.length : Int)) (by omega)
                  have e2 := Int.emod_lt_of_pos z1 (b := (had.length : Int)) (by omega)
                  exact ⟨(Int.tmod z1 (had.length : Int)).toNat, by omega, by omega⟩
                have d0 := (hW.cells (q * 2) (by omega)).trans (prs_get had q hql).1
                have d1' : wr.cell? ⟨fw, ow + q * 2 + 1, none⟩ = some (.int .i64 (had.getD q (0, 0)).2) := (hW.cells (q * 2 + 1) (by omega)).trans (prs_get had q hql).2
                have hfw := (hW.lt fw rfl).2
                have hfn : ¬ fw = wr.heap.size := by omega
                have hfn1 : ¬ fw = wr.heap.size + 1 := by omega
                have hq0 : (0 : Int) ≤ (q : Int) := by omega
                have hq1 : (q : Int) < (had.length : Int) := by omega
                have hne : ((had.length : Int) == 0) = false := beq_eq_false_iff_ne.2 (by omega)
                have hne' : ¬ (had.length : Int) = 0 := by omega
                generalize (had.getD q (0, 0)).1 = y1 at d0
                generalize (had.getD q (0, 0)).2 = y2 at d1'
                clear hW
                go_wp2_with fail
                go_meet
                exact ⟨y1, y2, rfl, rfl⟩
            case rest =>
              obtain ⟨hk, hg, rfl, rfl⟩ := hcut
              have hsz : wr.heap.size < wr.heap.size + 1 := by omega
              have I3 : Hid (Pl w ((wr.alloc (.cells #[.int .i64 z0, .int .i64 z1, .int .i64 z2, .int .i64 z3, .int .i64 z4] 49)).alloc (.cells #[.int .i64 hk, .int .i64 hg] 30)) (w.heap.size + 1) (w1.heap.size + 2) l lr (.slice aw had.length cw) had [(wr.heap.size + 1, #[.int .i64 hk, .int .i64 hg]), (wr.heap.size, #[.int .i64 z0, .int .i64 z1, .int .i64 z2, .int .i64 z3, .int .i64 z4])] s s) := by
                have := (HS.out.bind #[.int .i64 z0, .int .i64 z1, .int .i64 z2, .int .i64 z3, .int .i64 z4] 49).bind #[.int .i64 hk, .int .i64 hg] 30
                rw [World.size_alloc] at this
                exact this
              have hqs : wr.heap.size + 1 < ((wr.alloc (.cells #[.int .i64 z0, .int .i64 z1, .int .i64 z2, .int .i64 z3, .int .i64 z4] 49)).alloc (.cells #[.int .i64 hk, .int .i64 hg] 30)).heap.size := by simp
              have x0 : ((wr.alloc (.cells #[.int .i64 z0, .int .i64 z1, .int .i64 z2, .int .i64 z3, .int .i64 z4] 49)).alloc (.cells #[.int .i64 hk, .int .i64 hg] 30)).cell? ⟨wr.heap.size, 0, none⟩ = some (.int .i64 z0) := (I3.out.vars _ (List.mem_cons_of_mem _ (List.mem_cons_self))).1.cell 0
              have x2 := I3.out.var5 (by simp : (wr.heap.size, #[Value.int .i64 z0, .int .i64 z1, .int .i64 z2, .int .i64 z3, .int .i64 z4]) ∈ _)
              obtain ⟨r0, r1⟩ := I3.out.var2 (by simp : (wr.heap.size + 1, #[Value.int .i64 hk, .int .i64 hg]) ∈ _)
              clear HS c0 c1 c2 c3 c4 hbw hbn hsz
              generalize (wr.alloc (.cells #[.int .i64 z0, .int .i64 z1, .int .i64 z2, .int .i64 z3, .int .i64 z4] 49)).alloc (.cells #[.int .i64 hk, .int .i64 hg] 30) = w3 at *
              obtain ⟨q, hq⟩ : ∃ q, wr.heap.size = q := ⟨_, rfl⟩
              rw [hq] at I3 hqs x0 x2 r0 r1 ⊢
              have HQ := Lib.hid hq
              clear hq
              by_cases k1 : z0 = 1
              · have e1 : (z0 == 1) = true := by simpa using k1
                clear k1
                obtain ⟨ra, rc, re, s', hop⟩ : ∃ ra rc re s', opTake s z2 = ((ra, rc, re), s') := ⟨_, _, _, _, rfl⟩
                have HOP := Lib.hid hop
                have HG' : Hid (Gd N (i + 1) s') := by have := hG.out.take z2; rw [hop] at this; exact this
                clear hop
                go_wp2_with (first | (go_at_call 10; refine (pl_take I3.out hG.out (by omega) z2 HOP.out).mono ?_; rintro e w4 ⟨rfl, i4⟩; have I4 := Lib.hid (i4.bind #[.int .i64 ra, .int .i64 rc] 30); have y2 := i4.var5 (by simp : (q, #[Value.int .i64 z0, .int .i64 z1, .int .i64 z2, .int .i64 z3, .int .i64 z4]) ∈ _); have hq4l : q < w4.heap.size := (i4.vars _ (List.mem_cons_of_mem _ (List.mem_cons_self))).1.lt; have hq4 : ¬ q = w4.heap.size := (by omega); clear i4) | (go_at_call 20; refine (pl_rtake I4.out hG.out (by omega) z2 HOP.out).mono ?_; rintro e w5 ⟨rfl, i5⟩; have I5 := Lib.hid (i5.bind #[.int .i64 ra, .int .i64 rc] 50); have q4 := (i5.vars _ (List.mem_cons_self)).1.lt; clear i5))
                have c40 := (I5.out.var2 (by simp : (w4.heap.size, #[Value.int .i64 ra, .int .i64 rc]) ∈ _))
                have c50 := (I5.out.var2 (by simp : (w5.heap.size, #[Value.int .i64 ra, .int .i64 rc]) ∈ _))
                obtain ⟨c41, c42⟩ := c40
                obtain ⟨c51, c52⟩ := c50
                have l5 : w5.heap.size < (w5.alloc (.cells #[.int .i64 ra, .int .i64 rc] 50)).heap.size := by simp
                have l4 : w4.heap.size < (w5.alloc (.cells #[.int .i64 ra, .int .i64 rc] 50)).heap.size := by omega
                clear I4 y2 x0 x2 r0 r1
                generalize w5.alloc (.cells #[.int .i64 ra, .int .i64 rc] 50) = w6 at *
                refine wp_region_graft (by kernel_rfl) (by kernel_rfl) ?_
                repeat (go_big_quiet_step ((go_at_call 21; exact calls_graft (in_any _ _ _))))
                refine wpQuiet_nil ?_
                intro W hW
                have I6 := Lib.hid (I5.out.below hW)
                have c43 := (hW.cell (p := ⟨w4.heap.size, 0, none⟩) l4).trans c41
                have c44 := (hW.cell (p := ⟨w4.heap.size, 1, none⟩) l4).trans c42
                clear hW c41 c42 c51 c52 I5
                by_cases g0 : re = 0
                · have g1 : (re == 0) = true := by simpa using g0
                  clear g0
                  go_wp2_with (at_builtin; refine wpList_append_win _ rfl (.tmp 124) (.tmp 126) 28 rfl w.heap.size 30 i30 _ 2 16 Try.underlying28 hi hz0 hz1 hz2 rfl (by decide) (.slice aw had.length cw) had.length (prs had) rfl (I6.out.hw.alloc _) ⟨W.heap.size, 0, none⟩ 1 1 [.int .i64 ra, .int .i64 rc] rfl rfl (cells_two _ _ _ _) (by simp [Value.oneCell']) (by decide) (by unfold maxLen; omega) (by omega) (by have := I6.out.bel.size; simp only [World.size_alloc]; omega) ?_; intro f' o' cap' w7 hown hgrow hat; have I7 := Lib.hid ((I6.out.alloc _).push (p := (ra, rc)) hgrow hown hat); clear hown hgrow hat)
                  obtain ⟨ta, tc, t2, t3, t4⟩ := rf_cells I7.out.rf
                  have TA := Lib.hid I7.out.ar
                  refine wp_region_graft (by kernel_rfl) (by kernel_rfl) ?_
                  repeat (go_big_quiet_step ((first | (go_at_call 17; exact calls_graft (stale_graft TA.out)) | (go_at_call 15; exact calls_graft (left_graft TA.out)))))
                  refine wpQuiet_nil ?_
                  intro WT hWT
                  have IT := Lib.hid (I7.out.below hWT)
                  clear t2 t3 t4 hWT TA
                  go_wp2_with fail
                  go_roundw
                  case rel => exact ⟨i + 1, had ++ [(ra, rc)], s', by omega, by omega, by go_num, (by simp; omega), HG', Lib.hid ⟨_, _, IT.out.unbind (by simp)⟩⟩
                  case measure => simp [intOf]; omega
                · have g1 : (re == 0) = false := by simpa using g0
                  clear g0
                  go_wp2_with fail
                  obtain ⟨ta, tc, t2, t3, t4⟩ := rf_cells I6.out.rf
                  have TA := Lib.hid I6.out.ar
                  refine wp_region_graft (by kernel_rfl) (by kernel_rfl) ?_
                  repeat (go_big_quiet_step ((first | (go_at_call 17; exact calls_graft (stale_graft TA.out)) | (go_at_call 15; exact calls_graft (left_graft TA.out)))))
                  refine wpQuiet_nil ?_
                  intro WT hWT
                  have IT := Lib.hid (I6.out.below hWT)
                  clear t2 t3 t4 hWT TA
                  go_wp2_with fail
                  go_roundw
                  case rel => exact ⟨i + 1, had, s', by omega, by omega, by go_num, (by omega), HG', Lib.hid ⟨_, _, IT.out.unbind (by simp)⟩⟩
                  case measure => simp [intOf]; omega
              · have e1 : (z0 == 1) = false := by simpa using k1
                by_cases k2 : z0 = 2
                · have e2 : (z0 == 2) = true := by simpa using k2
                  clear k1 k2
                  obtain ⟨re, s', hop⟩ : ∃ re s', opFree s hk hg = (re, s') := ⟨_, _, rfl⟩
                  have HOP := Lib.hid hop
                  have HG' : Hid (Gd N (i + 1) s') := by have := hG.out.freed hk hg; rw [hop] at this; exact this
                  clear hop
                  have IX : Hid (∃ l lr, Pl w w3 (w.heap.size + 1) (w1.heap.size + 2) l lr (.slice aw had.length cw) had [(q + 1, #[.int .i64 hk, .int .i64 hg]), (q, #[.int .i64 z0, .int .i64 z1, .int .i64 z2, .int .i64 z3, .int .i64 z4])] s s) := ⟨l, lr, I3.out⟩
                  go_wp2_with fail
                  obtain ⟨xl, xlr, IX'⟩ := IX.out
                  have IX := Lib.hid IX'
                  clear IX'
                  go_region_held3 (fun w' => w'.cell? ⟨q + 1, 0, none⟩ = some (.int .i64 hk) ∧ w'.cell? ⟨q + 1, 1, none⟩ = some (.int .i64 hg)) (first | exact ⟨r0, r1⟩) (first | (go_at_call 11; (first | refine (pl_free IX.out hG.out (by omega) HOP.out).mono ?_ | refine (pl_free IX.out.drew hG.out (by omega) HOP.out).mono ?_); rintro e w4 ⟨rfl, l4, i4⟩; have IX := Lib.hid i4; obtain ⟨r0, r1⟩ := i4.var2 (by simp : (q + 1, #[Value.int .i64 hk, .int .i64 hg]) ∈ _); clear i4) | (go_at_call 22; (first | refine (pl_rfree IX.out hG.out (by omega) HOP.out).mono ?_ | refine (pl_rfree IX.out.drew hG.out (by omega) HOP.out).mono ?_); rintro e w5 ⟨rfl, l5, i5⟩; have IX := Lib.hid i5; obtain ⟨r0, r1⟩ := i5.var2 (by simp : (q + 1, #[Value.int .i64 hk, .int .i64 hg]) ∈ _); clear i5) | (go_at_call 21; refine (in_any _ _ _).mono ?_; rintro e w6 ⟨rfl, b6⟩; have IX := Lib.hid (by first | exact IX.out.below b6 | exact IX.out.drew.below b6); obtain ⟨r0, r1⟩ := IX.out.var2 (by simp : (q + 1, #[Value.int .i64 hk, .int .i64 hg]) ∈ _); clear b6))
                  all_goals
                    go_wp2_with fail
                    obtain ⟨ta, tc, t2, t3, t4⟩ := rf_cells IX.out.rf
                    have TA := Lib.hid IX.out.ar
                    refine wp_region_graft (by kernel_rfl) (by kernel_rfl) ?_
                    repeat (go_big_quiet_step ((first | (go_at_call 17; exact calls_graft (stale_graft TA.out)) | (go_at_call 15; exact calls_graft (left_graft TA.out)))))
                    refine wpQuiet_nil ?_
                    intro WT hWT
                    have IT := Lib.hid (IX.out.below hWT)
                    clear t2 t3 t4 hWT TA
                    go_wp2_with fail
                    go_roundw
                    case rel => exact ⟨i + 1, had, s', by omega, by omega, by go_num, (by omega), HG', Lib.hid ⟨_, _, IT.out.unbind (by simp)⟩⟩
                    case measure => simp [intOf]; omega
                · have e2 : (z0 == 2) = false := by simpa using k2
                  by_cases k3 : z0 = 3
                  · have e3 : (z0 == 3) = true := by simpa using k3
                    clear k1 k2 k3
                    obtain ⟨rv, re, s', hop⟩ : ∃ rv re s', opGet s hk hg = ((rv, re), s') := ⟨_, _, _, rfl⟩
                    have HOP := Lib.hid hop
                    have HG' : Hid (Gd N (i + 1) s') := by have := hG.out.got hk hg; rw [hop] at this; exact this
                    clear hop
                    go_wp2_with (first | (go_at_call 14; refine (pl_get I3.out HOP.out).mono ?_; rintro e w4 ⟨rfl, i4⟩; have I4 := Lib.hid i4; obtain ⟨r2, r3⟩ := i4.var2 (by simp : (q + 1, #[Value.int .i64 hk, .int .i64 hg]) ∈ _); clear i4) | (go_at_call 21; refine (in_any _ _ _).mono ?_; rintro e w5 ⟨rfl, b5⟩; have I5 := Lib.hid (I4.out.below b5); clear b5) | (go_at_call 23; refine (pl_rget I5.out hG.out HOP.out).mono ?_; rintro e w6 ⟨rfl, i6⟩; have I6 := Lib.hid i6; clear i6))
                    obtain ⟨ta, tc, t2, t3, t4⟩ := rf_cells I6.out.rf
                    have TA := Lib.hid I6.out.ar
                    refine wp_region_graft (by kernel_rfl) (by kernel_rfl) ?_
                    repeat (go_big_quiet_step ((first | (go_at_call 17; exact calls_graft (stale_graft TA.out)) | (go_at_call 15; exact calls_graft (left_graft TA.out)))))
                    refine wpQuiet_nil ?_
                    intro WT hWT
                    have IT := Lib.hid (I6.out.below hWT)
                    clear t2 t3 t4 hWT TA
                    go_wp2_with fail
                    go_roundw
                    case rel => exact ⟨i + 1, had, s', by omega, by omega, by go_num, (by omega), HG', Lib.hid ⟨_, _, IT.out.unbind (by simp)⟩⟩
                    case measure => simp [intOf]; omega
                  · have e3 : (z0 == 3) = false := by simpa using k3
                    clear k1 k2 k3
                    obtain ⟨re, s', hop⟩ : ∃ re s', opSet s hk hg z2 = (re, s') := ⟨_, _, rfl⟩
                    have HOP := Lib.hid hop
                    have HG' : Hid (Gd N (i + 1) s') := by have := hG.out.put hk hg z2; rw [hop] at this; exact this
                    clear hop
                    go_wp2_with fail
                    have IX := I3
                    go_region_held3 (fun w' => w'.cell? ⟨q + 1, 0, none⟩ = some (.int .i64 hk) ∧ w'.cell? ⟨q + 1, 1, none⟩ = some (.int .i64 hg) ∧ w'.cell? ⟨q, 2, none⟩ = some (.int .i64 z2)) (first | exact ⟨r0, r1, x2⟩) (first | (go_at_call 16; (first | refine (pl_set IX.out HOP.out).mono ?_ | refine (pl_set IX.out.drew HOP.out).mono ?_); rintro e w4 ⟨rfl, i4⟩; have IX := Lib.hid i4; obtain ⟨r0, r1⟩ := i4.var2 (by simp : (q + 1, #[Value.int .i64 hk, .int .i64 hg]) ∈ _); have x2 := i4.var5 (by simp : (q, #[Value.int .i64 z0, .int .i64 z1, .int .i64 z2, .int .i64 z3, .int .i64 z4]) ∈ _); clear i4) | (go_at_call 24; (first | refine (pl_rset IX.out hG.out HOP.out).mono ?_ | refine (pl_rset IX.out.drew hG.out HOP.out).mono ?_); rintro e w5 ⟨rfl, i5⟩; have IX := Lib.hid i5; obtain ⟨r0, r1⟩ := i5.var2 (by simp : (q + 1, #[Value.int .i64 hk, .int .i64 hg]) ∈ _); have x2 := i5.var5 (by simp : (q, #[Value.int .i64 z0, .int .i64 z1, .int .i64 z2, .int .i64 z3, .int .i64 z4]) ∈ _); clear i5) | (go_at_call 21; refine (in_any _ _ _).mono ?_; rintro e w6 ⟨rfl, b6⟩; have IX := Lib.hid (by first | exact IX.out.below b6 | exact IX.out.drew.below b6); obtain ⟨r0, r1⟩ := IX.out.var2 (by simp : (q + 1, #[Value.int .i64 hk, .int .i64 hg]) ∈ _); have x2 := IX.out.var5 (by simp : (q, #[Value.int .i64 z0, .int .i64 z1, .int .i64 z2, .int .i64 z3, .int .i64 z4]) ∈ _); clear b6))
                    all_goals
                      go_wp2_with fail
                      obtain ⟨ta, tc, t2, t3, t4⟩ := rf_cells IX.out.rf
                      have TA := Lib.hid IX.out.ar
                      refine wp_region_graft (by kernel_rfl) (by kernel_rfl) ?_
                      repeat (go_big_quiet_step ((first | (go_at_call 17; exact calls_graft (stale_graft TA.out)) | (go_at_call 15; exact calls_graft (left_graft TA.out)))))
                      refine wpQuiet_nil ?_
                      intro WT hWT
                      have IT := Lib.hid (IX.out.below hWT)
                      clear t2 t3 t4 hWT TA
                      go_wp2_with fail
                      go_roundw
                      case rel => exact ⟨i + 1, had, s', by omega, by omega, by go_num, (by omega), HG', Lib.hid ⟨_, _, IT.out.unbind (by simp)⟩⟩
                      case measure => simp [intOf]; omega
      · have A3 := Lib.hid HS.out.ar
        have hpos : Hid (∀ j, j < s.sl.length → 0 ≤ (s.sl.getD j (0, 0)).1) := Lib.hid (fun j hj => (hG.out.gens j (by have := hG.out.len; omega)).1)
        obtain ⟨aw, cw, rfl⟩ := HS.out.hw.value
        by_cases h1 : (i : Int) < (len : Int)
        · have h2 : ¬ (i : Int) < 200 := by omega
          go_wp2_with fail
          refine (ar_live A3.out).mono ?_
          rintro e w4 ⟨v, rfl, hv, b4⟩
          have RF := Lib.hid (HS.out.rf.below b4)
          have B4 := Lib.hid (HS.out.bel.trans (b4.mono HS.out.bel.size))
          have HV := Lib.hid hv
          clear hv b4
          go_wp2_with fail
          refine (rlive_ar RF.out hpos.out).mono ?_
          rintro e w5 ⟨v2, rfl, hv2, b5⟩
          have B5 := Lib.hid (B4.out.trans (b5.mono B4.out.size))
          have HW := Lib.hid (HV.out.below b5)
          have HW2 := Lib.hid hv2
          clear hv2 b5 HV RF
          generalize handles s.sl = xs at *
          obtain ⟨a1, c1, rfl⟩ := HW.out.value
          obtain ⟨a2, c2, rfl⟩ := HW2.out.value
          go_wp2_with fail
          go_loopw [22] (fun iv wz => ∃ k : Nat, k ≤ xs.length ∧ iv = .int .i64 k ∧ Hid (Win wz wr.heap.size 30 2 (.slice a1 xs.length c1) xs.length (prs xs)) ∧ Hid (Win wz w4.heap.size 50 2 (.slice a2 xs.length c2) xs.length (prs xs)) ∧ Hid (Below w.heap.size w wz)) (fun iv _ => xs.length - (intOf iv).toNat)
          case atStart => exact ⟨0, by omega, rfl, HW, HW2, B5⟩
          case round =>
            obtain ⟨k, hk, rfl, H1, H2, HB⟩ := hrel
            clear HW HW2 B5 B4
            have hcapk := H1.out.1
            by_cases hlt : k < xs.length
            · have hp : 0 < xs.length := by omega
              obtain ⟨f1, o1, d1', e1⟩ := H1.out.form hp
              obtain ⟨f2, o2, d2', e2⟩ := H2.out.form hp
              cases e1
              cases e2
              have g0 := (H1.out.cells (k * 2) (by omega)).trans (prs_get xs k hlt).1
              have g1 : _ = _ := (H1.out.cells (k * 2 + 1) (by omega)).trans (prs_get xs k hlt).2
              have g2 := (H2.out.cells (k * 2) (by omega)).trans (prs_get xs k hlt).1
              have g3 := (H2.out.cells (k * 2 + 1) (by omega)).trans (prs_get xs k hlt).2
              rw [← Nat.add_assoc] at g1 g3
              have l1 := (H1.out.lt f1 rfl).2
              have l2 := (H2.out.lt f2 rfl).2
              have hk0 : (0 : Int) ≤ (k : Int) := by omega
              have hk1 : (k : Int) < (xs.length : Int) := by omega
              have hb := H1.out.bound
              unfold maxLen at hb
              generalize (xs.getD k (0, 0)).1 = y1 at g0 g2
              generalize (xs.getD k (0, 0)).2 = y2 at g1 g3
              clear hcapk
              go_wp2_with fail
              refine wp_region_graft (by kernel_rfl) (by kernel_rfl) ?_
              repeat (go_big_quiet_step ((go_at_call 21; exact calls_graft (in_any _ _ _))))
              refine wpQuiet_nil ?_
              intro W hW
              have H3 := Lib.hid (H1.out.below hW)
              have H4 := Lib.hid (H2.out.below hW)
              have HB3 := Lib.hid (HB.out.trans (hW.mono HB.out.size))
              clear hW g0 g1 g2 g3
              go_wp2_with fail
              go_roundw
              case rel => exact ⟨k + 1, by omega, by go_num, H3, H4, HB3⟩
              case measure => simp [intOf]; omega
            · obtain rfl : k = xs.length := by omega
              go_wp2_with (go_at_call 12; refine (known_any _).mono ?_; rintro e w6 ⟨rfl, b6⟩)
              go_ret
              exact ⟨rfl, HB.out.trans (b6.mono HB.out.size)⟩
        · go_wp2_with fail
          refine (ar_live A3.out).mono ?_
          rintro e w4 ⟨v, rfl, hv, b4⟩
          have RF := Lib.hid (HS.out.rf.below b4)
          have B4 := Lib.hid (HS.out.bel.trans (b4.mono HS.out.bel.size))
          have HV := Lib.hid hv
          clear hv b4
          go_wp2_with fail
          refine (rlive_ar RF.out hpos.out).mono ?_
          rintro e w5 ⟨v2, rfl, hv2, b5⟩
          have B5 := Lib.hid (B4.out.trans (b5.mono B4.out.size))
          have HW := Lib.hid (HV.out.below b5)
          have HW2 := Lib.hid hv2
          clear hv2 b5 HV RF
          generalize handles s.sl = xs at *
          obtain ⟨a1, c1, rfl⟩ := HW.out.value
          obtain ⟨a2, c2, rfl⟩ := HW2.out.value
          go_wp2_with fail
          go_loopw [22] (fun iv wz => ∃ k : Nat, k ≤ xs.length ∧ iv = .int .i64 k ∧ Hid (Win wz wr.heap.size 30 2 (.slice a1 xs.length c1) xs.length (prs xs)) ∧ Hid (Win wz w4.heap.size 50 2 (.slice a2 xs.length c2) xs.length (prs xs)) ∧ Hid (Below w.heap.size w wz)) (fun iv _ => xs.length - (intOf iv).toNat)
          case atStart => exact ⟨0, by omega, rfl, HW, HW2, B5⟩
          case round =>
            obtain ⟨k, hk, rfl, H1, H2, HB⟩ := hrel
            clear HW HW2 B5 B4
            have hcapk := H1.out.1
            by_cases hlt : k < xs.length
            · have hp : 0 < xs.length := by omega
              obtain ⟨f1, o1, d1', e1⟩ := H1.out.form hp
              obtain ⟨f2, o2, d2', e2⟩ := H2.out.form hp
              cases e1
              cases e2
              have g0 := (H1.out.cells (k * 2) (by omega)).trans (prs_get xs k hlt).1
              have g1 : _ = _ := (H1.out.cells (k * 2 + 1) (by omega)).trans (prs_get xs k hlt).2
              have g2 := (H2.out.cells (k * 2) (by omega)).trans (prs_get xs k hlt).1
              have g3 := (H2.out.cells (k * 2 + 1) (by omega)).trans (prs_get xs k hlt).2
              rw [← Nat.add_assoc] at g1 g3
              have l1 := (H1.out.lt f1 rfl).2
              have l2 := (H2.out.lt f2 rfl).2
              have hk0 : (0 : Int) ≤ (k : Int) := by omega
              have hk1 : (k : Int) < (xs.length : Int) := by omega
              have hb := H1.out.bound
              unfold maxLen at hb
              generalize (xs.getD k (0, 0)).1 = y1 at g0 g2
              generalize (xs.getD k (0, 0)).2 = y2 at g1 g3
              clear hcapk
              go_wp2_with fail
              refine wp_region_graft (by kernel_rfl) (by kernel_rfl) ?_
              repeat (go_big_quiet_step ((go_at_call 21; exact calls_graft (in_any _ _ _))))
              refine wpQuiet_nil ?_
              intro W hW
              have H3 := Lib.hid (H1.out.below hW)
              have H4 := Lib.hid (H2.out.below hW)
              have HB3 := Lib.hid (HB.out.trans (hW.mono HB.out.size))
              clear hW g0 g1 g2 g3
              go_wp2_with fail
              go_roundw
              case rel => exact ⟨k + 1, by omega, by go_num, H3, H4, HB3⟩
              case measure => simp [intOf]; omega
            · obtain rfl : k = xs.length := by omega
              go_wp2_with (go_at_call 12; refine (known_any _).mono ?_; rintro e w6 ⟨rfl, b6⟩)
              go_ret
              exact ⟨rfl, HB.out.trans (b6.mono HB.out.size)⟩
end Go.Proofs.Ytpmolcbfjjibgaa
