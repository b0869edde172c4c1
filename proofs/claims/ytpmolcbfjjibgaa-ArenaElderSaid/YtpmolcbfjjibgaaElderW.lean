/- The walk of ArenaElder. -/
import Derived.Test.YtpmolcbfjjibgaaLive
import Derived.Test.YtpmolcbfjjibgaaElderI
import Derived.Deep.RegionLaw
import Derived.Deep.DeepMust
import Derived.Deep.CutRange
import Derived.Deep.DeepCutAuto
namespace Go.Proofs.Ytpmolcbfjjibgaa
open Go.RowKit

/-- A list of Booleans that came in. -/
def BRow (w : World) (a : Option Addr) (len : Nat) (f : Nat → Bool) : Prop := len = 0 ∨ ∃ b off, a = some ⟨b, off, none⟩ ∧ b < w.heap.size ∧ ∀ i, i < len → w.cell? ⟨b, off + i, none⟩ = some (.bool (f i))

theorem info2 : (Try.prog.info? 2).map (fun i => (i.zero, i.size, i.bytes)) = some (some (.int .i64 0), 1, 8) := by kernel_rfl

theorem win_tail {w : World} {B f o cap : Nat} {p : Nat × Int} {l : List (Nat × Int)} (h : Win w B 30 2 (.slice (some ⟨f, o, none⟩) (l.length + 1) cap) (l.length + 1) (prs (hp (p :: l)))) :
    Win w B 30 2 (.slice (some ⟨f, o + 2, none⟩) l.length (cap - 1)) l.length (prs (hp l)) := by
  have := h.cut 1 (by omega)
  simpa [hp, prs_cons] using this
theorem win_tail1 {w : World} {B f o : Nat} {p : Nat × Int} {l : List (Nat × Int)} (h : Win w B 30 2 (.slice (some ⟨f, o, none⟩) (l.length + 1) 1) (l.length + 1) (prs (hp (p :: l)))) :
    Win w B 30 2 (.slice (some ⟨f, o, none⟩) 0 0) l.length (prs (hp l)) := by
  have h1 := h.bound.1
  obtain rfl : l = [] := List.eq_nil_of_length_eq_zero (by omega)
  exact h.cutAll
theorem win_itail {w : World} {B f o cap : Nat} {z : Int} {l : List Int} (h : Win w B 2 1 (.slice (some ⟨f, o, none⟩) (l.length + 1) cap) (z :: l).length (ints (z :: l))) :
    Win w B 2 1 (.slice (some ⟨f, o + 1, none⟩) l.length (cap - 1)) l.length (ints l) := by
  have := Win.cut (n := l.length + 1) h 1 (by omega)
  simpa [ints] using this
theorem win_itail1 {w : World} {B f o : Nat} {z : Int} {l : List Int} (h : Win w B 2 1 (.slice (some ⟨f, o, none⟩) (l.length + 1) 1) (z :: l).length (ints (z :: l))) :
    Win w B 2 1 (.slice (some ⟨f, o, none⟩) 0 0) l.length (ints l) := by
  have h' : Win w B 2 1 (.slice (some ⟨f, o, none⟩) (l.length + 1) 1) (l.length + 1) (ints (z :: l)) := h
  have h1 := h'.bound.1
  obtain rfl : l = [] := List.eq_nil_of_length_eq_zero (by omega)
  exact h'.cutAll

set_option maxRecDepth 100000 in
set_option maxHeartbeats 4000000 in
theorem elder_any (n : Int) (a : Option Addr) (len cap : Nat) (f : Nat → Bool) (w : World) (hr : BRow w a len f) (hm : len ≤ 9223372036854775807) :
    Calls Try.prog 5 #[.int .i64 n, .slice a len cap] w fun e w' => e = .returned (.bool true) ∧ Below w.heap.size w w' := by
  obtain ⟨i30, hi, hz0, hz1, hz2⟩ := info_parts info30
  obtain ⟨i2, hj, hy0, hy1, hy2⟩ := info_parts info2
  go_enter Try.func5, Try.ntmps5
  go_wp2_with fail
  refine (within_any n 0 7 w (by omega) (by omega) (by omega)).mono ?_
  rintro e w0 ⟨rfl, rfl⟩
  obtain ⟨N, hN, hle⟩ : ∃ N : Nat, 0 + n % (7 - 0 + 1) = (N : Int) ∧ N ≤ 7 := ⟨(n % 8).toNat, by omega, by omega⟩
  rw [hN]
  clear hN
  go_wp2_with fail
  obtain ⟨M, hM, hM1, hM2⟩ : ∃ M : Nat, 1 + (N : Int) = (M : Int) ∧ 1 ≤ M ∧ M ≤ 8 := ⟨N + 1, by omega, by omega, by omega⟩
  rw [hM]
  clear hM hle
  refine (inv3_new M w (by omega) (by omega)).mono ?_
  rintro e w1 ⟨rfl, l, s0, i0⟩
  have I0 := Lib.hid i0
  clear i0
  go_wp2_with fail
  go_loopw [7, 8, 9, 10] (fun lv dv hv iv wr => ∃ i : Nat, ∃ live dead hold, i ≤ len ∧ i ≤ 100 ∧ iv = .int .i64 i ∧ dead.length ≤ i ∧ Hid (∃ l s, Inv3 (El M i live dead hold) w wr (w.heap.size + 1) lv live dv dead hv hold l s)) (fun _ _ _ iv _ => len - (intOf iv).toNat)
  case atStart => exact ⟨0, [], [], [], by omega, by omega, rfl, by simp, ⟨l, s0, I0.out⟩⟩
  case round =>
    obtain ⟨i, live, dead, hold, hil, hi100, rfl, hdl, ⟨l2, s2, hS⟩⟩ := hrel
    have HS := Lib.hid hS
    clear hS I0
    by_cases hlt : i < len ∧ i < 100
    · obtain ⟨hlt1, hlt2⟩ := hlt
      have h1 : (i : Int) < (len : Int) := by omega
      have h2 : (i : Int) < 100 := by omega
      have h0 : (0 : Int) ≤ (i : Int) := by omega
      rcases hr with e0 | ⟨bb, off, rfl, hbs, hcell⟩
      · omega
      · have hc : wr.cell? ⟨bb, off + i, none⟩ = some (.bool (f i)) := (HS.out.inv.bel.cell (p := ⟨bb, off + i, none⟩) hbs).trans (hcell i hlt1)
        obtain ⟨z, hz⟩ : ∃ z, f i = z := ⟨_, rfl⟩
        rw [hz] at hc
        clear hz hcell hbs
        go_upto_if 46 with fail
        go_cut [7, 8, 9] (fun lv dv hv wx => ∃ live dead hold, dead.length ≤ i + 1 ∧ Hid (∃ l s, Inv3 (El M (i + 1) live dead hold) w wx (w.heap.size + 1) lv live dv dead hv hold l s))
        case first =>
          have hE := HS.out.inv.law
          have hcount : live.length ≤ M := by have := hE.count; omega
          have hh1 : hold.length ≤ live.length := Nat.le_of_eq hE.hold_len
          have hh2 : live.length ≤ hold.length := Nat.le_of_eq hE.hold_len.symm
          clear hE
          cases z with
          | true =>
            obtain ⟨a7, c7, rfl⟩ := HS.out.lw.value
            by_cases hl : live.length < M
            · have hlB : decide ((live.length : Int) < (M : Int)) = true := by simp; omega
              go_wp2_with (first | (go_at_call 10; refine (inv3_take HS.out (by omega) hl _).mono ?_; rintro e w3 ⟨k, g, rfl, s3, i3⟩; have I3 := Lib.hid i3; clear i3) | (at_builtin; refine wpList_append_win _ rfl (.tmp 62) (.tmp 64) 28 rfl w.heap.size 30 i30 _ 2 16 Try.underlying28 hi hz0 hz1 hz2 rfl (by decide) (.slice a7 live.length c7) live.length (prs (hp live)) rfl ((I3.out.lw.alloc _).alloc _) ⟨w3.heap.size + 1, 0, none⟩ 1 1 [.int .i64 k, .int .i64 g] rfl rfl (by have := cells_two (w3.alloc (.cells #[.int .i64 k, .int .i64 g] 30)) (.int .i64 k) (.int .i64 g) 30; simpa only [World.size_alloc] using this) (by simp [Value.oneCell']) (by decide) (by unfold maxLen; omega) (by omega) (by have := I3.out.inv.bel.size; simp only [World.size_alloc]; omega) ?_; intro f' o' cap' w4 hown hgrow hat; have I4 := Lib.hid (((I3.out.alloc _).alloc _).push_live (p := (k, g)) hgrow hown hat); clear hown hgrow hat) | (at_builtin; refine wpList_append_win _ rfl (.tmp 66) (.tmp 68) 38 rfl w.heap.size 2 i2 _ 1 8 Try.underlying38 hj hy0 hy1 hy2 rfl (by decide) u9 hold.length (ints hold) rfl (I4.out.hw.alloc _) ⟨w4.heap.size, 0, none⟩ 1 1 [.int .i64 i] rfl rfl (cell_one_new _ _ _) (by simp [Value.oneCell']) (by decide) (by unfold maxLen; omega) (by omega) (by have := I4.out.inv.bel.size; simp only [World.size_alloc]; omega) ?_; intro f5 o5 cap5 w5 hown hgrow hat; have I5 := Lib.hid ((I4.out.alloc _).push_hold hgrow hown hat); clear hown hgrow hat))
              go_meet
              exact ⟨live ++ [(k, g)], dead, hold ++ [(i : Int)], by omega, ⟨_, _, I5.out⟩⟩
            · have hlB : decide ((live.length : Int) < (M : Int)) = false := by simp; omega
              go_wp2_with (first | (go_at_call 10; refine (inv3_full HS.out hl _).mono ?_; rintro e w3 ⟨rfl, i3⟩; have I3 := Lib.hid i3; clear i3))
              go_meet
              exact ⟨live, dead, hold, by omega, ⟨l2, s2, (I3.out.alloc _).turn (fun h => h.mono (by omega))⟩⟩
          | false =>
            obtain ⟨a7, c7, rfl⟩ := HS.out.lw.value
            cases live with
            | nil =>
              go_wp2_with fail
              go_meet
              exact ⟨[], dead, hold, by omega, ⟨l2, s2, HS.out.turn (fun h => h.mono (by omega))⟩⟩
            | cons p rest =>
              obtain ⟨k, g⟩ := p
              cases hold with
              | nil => simp at hh2
              | cons v0 hrest =>
                have hW := HS.out.lw
                have hV := HS.out.hw
                have hp7 : 0 < ((k, g) :: rest).length := by simp
                have hp9 : 0 < (v0 :: hrest).length := by simp
                obtain ⟨f7, o7, d7, e7⟩ := hW.form hp7
                obtain ⟨f9, o9, c9, rfl⟩ := hV.form hp9
                cases e7
                have hcap7 := hW.bound
                have hcap9 := hV.bound
                have hc0 : wr.cell? ⟨f7, o7, none⟩ = some (.int .i64 k) := by have := hW.cells 0 (by simp only [List.length_cons]; omega); simpa [hp, prs_cons] using this
                have hc1 : wr.cell? ⟨f7, o7 + 1, none⟩ = some (.int .i64 g) := by have := hW.cells 1 (by simp only [List.length_cons]; omega); simpa [hp, prs_cons] using this
                clear hW hV hp7 hp9
                simp only [List.length_cons, maxLen] at hcap7 hcap9 hcount hh1 hh2 ⊢
                have hgt : decide (((rest.length : Int) + 1) > 0) = true := decide_eq_true (by omega)
                have hi1 : i ≤ 1000 := by omega
                by_cases h71 : c7 = 1
                · subst h71
                  obtain rfl : rest = [] := List.eq_nil_of_length_eq_zero (by omega)
                  obtain rfl : hrest = [] := List.eq_nil_of_length_eq_zero (by simp only [List.length_nil] at hh1 hh2; omega)
                  by_cases h91 : c9 = 1
                  · subst h91
                    go_wp2_with (first | (go_at_call 11; refine (inv3_free HS.out hi1 (by omega)).mono ?_; rintro e w3 ⟨rfl, l3, s3, i3⟩; have I3 := Lib.hid i3; have e0 : w3.cell? ⟨f7, o7, none⟩ = some (.int .i64 k) := (by have := i3.lw.cells 0 (by simp only [List.length_cons]; omega); simpa [hp, prs_cons] using this); have e1 : w3.cell? ⟨f7, o7 + 1, none⟩ = some (.int .i64 g) := (by have := i3.lw.cells 1 (by simp only [List.length_cons]; omega); simpa [hp, prs_cons] using this); clear i3) | (at_builtin; refine wpList_append_win _ rfl (.tmp 79) (.tmp 83) 28 rfl w.heap.size 30 i30 _ 2 16 Try.underlying28 hi hz0 hz1 hz2 rfl (by decide) u8 dead.length (prs (hp dead)) rfl (I3.out.fw.alloc _) ⟨w3.heap.size, 0, none⟩ 1 1 [.int .i64 k, .int .i64 g] rfl rfl (cells_two _ _ _ _) (by simp [Value.oneCell']) (by decide) (by unfold maxLen; omega) (by omega) (by have := I3.out.inv.bel.size; simp only [World.size_alloc]; omega) ?_; intro f4 o4 cap4 w4 hown hgrow hat; have I4 := Lib.hid ((I3.out.alloc _).push_dead (p := (k, g)) hgrow hown hat); clear hown hgrow hat))
                    go_meet
                    exact ⟨[], dead ++ [(k, g)], [], by simp; omega, ⟨l3, s3, (I4.out.cut_live (win_tail1 I4.out.lw) rfl).cut_hold (win_itail1 I4.out.hw) rfl⟩⟩
                  · have hb9 : (c9 == 1) = false := by simpa using h91
                    go_wp2_with (first | (go_at_call 11; refine (inv3_free HS.out hi1 (by omega)).mono ?_; rintro e w3 ⟨rfl, l3, s3, i3⟩; have I3 := Lib.hid i3; have e0 : w3.cell? ⟨f7, o7, none⟩ = some (.int .i64 k) := (by have := i3.lw.cells 0 (by simp only [List.length_cons]; omega); simpa [hp, prs_cons] using this); have e1 : w3.cell? ⟨f7, o7 + 1, none⟩ = some (.int .i64 g) := (by have := i3.lw.cells 1 (by simp only [List.length_cons]; omega); simpa [hp, prs_cons] using this); clear i3) | (at_builtin; refine wpList_append_win _ rfl (.tmp 79) (.tmp 83) 28 rfl w.heap.size 30 i30 _ 2 16 Try.underlying28 hi hz0 hz1 hz2 rfl (by decide) u8 dead.length (prs (hp dead)) rfl (I3.out.fw.alloc _) ⟨w3.heap.size, 0, none⟩ 1 1 [.int .i64 k, .int .i64 g] rfl rfl (cells_two _ _ _ _) (by simp [Value.oneCell']) (by decide) (by unfold maxLen; omega) (by omega) (by have := I3.out.inv.bel.size; simp only [World.size_alloc]; omega) ?_; intro f4 o4 cap4 w4 hown hgrow hat; have I4 := Lib.hid ((I3.out.alloc _).push_dead (p := (k, g)) hgrow hown hat); clear hown hgrow hat))
                    go_meet
                    exact ⟨[], dead ++ [(k, g)], [], by simp; omega, ⟨l3, s3, (I4.out.cut_live (win_tail1 I4.out.lw) rfl).cut_hold (win_itail I4.out.hw) rfl⟩⟩
                · have hb7 : (c7 == 1) = false := by simpa using h71
                  by_cases h91 : c9 = 1
                  · subst h91
                    obtain rfl : hrest = [] := List.eq_nil_of_length_eq_zero (by omega)
                    obtain rfl : rest = [] := List.eq_nil_of_length_eq_zero (by simp only [List.length_nil] at hh1 hh2; omega)
                    go_wp2_with (first | (go_at_call 11; refine (inv3_free HS.out hi1 (by omega)).mono ?_; rintro e w3 ⟨rfl, l3, s3, i3⟩; have I3 := Lib.hid i3; have e0 : w3.cell? ⟨f7, o7, none⟩ = some (.int .i64 k) := (by have := i3.lw.cells 0 (by simp only [List.length_cons]; omega); simpa [hp, prs_cons] using this); have e1 : w3.cell? ⟨f7, o7 + 1, none⟩ = some (.int .i64 g) := (by have := i3.lw.cells 1 (by simp only [List.length_cons]; omega); simpa [hp, prs_cons] using this); clear i3) | (at_builtin; refine wpList_append_win _ rfl (.tmp 79) (.tmp 83) 28 rfl w.heap.size 30 i30 _ 2 16 Try.underlying28 hi hz0 hz1 hz2 rfl (by decide) u8 dead.length (prs (hp dead)) rfl (I3.out.fw.alloc _) ⟨w3.heap.size, 0, none⟩ 1 1 [.int .i64 k, .int .i64 g] rfl rfl (cells_two _ _ _ _) (by simp [Value.oneCell']) (by decide) (by unfold maxLen; omega) (by omega) (by have := I3.out.inv.bel.size; simp only [World.size_alloc]; omega) ?_; intro f4 o4 cap4 w4 hown hgrow hat; have I4 := Lib.hid ((I3.out.alloc _).push_dead (p := (k, g)) hgrow hown hat); clear hown hgrow hat))
                    go_meet
                    exact ⟨[], dead ++ [(k, g)], [], by simp; omega, ⟨l3, s3, (I4.out.cut_live (win_tail I4.out.lw) rfl).cut_hold (win_itail1 I4.out.hw) rfl⟩⟩
                  · have hb9 : (c9 == 1) = false := by simpa using h91
                    go_wp2_with (first | (go_at_call 11; refine (inv3_free HS.out hi1 (by omega)).mono ?_; rintro e w3 ⟨rfl, l3, s3, i3⟩; have I3 := Lib.hid i3; have e0 : w3.cell? ⟨f7, o7, none⟩ = some (.int .i64 k) := (by have := i3.lw.cells 0 (by simp only [List.length_cons]; omega); simpa [hp, prs_cons] using this); have e1 : w3.cell? ⟨f7, o7 + 1, none⟩ = some (.int .i64 g) := (by have := i3.lw.cells 1 (by simp only [List.length_cons]; omega); simpa [hp, prs_cons] using this); clear i3) | (at_builtin; refine wpList_append_win _ rfl (.tmp 79) (.tmp 83) 28 rfl w.heap.size 30 i30 _ 2 16 Try.underlying28 hi hz0 hz1 hz2 rfl (by decide) u8 dead.length (prs (hp dead)) rfl (I3.out.fw.alloc _) ⟨w3.heap.size, 0, none⟩ 1 1 [.int .i64 k, .int .i64 g] rfl rfl (cells_two _ _ _ _) (by simp [Value.oneCell']) (by decide) (by unfold maxLen; omega) (by omega) (by have := I3.out.inv.bel.size; simp only [World.size_alloc]; omega) ?_; intro f4 o4 cap4 w4 hown hgrow hat; have I4 := Lib.hid ((I3.out.alloc _).push_dead (p := (k, g)) hgrow hown hat); clear hown hgrow hat))
                    go_meet
                    exact ⟨rest, dead ++ [(k, g)], hrest, by simp; omega, ⟨l3, s3, (I4.out.cut_live (win_tail I4.out.lw) rfl).cut_hold (win_itail I4.out.hw) rfl⟩⟩
        case rest =>
          obtain ⟨live, dead, hold, hdl, ⟨l2, s2, hS⟩⟩ := hcut
          have HS := Lib.hid hS
          clear hS
          have hE := HS.out.inv.law
          have hcount : live.length ≤ M := by have := hE.count; omega
          have hh1 : hold.length ≤ live.length := Nat.le_of_eq hE.hold_len
          have hh2 : live.length ≤ hold.length := Nat.le_of_eq hE.hold_len.symm
          clear hE
          obtain ⟨a7, c7, rfl⟩ := HS.out.lw.value
          obtain ⟨a8, c8, rfl⟩ := HS.out.fw.value
          obtain ⟨a9, c9, rfl⟩ := HS.out.hw.value
          go_wp2_with fail
          go_loopw [13] (fun iv wr => ∃ q : Nat, q ≤ dead.length ∧ iv = .int .i64 q ∧ Hid (∃ s, Inv3 (El M (i + 1) live dead hold) w wr (w.heap.size + 1) (.slice a7 live.length c7) live (.slice a8 dead.length c8) dead (.slice a9 hold.length c9) hold l2 s)) (fun iv _ => dead.length - (intOf iv).toNat)
          case atStart => exact ⟨0, by omega, rfl, ⟨s2, HS.out⟩⟩
          case round =>
            obtain ⟨q, hq, rfl, ⟨s4, hS4⟩⟩ := hrel
            have H4 := Lib.hid hS4
            clear hS4
            by_cases hlq : q < dead.length
            · have hfw := H4.out.fw
              have hp8 : 0 < dead.length := by omega
              obtain ⟨f8, o8, d8, e8⟩ := hfw.form hp8
              cases e8
              have hg := prs_get (hp dead) q (by rw [hp_length]; exact hlq)
              rw [hp_get _ _ hlq] at hg
              obtain ⟨k, g, hkg⟩ : ∃ k g, dead.getD q (0, 0) = (k, g) := ⟨_, _, rfl⟩
              rw [hkg] at hg
              have HK := Lib.hid hkg
              have hc0 := (hfw.cells (q * 2) (by omega)).trans hg.1
              have hc1 := (hfw.cells (q * 2 + 1) (by omega)).trans hg.2
              have hc1' : wr.cell? ⟨f8, o8 + q * 2 + 1, none⟩ = some (.int .i64 g) := hc1
              have hq1 : (q : Int) < (dead.length : Int) := by omega
              have hq0 : (0 : Int) ≤ (q : Int) := by omega
              clear hfw hg hkg hc1
              go_wp2_with (first | (go_at_call 14; refine (inv3_gone H4.out q hlq k g HK.out).mono ?_; rintro e w5 ⟨rfl, s5, i5⟩; have I5 := Lib.hid i5; clear i5))
              go_roundw
              case rel => exact ⟨q + 1, by omega, by go_num, ⟨s5, I5.out⟩⟩
              case measure => simp [intOf]; omega
            · obtain rfl : q = dead.length := by omega
              clear hq hlq HS
              go_wp2_with fail
              go_loopw [16] (fun iv wr => ∃ q : Nat, q ≤ live.length ∧ iv = .int .i64 q ∧ Hid (Inv3 (El M (i + 1) live dead hold) w wr (w.heap.size + 1) (.slice a7 live.length c7) live (.slice a8 dead.length c8) dead (.slice a9 hold.length c9) hold l2 s4)) (fun iv _ => live.length - (intOf iv).toNat)
              case atStart => exact ⟨0, by omega, rfl, H4⟩
              case round =>
                obtain ⟨q, hq, rfl, H5⟩ := hrel
                clear H4
                by_cases hlq : q < live.length
                · have hlw := H5.out.lw
                  have hhw := H5.out.hw
                  have hp7 : 0 < live.length := by omega
                  have hp9 : 0 < hold.length := by omega
                  obtain ⟨f7, o7, d7, e7⟩ := hlw.form hp7
                  obtain ⟨f9, o9, d9, e9⟩ := hhw.form hp9
                  cases e7
                  cases e9
                  have hg := prs_get (hp live) q (by rw [hp_length]; exact hlq)
                  rw [hp_get _ _ hlq] at hg
                  obtain ⟨k, g, hkg⟩ : ∃ k g, live.getD q (0, 0) = (k, g) := ⟨_, _, rfl⟩
                  rw [hkg] at hg
                  have HK := Lib.hid hkg
                  have hc0 := (hlw.cells (q * 2) (by omega)).trans hg.1
                  have hc1 : wr.cell? ⟨f7, o7 + q * 2 + 1, none⟩ = some (.int .i64 g) := (hlw.cells (q * 2 + 1) (by omega)).trans hg.2
                  have hq1 : (q : Int) < (live.length : Int) := by omega
                  have hq2 : (q : Int) < (hold.length : Int) := by omega
                  have hq0 : (0 : Int) ≤ (q : Int) := by omega
                  clear hlw hhw hg hkg
                  go_wp2_with (first | (go_at_call 14; refine (inv3_get H5.out q hlq k g HK.out).mono ?_; rintro e w5 ⟨rfl, i5⟩; have I5 := Lib.hid i5; have e9 : w5.cell? ⟨f9, o9 + q, none⟩ = some (.int .i64 (hold.getD q 0)) := (by have := i5.hw.cells q (by omega); rw [this]; simp [ints, show q < hold.length from by omega]); clear i5))
                  go_roundw
                  case rel => exact ⟨q + 1, by omega, by go_num, I5⟩
                  case measure => simp [intOf]; omega
                · obtain rfl : q = live.length := by omega
                  go_wp2_with fail
                  go_roundw
                  case rel => exact ⟨i + 1, live, dead, hold, by omega, by omega, by go_num, hdl, ⟨l2, s4, H5.out⟩⟩
                  case measure => simp [intOf]; omega
    · have hE := HS.out.inv.law
      have HL := Lib.hid hE.handles
      have HC := Lib.hid hE.count
      have hle : (live.length : Int) ≤ M := by have := hE.count; omega
      have hl0 : (0 : Int) ≤ live.length := by omega
      have hM8 : (M : Int) ≤ 8 := by omega
      have hfr : ((s2.free.length : Int) == (M : Int) - (live.length : Int)) = true := by have := hE.count; simp; omega
      clear hE
      have A2 := Lib.hid HS.out.inv.ar
      have B2 := Lib.hid HS.out.inv.bel
      obtain ⟨a7, c7, rfl⟩ := HS.out.lw.value
      clear HS
      by_cases h1 : (i : Int) < (len : Int)
      · have h2 : ¬ (i : Int) < 100 := by omega
        go_wp2_with (first | (go_at_call 13; refine (ar_live A2.out).mono ?_; rintro e w3 ⟨v3, rfl, hv3, b3⟩; obtain ⟨a3, c3, rfl⟩ := hv3.value; rw [HL.out]; have A3 := Lib.hid (A2.out.below b3); have B3 := Lib.hid (B2.out.trans (b3.mono B2.out.size)); clear hv3 b3) | (go_at_call 15; refine (ar_left A3.out).mono ?_; rintro e w4 ⟨rfl, rfl⟩) | (go_at_call 12; refine (known_any _).mono ?_; rintro e w4 ⟨rfl, b4⟩))
        go_ret
        exact ⟨rfl, B3.out.trans (b4.mono B3.out.size)⟩
      · go_wp2_with (first | (go_at_call 13; refine (ar_live A2.out).mono ?_; rintro e w3 ⟨v3, rfl, hv3, b3⟩; obtain ⟨a3, c3, rfl⟩ := hv3.value; rw [HL.out]; have A3 := Lib.hid (A2.out.below b3); have B3 := Lib.hid (B2.out.trans (b3.mono B2.out.size)); clear hv3 b3) | (go_at_call 15; refine (ar_left A3.out).mono ?_; rintro e w4 ⟨rfl, rfl⟩) | (go_at_call 12; refine (known_any _).mono ?_; rintro e w4 ⟨rfl, b4⟩))
        go_ret
        exact ⟨rfl, B3.out.trans (b4.mono B3.out.size)⟩
end Go.Proofs.Ytpmolcbfjjibgaa
