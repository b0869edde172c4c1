/- Chapter 3's arena as the document has it: New, Live; its calls, the inner blocks unnamed. -/
import Derived.Test.YtpmolcbfjjibgaaRef3
import Derived.Test.YtpmolcbfjjibgaaLive
namespace Go.Proofs.Ytpmolcbfjjibgaa
open Go.RowKit

theorem info2' : (Try.prog.info? 2).map (fun i => (i.zero, i.size, i.bytes)) = some (some (.int .i64 0), 1, 8) := by kernel_rfl
theorem info50 : (Try.prog.info? 50).map (fun i => (i.zero, i.size, i.bytes)) = some (some (.agg #[.int .i64 0, .int .i64 0]), 2, 16) := by kernel_rfl
theorem made_ints (n : Nat) : madeCells (Value.int .i64 0).cells (n * 1) = gens (List.replicate n (0, 0)) := by
  apply Array.ext_getElem?
  intro i
  have e : (Value.int .i64 0).cells = #[Value.int .i64 0] := by simp [Value.cells]
  simp only [madeCells, Array.getElem?_map, e, gens, List.map_replicate, List.getElem?_toArray, List.getElem?_replicate]
  by_cases h : i < n
  · have : i % 1 = 0 := by omega
    simp [h, this]
  · simp [h]
theorem make_ints (n : Nat) (hn : n ≤ 64) (w : World) :
    (Instr.makeSlice 38 (.int .i64 (n : Int)) (.int .i64 (n : Int))).run Try.prog w = .ok (.slice (some ⟨w.heap.size, 0, none⟩) n n) (w.alloc (.cells (gens (List.replicate n (0, 0))) 2)) := by
  obtain ⟨i, hi, hz, hs, hb⟩ := info_parts info2'
  have hr := run_make (P := Try.prog) w 38 2 i _ Try.underlying38 hi hz .i64 .i64 n n (by omega) (Int.le_refl _) (by rw [hb]; omega) (by omega)
  simp only [Int.toNat_natCast, hs, made_ints] at hr
  exact hr
theorem gens_vals (n : Nat) : vals (List.replicate n (0, 0)) = gens (List.replicate n (0, 0)) := by simp [vals, gens]

theorem rnew_start1 (w : World) (n : Nat) (hn : n ≤ 64) (t x : TypeId) :
    IsRf (((w.alloc (.cells (gens (List.replicate n (0, 0))) t)).alloc (.cells (gens (List.replicate n (0, 0))) t)).alloc (.cells #[.slice (some ⟨w.heap.size, 0, none⟩) n n, .slice (some ⟨w.heap.size + 1, 0, none⟩) n n, .slice none 0 0, .int .i64 0] x)) w.heap.size (w.heap.size + 2) w.heap.size (w.heap.size + 1) (.slice none 0 0) (AS.new n 0) := by
  refine ⟨?_, ?_, ?_, ?_, by omega, by omega, by omega, by simp [Value.ownBlock], by simp [Value.ownBlock], by simp [Value.ownBlock], by simpa [AS.new] using hn, by omega, by omega, by omega⟩
  · have := Holds.new ((w.alloc (.cells (gens (List.replicate n (0, 0))) t)).alloc (.cells (gens (List.replicate n (0, 0))) t)) #[.slice (some ⟨w.heap.size, 0, none⟩) n n, .slice (some ⟨w.heap.size + 1, 0, none⟩) n n, .slice none 0 0, .int .i64 0] x
    simp only [World.size_alloc] at this
    simpa [AS.rcells, AS.new] using this
  · exact ((Holds.new w (gens (List.replicate n (0, 0))) t).alloc _).alloc _
  · have := (Holds.new (w.alloc (.cells (gens (List.replicate n (0, 0))) t)) (gens (List.replicate n (0, 0))) t).alloc (.cells #[.slice (some ⟨w.heap.size, 0, none⟩) n n, .slice (some ⟨w.heap.size + 1, 0, none⟩) n n, .slice none 0 0, .int .i64 0] x)
    simp only [World.size_alloc] at this
    simpa only [AS.new, gens_vals] using this
  · exact Win.nil _ _ _ _
theorem rnew_start2 (w : World) (n : Nat) (hn : n ≤ 64) (t x : TypeId) :
    IsRf (((w.alloc (.cells (gens (List.replicate n (0, 0))) t)).alloc (.cells (gens (List.replicate n (0, 0))) t)).alloc (.cells #[.slice (some ⟨w.heap.size + 1, 0, none⟩) n n, .slice (some ⟨w.heap.size, 0, none⟩) n n, .slice none 0 0, .int .i64 0] x)) w.heap.size (w.heap.size + 2) (w.heap.size + 1) w.heap.size (.slice none 0 0) (AS.new n 0) := by
  refine ⟨?_, ?_, ?_, ?_, by omega, by omega, by omega, by simp [Value.ownBlock], by simp [Value.ownBlock], by simp [Value.ownBlock], by simpa [AS.new] using hn, by omega, by omega, by omega⟩
  · have := Holds.new ((w.alloc (.cells (gens (List.replicate n (0, 0))) t)).alloc (.cells (gens (List.replicate n (0, 0))) t)) #[.slice (some ⟨w.heap.size + 1, 0, none⟩) n n, .slice (some ⟨w.heap.size, 0, none⟩) n n, .slice none 0 0, .int .i64 0] x
    simp only [World.size_alloc] at this
    simpa [AS.rcells, AS.new] using this
  · have := (Holds.new (w.alloc (.cells (gens (List.replicate n (0, 0))) t)) (gens (List.replicate n (0, 0))) t).alloc (.cells #[.slice (some ⟨w.heap.size + 1, 0, none⟩) n n, .slice (some ⟨w.heap.size, 0, none⟩) n n, .slice none 0 0, .int .i64 0] x)
    simp only [World.size_alloc] at this
    exact this
  · have := ((Holds.new w (gens (List.replicate n (0, 0))) t).alloc (.cells (gens (List.replicate n (0, 0))) t)).alloc (.cells #[.slice (some ⟨w.heap.size + 1, 0, none⟩) n n, .slice (some ⟨w.heap.size, 0, none⟩) n n, .slice none 0 0, .int .i64 0] x)
    simpa only [AS.new, gens_vals] using this
  · exact Win.nil _ _ _ _

set_option maxHeartbeats 1000000 in
theorem rnew_any (n : Nat) (w : World) (h2 : n ≤ 64) :
    Calls Try.prog 19 #[.int .i64 n] w fun e w' => e = .returned (.pointer (some ⟨w.heap.size + 2, 0, none⟩)) ∧ (∃ gc vc tv, IsRf w' w.heap.size (w.heap.size + 2) gc vc tv (AS.new n n)) ∧ Below w.heap.size w w' := by
  have hmk := make_ints n h2
  obtain ⟨i0, hi, hz0, hz1, hz2⟩ := info_parts info3
  go_enter Try.func19, Try.ntmps19
  go_wp2_with fail
  go_region_law (fail)
  all_goals
    go_wp2_with fail
    go_loopw [4] (fun iv wr => ∃ k : Nat, k ≤ n ∧ iv = .int .i64 k ∧ Hid (∃ gc vc tv, IsRf wr w.heap.size (w.heap.size + 1 + 1) gc vc tv (AS.new n k)) ∧ Hid (Below w.heap.size w wr)) (fun iv _ => n - (intOf iv).toNat)
    case atStart =>
      refine ⟨0, by omega, rfl, ?_, Lib.hid ((((Below.refl _ w).alloc (Nat.le_refl _) _).alloc (by simp) _).alloc (by simp; omega) _).drew⟩
      first | exact ⟨_, _, _, (rnew_start1 w n h2 2 59).drew⟩ | exact ⟨_, _, _, (rnew_start2 w n h2 2 59).drew⟩
    case round =>
      obtain ⟨k, hk, rfl, ⟨gc, vc, tv, hS⟩, HB⟩ := hrel
      have HS := Lib.hid hS
      have c1 : wr.cell? ⟨w.heap.size + 1 + 1, 2, none⟩ = some tv := by rw [hS.hb.cell 2]; rfl
      have z1 := hS.hb.free 2
      have hl := hS.hb.lt
      have hne := Lib.hid hS.fb
      clear hS
      by_cases hlt : k < n
      · go_wp2_with (at_builtin; go_loud (refine wpList_append_win _ rfl (.tmp 20) (.tmp 22) 22 rfl w.heap.size 3 i0 (.int .i64 0) 1 8 Try.underlying22 hi hz0 hz1 hz2 rfl (by decide) tv k (nats (List.range k)) rfl ((by simpa [AS.new] using HS.out.hf : Win wr w.heap.size 3 1 tv k (nats (List.range k))).alloc _) ⟨wr.heap.size, 0, none⟩ 1 1 [.int .i64 k] rfl rfl (cell_one_new _ _ _) (by simp [Value.oneCell']) (by decide) (by unfold maxLen; omega) (by omega) (by have := HB.out.size; simp; omega) ?_); intro f o' cap w3 hown hgrow hat; have e3 : w3.cell? ⟨w.heap.size + 1 + 1, 2, none⟩ = some tv := (grown_cell hgrow (by simp only [World.size_alloc]; omega) hne.out 2).trans ((cell_ad wr _ 2 hl).trans c1); have e5 : w3.frozen? ⟨w.heap.size + 1 + 1, 2, none⟩ = false := (grown_frozen hgrow (by simp only [World.size_alloc]; omega) hne.out 2).trans ((frozen_ad wr _ 2 hl).trans z1))
        have hA : ∀ o, IsRf (wr.alloc o) w.heap.size (w.heap.size + 1 + 1) gc vc tv (AS.new n k) := fun o => HS.out.below ((Below.refl _ _).alloc (Nat.le_refl _) o)
        have st := rpush (k := k) (hA _) hgrow (by simpa [AS.new] using hown) hat
        have B3 : Below w.heap.size w (w3.setCell ⟨w.heap.size + 1 + 1, 2, none⟩ (.slice (some ⟨f, o', none⟩) (k + 1) cap)) := by
          have g1 : Below w.heap.size w w3 := (HB.out.alloc HB.out.size _).trans ((Frm.of_grown (l := tv.ownBlock.toList) hgrow (fun k hk _ => by simp [hk])).below (by have := HB.out.size; simp; omega) (fun j hj => (HS.out.hf.lt j (by simpa using hj)).1))
          exact g1.trans (((Frm.refl [w.heap.size + 1 + 1] w3).setCell (by simp) _).below (by have := g1.size; omega) (by simp; omega))
        go_roundw
        case rel =>
          have e1 : (AS.new n k).free.length = k := by simp [AS.new]
          rw [e1] at st
          have e2 : ({ AS.new n k with free := (AS.new n k).free ++ [k] } : AS) = AS.new n (k + 1) := by simp [AS.new, List.range_succ]
          rw [e2] at st
          exact ⟨k + 1, by omega, by go_num, Lib.hid ⟨gc, vc, _, st⟩, Lib.hid B3⟩
        case measure => simp [intOf]; omega
      · obtain rfl : k = n := by omega
        go_wp2_with fail
        go_ret
        exact ⟨rfl, ⟨gc, vc, tv, HS.out⟩, HB.out⟩

set_option maxHeartbeats 1000000 in
theorem rlive_any (base b gc vc : Nat) (tv : Value) (s : AS) (w : World) (h : IsRf w base b gc vc tv s) (hpos : ∀ j, j < s.sl.length → 0 ≤ (s.sl.getD j (0, 0)).1) :
    Calls Try.prog 25 #[.pointer (some ⟨b, 0, none⟩)] w fun e w' => ∃ v, e = .returned v ∧ Win w' w.heap.size 50 2 v (handles s.sl).length (prs (handles s.sl)) ∧ Below w.heap.size w w' := by
  obtain ⟨i0, hi, hz0, hz1, hz2⟩ := info_parts info50
  have H := Lib.hid h
  have P := Lib.hid hpos
  have L := Lib.hid h.le
  have hLe : s.sl.length ≤ 64 := h.le
  clear h hpos
  go_enter Try.func25, Try.ntmps25
  go_wp2_with fail
  go_loopw [3, 4] (fun v iv wr => ∃ k : Nat, k ≤ s.sl.length ∧ iv = .int .i64 k ∧ Hid (Win wr w.heap.size 50 2 v (told s.sl k).length (prs (hp (told s.sl k)))) ∧ Hid (Below w.heap.size w wr)) (fun _ iv _ => s.sl.length - (intOf iv).toNat)
  case atStart => exact ⟨0, by omega, rfl, Lib.hid (Win.nil _ _ _ _), Lib.hid (Below.refl _ _)⟩
  case round =>
    obtain ⟨k, hk, rfl, HW, HB⟩ := hrel
    have R := Lib.hid (H.out.below (w' := wr) (HB.out))
    have h1 := R.out.hb.1
    simp only [AS.rcells] at h1
    by_cases hlt : k < s.sl.length
    · have hg := (R.out.hg.cell k).trans (gens_get s.sl k hlt)
      have h0 := P.out k hlt
      obtain ⟨g, eg⟩ : ∃ g, (s.sl.getD k (0, 0)).1 = g := ⟨_, rfl⟩
      rw [eg] at hg h0
      have EG := Lib.hid eg
      clear eg
      have hk0 : (0 : Int) ≤ (k : Int) := by omega
      have hk1 : (k : Int) < (s.sl.length : Int) := by omega
      by_cases ho : g % 2 = 1
      · have ht : (Int.tmod g 2 == 1) = true := by rw [Int.tmod_eq_emod_of_nonneg h0, ho]; rfl
        have hL := Lib.hid (told_length s.sl k)
        have HO := Lib.hid ho
        clear ho h0
        go_wp2_with (at_builtin; go_loud (refine wpList_append_win _ rfl (.tmp 23) (.tmp 33) 60 rfl w.heap.size 50 i0 _ 2 16 Try.underlying60 hi hz0 hz1 hz2 rfl (by decide) u3 (told s.sl k).length (prs (hp (told s.sl k))) rfl (HW.out.alloc _) ⟨wr.heap.size, 0, none⟩ 1 1 [.int .i64 k, .int .i64 g] rfl rfl (cells_two _ _ _ _) (by simp [Value.oneCell']) (by decide) (by have := hL.out; have := L.out; unfold maxLen; omega) (by have := hL.out; have := L.out; omega) (by have := HB.out.size; simp; omega) ?_); intro f o' cap w3 hown hgrow hat)
        have B3 : Below w.heap.size w w3 := (HB.out.alloc HB.out.size _).trans ((Frm.of_grown (l := u3.ownBlock.toList) hgrow (fun k hk _ => by simp [hk])).below (by have := HB.out.size; simp; omega) (fun j hj => (HW.out.lt j (by simpa using hj)).1))
        go_roundw
        case rel =>
          refine ⟨k + 1, by omega, by go_num, ?_, Lib.hid B3⟩
          rw [told_odd (by rw [EG.out]; exact HO.out), EG.out]
          refine Lib.hid ?_
          simpa [hp, prs, pairs] using hown
        case measure => simp [intOf]; omega
      · have ht : (Int.tmod g 2 == 1) = false := by rw [Int.tmod_eq_emod_of_nonneg h0]; simpa using ho
        have HO := Lib.hid ho
        clear ho h0
        go_wp2_with fail
        go_roundw
        case rel => exact ⟨k + 1, by omega, by go_num, by rw [told_even (by rw [EG.out]; exact HO.out)]; exact HW, HB⟩
        case measure => simp [intOf]; omega
    · obtain rfl : k = s.sl.length := by omega
      go_wp2_with fail
      go_ret
      refine ⟨_, rfl, ?_, HB.out⟩
      rw [← hp_told, hp_length]
      exact HW.out
end Go.Proofs.Ytpmolcbfjjibgaa
