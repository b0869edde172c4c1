/- Chapter 3's arena: making one; its calls, the inner blocks unnamed. -/
import Derived.Test.YtpmolcbfjjibgaaOps
import Derived.Deep.DeepMust
namespace Go.Proofs.Ytpmolcbfjjibgaa
open Go.RowKit

theorem pairs_zero : ∀ n : Nat, pairs (List.replicate n (0, 0)) = (List.replicate (n * 2) (Value.int .i64 0)).toArray
  | 0 => rfl
  | n + 1 => by
    apply Array.toList_inj.1
    rw [List.replicate_succ, pairs_cons, pairs_zero n, Nat.succ_mul, List.replicate_succ, List.replicate_succ]
theorem made_pairs (n : Nat) : madeCells (Value.agg #[.int .i64 0, .int .i64 0]).cells (n * 2) = pairs (List.replicate n (0, 0)) := by
  rw [pairs_zero]
  apply Array.ext_getElem?
  intro i
  simp only [madeCells, Array.getElem?_map, List.getElem?_toArray, List.getElem?_replicate]
  by_cases h : i < n * 2
  · have e : (Value.agg #[Value.int .i64 0, Value.int .i64 0]).cells = #[Value.int .i64 0, Value.int .i64 0] := by simp [Value.cells]
    rw [if_pos h, e]
    have : i % 2 = 0 ∨ i % 2 = 1 := by omega
    rcases this with h2 | h2 <;> simp [h, h2]
  · rw [if_neg h]
    simp [h]
theorem make_slots (n : Nat) (hn : n ≤ 64) (w : World) :
    (Instr.makeSlice 63 (.int .i64 (n : Int)) (.int .i64 (n : Int))).run Try.prog w = .ok (.slice (some ⟨w.heap.size, 0, none⟩) n n) (w.alloc (.cells (pairs (List.replicate n (0, 0))) 68)) := by
  obtain ⟨i, hi, hz, hs, hb⟩ := info_parts info68
  have hr := run_make (P := Try.prog) w 63 68 i _ Try.underlying63 hi hz .i64 .i64 n n (by omega) (Int.le_refl _) (by rw [hb]; omega) (by omega)
  simp only [Int.toNat_natCast, hs, made_pairs] at hr
  exact hr

def AS.new (n : Nat) (k : Nat) : AS := { sl := List.replicate n (0, 0), free := List.range k, stale := 0 }

theorem new_no (n : Int) (w : World) (h : n < 1 ∨ 64 < n) :
    Calls Try.prog 9 #[.int .i64 n] w fun e w' => e = .returned (.tuple #[.pointer none, .int .i64 1]) ∧ w = w' := by
  rcases h with h | h
  · have hd : decide (n < 1) = true := by simpa using h
    go_enter Try.func9, Try.ntmps9
    go_wp2
    go_ret2
    exact ⟨rfl, rfl⟩
  · have hd : decide (n < 1) = false := by simp; omega
    have hd2 : decide (n > 64) = true := by simp; omega
    go_enter Try.func9, Try.ntmps9
    go_wp2
    go_ret2
    exact ⟨rfl, rfl⟩

theorem new_start (w : World) (n : Nat) (hn : n ≤ 64) (t : TypeId) (x : TypeId) :
    IsAr ((w.alloc (.cells (pairs (List.replicate n (0, 0))) t)).alloc (.cells #[.slice (some ⟨w.heap.size, 0, none⟩) n n, .slice none 0 0, .int .i64 0] x)) w.heap.size (w.heap.size + 1) w.heap.size (.slice none 0 0) (AS.new n 0) := by
  refine ⟨?_, ?_, ?_, by omega, by simp [Value.ownBlock], by simp [Value.ownBlock], by simpa [AS.new] using hn, by omega, by omega⟩
  · have := Holds.new (w.alloc (.cells (pairs (List.replicate n (0, 0))) t)) #[.slice (some ⟨w.heap.size, 0, none⟩) n n, .slice none 0 0, .int .i64 0] x
    rw [World.size_alloc] at this
    simpa [AS.cells, AS.new] using this
  · exact (Holds.new w (pairs (List.replicate n (0, 0))) t).alloc _
  · exact Win.nil _ _ _ _

theorem new_step {w wr W w3 : World} {n k : Nat} {fv : Value} {f o cap : Nat} (h : IsAr wr w.heap.size (w.heap.size + 1) w.heap.size fv (AS.new n k)) (hB : Below w.heap.size w wr)
    (hW : Below wr.heap.size wr W) (hown : Win w3 w.heap.size 3 1 (.slice (some ⟨f, o, none⟩) (k + 1) cap) (k + 1) (nats (List.range k) ++ [.int .i64 (k : Int)])) (hgrow : W.grownBy w3 fv.ownBlock) (hat : fv.ownBlock = some f ∨ W.heap.size ≤ f) :
    (∃ fv', IsAr (w3.setCell ⟨w.heap.size + 1, 1, none⟩ (.slice (some ⟨f, o, none⟩) (k + 1) cap)) w.heap.size (w.heap.size + 1) w.heap.size fv' (AS.new n (k + 1))) ∧ Below w.heap.size w (w3.setCell ⟨w.heap.size + 1, 1, none⟩ (.slice (some ⟨f, o, none⟩) (k + 1) cap)) := by
  have hWs := hW.size
  have hlb := h.hb.lt
  have g2 : Frm fv.ownBlock.toList wr w3 := (Frm.of_below hW).trans (Frm.of_grown hgrow (fun k hk _ => by simp [hk]))
  have hB3 := h.hb.frm g2 (by simpa using h.fb)
  have hC3 := h.hc.frm g2 (by simpa using h.fc)
  have hfb : f ≠ w.heap.size + 1 := by
    rintro rfl
    rcases hat with e | e
    · exact h.fb e
    · omega
  have hfc : f ≠ w.heap.size := by
    rintro rfl
    rcases hat with e | e
    · exact h.fc e
    · omega
  refine ⟨⟨.slice (some ⟨f, o, none⟩) (k + 1) cap, ?_, ?_, ?_, h.bc, by simpa [Value.ownBlock] using hfb, by simpa [Value.ownBlock] using hfc, h.le, h.b0, h.c0⟩, ?_⟩
  · have := hB3.set 1 (.slice (some ⟨f, o, none⟩) (k + 1) cap) (by simp [AS.cells])
    simpa [AS.cells, AS.new] using this
  · exact hC3.other (a := ⟨w.heap.size + 1, 1, none⟩) (by simp) _
  · have := hown.frm (l := [w.heap.size + 1]) ((Frm.refl _ _).setCell (p := ⟨w.heap.size + 1, 1, none⟩) (by simp) (.slice (some ⟨f, o, none⟩) (k + 1) cap)) (by
      intro j hj e
      simp at hj
      subst hj
      exact hfb (by simpa [Value.ownBlock] using e))
    simpa [AS.new, nats, List.range_succ] using this
  · have g3 : Below w.heap.size wr w3 := g2.below hB.size (fun j hj => (h.hf.lt j (by simpa using hj)).1)
    exact (hB.trans g3).trans (((Frm.refl [w.heap.size + 1] w3).setCell (by simp) _).below (by have := g2.size; have := hB.size; omega) (by simp))

set_option maxHeartbeats 1000000 in
theorem new_yes (n : Nat) (w : World) (h1 : 1 ≤ n) (h2 : n ≤ 64) :
    Calls Try.prog 9 #[.int .i64 n] w fun e w' => e = .returned (.tuple #[.pointer (some ⟨w.heap.size + 1, 0, none⟩), .int .i64 0]) ∧ (∃ fv, IsAr w' w.heap.size (w.heap.size + 1) w.heap.size fv (AS.new n n)) ∧ Below w.heap.size w w' := by
  have hd : decide ((n : Int) < 1) = false := by simp; omega
  have hd2 : decide ((n : Int) > 64) = false := by simp; omega
  have hmk := make_slots n h2
  obtain ⟨i0, hi, hz0, hz1, hz2⟩ := info_parts info3
  go_enter Try.func9, Try.ntmps9
  go_wp2_with fail
  go_loopw [17] (fun iv wr => ∃ k : Nat, k ≤ n ∧ iv = .int .i64 k ∧ Hid (∃ fv, IsAr wr w.heap.size (w.heap.size + 1) w.heap.size fv (AS.new n k)) ∧ Below w.heap.size w wr) (fun iv _ => n - (intOf iv).toNat)
  case atStart => exact ⟨0, by omega, rfl, ⟨_, new_start w n h2 68 65⟩, ((Below.refl _ w).alloc (Nat.le_refl _) _).alloc (by simp) _⟩
  case round =>
    obtain ⟨k, hk, rfl, ⟨fv, hS⟩, hB⟩ := hrel
    have HS := Lib.hid hS
    have c1 : wr.cell? ⟨w.heap.size + 1, 1, none⟩ = some fv := by rw [hS.hb.cell 1]; rfl
    have z1 := hS.hb.free 1
    have hl := hS.hb.lt
    clear hS
    by_cases hlt : k < n
    · go_wp2_with (at_builtin; go_loud (refine wpList_append_win _ rfl (.tmp 24) (.tmp 26) 22 rfl w.heap.size 3 i0 (.int .i64 0) 1 8 Try.underlying22 hi hz0 hz1 hz2 rfl (by decide) fv k (nats (List.range k)) rfl ((by simpa [AS.new] using HS.out.hf : Win wr w.heap.size 3 1 fv k (nats (List.range k))).alloc _) ⟨wr.heap.size, 0, none⟩ 1 1 [.int .i64 k] rfl rfl (cell_one_new _ _ _) (by simp [Value.oneCell']) (by decide) (by unfold maxLen; omega) (by omega) (by have := hB.size; simp; omega) ?_); intro f o' cap w3 hown hgrow hat; have e3 : w3.cell? ⟨w.heap.size + 1, 1, none⟩ = some fv := (grown_cell hgrow (by simp only [World.size_alloc]; omega) HS.out.fb 1).trans ((cell_ad wr _ 1 hl).trans c1); have e5 : w3.frozen? ⟨w.heap.size + 1, 1, none⟩ = false := (grown_frozen hgrow (by simp only [World.size_alloc]; omega) HS.out.fb 1).trans ((frozen_ad wr _ 1 hl).trans z1))
      have st := new_step HS.out hB ((Below.refl _ wr).alloc (Nat.le_refl _) _) hown hgrow hat
      go_roundw
      case rel => exact ⟨k + 1, by omega, by go_num, st.1, st.2⟩
      case measure => simp [intOf]; omega
    · obtain rfl : k = n := by omega
      go_wp2_with fail
      go_ret2
      exact ⟨rfl, ⟨_, HS.out⟩, hB⟩
end Go.Proofs.Ytpmolcbfjjibgaa
