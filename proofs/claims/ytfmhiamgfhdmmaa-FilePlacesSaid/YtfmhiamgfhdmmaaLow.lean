/- What the walk of FileLowest keeps. -/
import Derived.Test.YtfmhiamgfhdmmaaKnown
namespace Go.Proofs.Ytfmhiamgfhdmmaa
open Go.RowKit

/-- Which descriptors are open, as the law's own array has it. -/
def bools (T : Nat → Sl) : Array Value := ((List.range 64).map fun k => Value.bool (T k).op).toArray
theorem bools_get (T : Nat → Sl) {k : Nat} (h : k < 64) : (bools T)[k]? = some (.bool (T k).op) := by simp [bools, h]
theorem bools_size (T : Nat → Sl) : (bools T).size = 64 := by simp [bools]
theorem bools_put (s : TS) {k : Nat} (x : Sl) (h : k < 64) : (bools s.T).setIfInBounds k (.bool x.op) = bools (s.put k x).T := by
  apply Array.ext_getElem?
  intro i
  by_cases e : k = i
  · subst e
    rw [Array.getElem?_setIfInBounds_self_of_lt (by rw [bools_size]; exact h), bools_get _ h]
    simp [TS.put]
  · rw [Array.getElem?_setIfInBounds_ne e]
    by_cases hi : i < 64
    · rw [bools_get _ hi, bools_get _ hi]
      simp [TS.put, show ¬ i = k from fun h => e h.symm]
    · rw [Array.getElem?_eq_none (by rw [bools_size]; omega), Array.getElem?_eq_none (by rw [bools_size]; omega)]

structure Lw (w wr : World) (b q : Nat) (s : TS) : Prop where
  tb : IsTb wr b s
  hv : Holds wr q (bools s.T)
  most : s.most = 64
  bq : b ≠ q
  bel : Below w.heap.size w wr
  lob : w.heap.size ≤ b
  loq : w.heap.size ≤ q

variable {w wr w' : World} {b q : Nat} {s s' : TS}
/-- The table turns, the array lags behind. -/
structure Mid (w wr : World) (b q : Nat) (s s' : TS) : Prop where
  tb : IsTb wr b s'
  hv : Holds wr q (bools s.T)
  most : s'.most = 64
  bq : b ≠ q
  bel : Below w.heap.size w wr
  lob : w.heap.size ≤ b
  loq : w.heap.size ≤ q
theorem Lw.step (h : Lw w wr b q s) (ht : IsTb w' b s') (hf : Frm [b] wr w') (hm : s'.most = 64) : Mid w w' b q s s' :=
  ⟨ht, h.hv.frm hf (by simpa using h.bq.symm), hm, h.bq, h.bel.trans (hf.below h.bel.size (by simpa using h.lob)), h.lob, h.loq⟩
theorem Mid.below (h : Mid w wr b q s s') (hb : Below wr.heap.size wr w') : Mid w w' b q s s' := ⟨h.tb.below hb, h.hv.below hb, h.most, h.bq, h.bel.trans (hb.mono h.bel.size), h.lob, h.loq⟩
theorem Lw.below (h : Lw w wr b q s) (hb : Below wr.heap.size wr w') : Lw w w' b q s := ⟨h.tb.below hb, h.hv.below hb, h.most, h.bq, h.bel.trans (hb.mono h.bel.size), h.lob, h.loq⟩
theorem Mid.same (h : Mid w wr b q s s) : Lw w wr b q s := ⟨h.tb, h.hv, h.most, h.bq, h.bel, h.lob, h.loq⟩
theorem Mid.set {k : Nat} {x : Sl} (h : Mid w wr b q s (s.put k x)) (hk : k < 64) {v : Bool} (hv : v = x.op) : Lw w (wr.setCell ⟨q, k, none⟩ (.bool v)) b q (s.put k x) := by
  subst hv
  have F : Frm [q] wr (wr.setCell ⟨q, k, none⟩ (.bool x.op)) := (Frm.refl _ _).setCell (by simp) _
  refine ⟨h.tb.frm F (by simpa using h.bq), ?_, h.most, h.bq, h.bel.trans (F.below h.bel.size (by simpa using h.loq)), h.lob, h.loq⟩
  have := h.hv.set k (.bool x.op) (by rw [bools_size]; exact hk)
  rwa [bools_put s x hk] at this

/-- The lowest from 8 - d on that is not open; below 0: none. -/
def wf (T : Nat → Sl) (p : Nat) : Nat → Int
  | 0 => -1
  | d + 1 => if (T (p * 8 + (7 - d))).op = false then ((7 - d : Nat) : Int) else wf T p d
theorem wf_spec (T : Nat → Sl) (p : Nat) : ∀ d, d ≤ 8 → (wf T p d = -1 ∧ ∀ j, 8 - d ≤ j → j < 8 → (T (p * 8 + j)).op = true) ∨ (∃ j : Nat, 8 - d ≤ j ∧ j < 8 ∧ wf T p d = (j : Int) ∧ (T (p * 8 + j)).op = false ∧ ∀ i, 8 - d ≤ i → i < j → (T (p * 8 + i)).op = true)
  | 0, _ => .inl ⟨rfl, fun j h1 h2 => by omega⟩
  | d + 1, hd => by
    by_cases h : (T (p * 8 + (7 - d))).op = false
    · refine .inr ⟨7 - d, by omega, by omega, by simp [wf, h], h, fun i h1 h2 => by omega⟩
    · have e : wf T p (d + 1) = wf T p d := by simp [wf, h]
      have ht : (T (p * 8 + (7 - d))).op = true := by simpa using h
      rw [e]
      rcases wf_spec T p d (by omega) with ⟨h1, h2⟩ | ⟨j, h1, h2, h3, h4, h5⟩
      · refine .inl ⟨h1, fun j g1 g2 => ?_⟩
        by_cases ej : j = 7 - d
        · rw [ej]; exact ht
        · exact h2 j (by omega) g2
      · refine .inr ⟨j, by omega, h2, h3, h4, fun i g1 g2 => ?_⟩
        by_cases ei : i = 7 - d
        · rw [ei]; exact ht
        · exact h5 i (by omega) g2
theorem cnt_lt {T : Nat → Sl} {k : Nat} (hk : k < 64) (h : (T k).op = false) : cntT T < 64 := by
  have h1 := told_length T 64
  have h2 : cntT T ≠ 64 := by
    intro e
    have hl : (told T 64).length = (List.range 64).length := by simpa [cntT] using e
    have := List.length_filter_eq_length_iff.1 hl k (by simpa using hk)
    rw [h] at this
    cases this
  unfold cntT at h2 ⊢
  omega
/-- What Open answers at a table of 64. -/
theorem open_full {P : Nat} (hP : P < 8) (_hm : s.most = 64) (h : ∀ j, 0 ≤ j → j < 8 → (s.T (P * 8 + j)).op = true) (m n f : Int) : opOpen s P m n f = ((0, 41), s) := by
  have ho := all_of_own (T := s.T) hP (fun k hk => h k (by omega) hk)
  have hr : roomOf s P = 41 := by unfold roomOf; rw [if_pos (by omega)]
  unfold opOpen
  rw [if_neg (by omega), Int.toNat_natCast, hr, if_neg (by omega)]
theorem open_at {P j : Nat} (hP : P < 8) (hm : s.most = 64) (hj : j < 8) (h1 : (s.T (P * 8 + j)).op = false) (h2 : ∀ i, 0 ≤ i → i < j → (s.T (P * 8 + i)).op = true) (m n f : Int) : opOpen s P m n f = (((j : Int), 0), s.put (P * 8 + j) ⟨true, m, n, f, 0⟩) := by
  have ho : ¬ 8 ≤ ownT s.T P := fun h => by
    have := own_all hP h j hj
    rw [h1] at this
    cases this
  have hc := cnt_lt (T := s.T) (k := P * 8 + j) (by omega) h1
  have hr : roomOf s P = 0 := by unfold roomOf; rw [if_neg ho, if_neg (by rw [hm]; omega)]
  unfold opOpen
  rw [if_neg (by omega), Int.toNat_natCast, hr, if_pos rfl, first_is hj (fun i hi => h2 i (by omega) hi) h1]
theorem put_most (s : TS) (k : Nat) (x : Sl) : (s.put k x).most = s.most := rfl

/-- A list of asks of seven numbers that came in. -/
def Asks7 (w : World) (a : Option Addr) (len : Nat) (g : Nat → Nat → Int) : Prop :=
  len = 0 ∨ ∃ b off, a = some ⟨b, off, none⟩ ∧ b < w.heap.size ∧ ∀ i j, i < len → j < 7 → w.cell? ⟨b, off + i * 7 + j, none⟩ = some (.int .i64 (g i j)) ∧ -9223372036854775808 ≤ g i j ∧ g i j ≤ 9223372036854775807

theorem info28 : (Try.prog.info? 28).map (fun i => (i.zero, i.size, i.bytes)) = some (some (.agg (bools fun _ => Sl.zero)), 64, 64) := by kernel_rfl
theorem zero28 (w : World) : (zeroValue 28).run Try.prog w = .ok (.agg (bools fun _ => Sl.zero)) w := by
  obtain ⟨i, hi, hz, _, _⟩ := info_parts info28
  simp [zeroValue, typeInfo, hi, hz]
end Go.Proofs.Ytfmhiamgfhdmmaa
