/- Chapter 4, the document's answer: Leave, New, Defer. -/
import Derived.Test.YtedfegbafjmkgaaRef
namespace Go.Proofs.Ytedfegbafjmkgaa
open Go.RowKit

def unmark (i : Nat) (x : RE) : RE := { x with who := x.who.set i false }
def marked (l : List RE) (i k : Nat) : List RE := l.mapIdx fun j x => if j < k then unmark i x else x
theorem marked_length (l : List RE) (i k : Nat) : (marked l i k).length = l.length := by simp [marked]
theorem marked_zero (l : List RE) (i : Nat) : marked l i 0 = l := by
  apply List.ext_getElem
  · simp [marked]
  · intro j h1 h2; simp [marked]
theorem marked_all (l : List RE) (i : Nat) : marked l i l.length = l.map (unmark i) := by
  apply List.ext_getElem
  · simp [marked]
  · intro j h1 h2
    have : j < l.length := by simpa using h2
    simp [marked, this]
theorem marked_at (l : List RE) (i k : Nat) : (marked l i k)[k]? = l[k]? := by
  by_cases h : k < l.length
  · simp [marked, h]
  · simp [marked, h]
theorem marked_succ {l : List RE} {i k : Nat} {x : RE} (hx : l[k]? = some x) : (marked l i k).set k (unmark i x) = marked l i (k + 1) := by
  obtain ⟨hk, hk2⟩ := List.getElem?_eq_some_iff.1 hx
  apply List.ext_getElem
  · simp [marked]
  · intro j h1 h2
    by_cases e : j = k
    · subst e; simp [marked, hk2]
    · rw [List.getElem_set_ne (Ne.symm e)]
      simp only [marked, List.getElem_mapIdx]
      by_cases hj : j < k
      · rw [if_pos hj, if_pos (by omega)]
      · rw [if_neg hj, if_neg (by omega)]
theorem getD_eq_set {l : List Int} {i : Nat} (hi : i < l.length) {y : Int} : (l.set i y).getD i 0 = y := by simp [List.getD_eq_getElem?_getD, hi]
def RS.leave (t : RS) (i : Nat) : RS := ⟨t.ins.set i (wrap64 (t.ins.getD i 0 - 1)), if wrap64 (t.ins.getD i 0 - 1) = 0 then t.l.map (unmark i) else t.l⟩
section
variable {w w' : World} {base gb ib : Nat} {v : Value} {t : RS}
set_option maxRecDepth 100000 in
set_option maxHeartbeats 1000000 in
theorem rleave_yes (h : Rf w base gb ib v t) {i : Nat} (hi : i < t.ins.length) (h0 : t.ins.getD i 0 ≠ 0) : Calls Try.prog 22 #[.pointer (some ⟨gb, 0, none⟩), .int .i64 i] w fun e w' => e = .returned (.int .i64 0) ∧
    Rf w' base gb ib v (t.leave i) ∧ TFrm [70, 4] base [gb, ib] w w' := by
  have c0 : w.cell? ⟨gb, 0, none⟩ = some (.slice (some ⟨ib, 0, none⟩) t.ins.length t.ins.length) := h.hg.cell 0
  have c1 : w.cell? ⟨ib, i, none⟩ = some (.int .i64 (t.ins.getD i 0)) := (h.hi.cell i).trans (il_at hi)
  have f1 := h.hi.free
  have gl := h.hg.lt
  have hne : ¬ gb = ib := h.ne
  have hne2 : ¬ ib = gb := fun e => h.ne e.symm
  have hi0 : (0 : Int) ≤ (i : Int) := by omega
  have hi1 : (i : Int) < (t.ins.length : Int) := by omega
  have hi2 : ¬ (i : Int) ≥ (t.ins.length : Int) := by omega
  obtain ⟨y, hy⟩ : ∃ y, wrap64 (t.ins.getD i 0 - 1) = y := ⟨_, rfl⟩
  have HT := Lib.hid (h.turn hi y)
  have hm16 := h.m16
  obtain ⟨va, vc, hva⟩ := h.hv.value
  have HY := Lib.hid hy
  obtain ⟨x, hx⟩ : ∃ x, t.ins.getD i 0 = x := ⟨_, rfl⟩
  rw [hx] at c1 h0 hy
  have HX := Lib.hid hx
  have H0 : (x == 0) = false := by simpa using h0
  have HVA := Lib.hid hva
  have HEQ : Hid (t.leave i = ⟨t.ins.set i y, if y = 0 then t.l.map (unmark i) else t.l⟩) := Lib.hid (by simp only [RS.leave, HY.out])
  clear h hx hva
  go_enter Try.func22, Try.ntmps22
  go_upto_region 6 with fail
  rw [hy]
  obtain ⟨w1, hw1⟩ : ∃ w1, w.setCell ⟨ib, i, none⟩ (.int .i64 y) = w1 := ⟨_, rfl⟩
  rw [hw1] at HT ⊢
  have d0 : w1.cell? ⟨gb, 0, none⟩ = some (.slice (some ⟨ib, 0, none⟩) t.ins.length t.ins.length) := by have := HT.out.1.hg.cell 0; simpa using this
  have d1 : w1.cell? ⟨ib, i, none⟩ = some (.int .i64 y) := by
    have := (HT.out.1.hi.cell i).trans (il_at (by simpa using hi))
    rw [getD_eq_set hi] at this
    exact this
  clear hw1 c0 c1 f1 hy
  by_cases hz : y = 0
  · subst hz
    have HEQ' : Hid (t.leave i = ⟨t.ins.set i 0, t.l.map (unmark i)⟩) := Lib.hid (by rw [HEQ.out, if_pos rfl])
    go_wp2_with fail
    go_loopw [5] (fun iv wr => ∃ k : Nat, k ≤ t.l.length ∧ iv = .int .i64 k ∧ Hid (Rf wr base gb ib v ⟨t.ins.set i 0, marked t.l i k⟩) ∧ Hid (TFrm [70, 4] base [gb, ib] w wr)) (fun iv _ => t.l.length - (intOf iv).toNat)
    case atStart => exact ⟨0, by omega, rfl, Lib.hid (by rw [marked_zero]; exact HT.out.1), Lib.hid HT.out.2⟩
    case round =>
      clear d0 d1 HT
      obtain ⟨k, hk, rfl, HR, HF⟩ := hrel
      have c1 : wr.cell? ⟨gb, 1, none⟩ = some (.slice va t.l.length vc) := by rw [← HVA.out]; exact HR.out.hg.cell 1
      have gl := HR.out.hg.lt
      by_cases hlt : k < t.l.length
      · have hk0 : (0 : Int) ≤ (k : Int) := by omega
        have hk1 : (k : Int) < (t.l.length : Int) := by omega
        obtain ⟨z, hz⟩ : ∃ z, t.l[k]? = some z := ⟨_, List.getElem?_eq_getElem hlt⟩
        have hz' : (marked t.l i k)[k]? = some z := by rw [marked_at]; exact hz
        obtain ⟨f, e1, e2, e3, e4⟩ := HR.out.hs z (List.mem_of_getElem? hz')
        obtain ⟨fw, ow, cw, hv⟩ := HR.out.hv.form (by simp [marked_length]; omega)
        obtain ⟨rfl, rfl⟩ : va = some ⟨fw, ow, none⟩ ∧ vc = cw := by have := HVA.out.symm.trans hv; injection this with q1 q2 q3; exact ⟨q1, q3⟩
        have hvw := HR.out.hv
        rw [hv] at hvw
        have q1 := hvw.cells (k * 2 + 1) (by simp [marked_length]; omega)
        rw [(recells_at hz').2, e1, ← Nat.add_assoc] at q1
        have q2 : wr.cell? ⟨f, i, none⟩ = some (.bool (z.who.getD i false)) := (heapCell e3 i).trans (bl_at (by rw [e4]; simpa using hi))
        have q3 := heapFree e3
        have n1 : (t.ins.set i 0).length = t.ins.length := by simp
        dsimp only at q1
        rw [n1] at q1
        have HMK := Lib.hid (HR.out.mark (i := i) hz' e1 false)
        have HZ := Lib.hid hz
        clear hz hz' e1 e2 e3 e4 hv hvw
        go_wp2_with fail
        go_roundw
        case rel =>
          refine ⟨k + 1, by omega, by go_num, Lib.hid ?_, Lib.hid (HF.out.trans HMK.out.2)⟩
          rw [← marked_succ HZ.out]
          exact HMK.out.1
        case measure => simp [intOf]; omega
      · obtain rfl : k = t.l.length := by omega
        go_wp2_with fail
        go_ret
        refine ⟨rfl, ?_, HF.out⟩
        rw [HEQ'.out, ← marked_all]
        exact HR.out
  · have hz' : (y == 0) = false := by simpa using hz
    have HEQ' : Hid (t.leave i = ⟨t.ins.set i y, t.l⟩) := Lib.hid (by rw [HEQ.out, if_neg hz])
    go_wp2_with fail
    go_ret
    refine ⟨rfl, ?_, HT.out.2⟩
    rw [HEQ'.out]
    exact HT.out.1
end
end Go.Proofs.Ytedfegbafjmkgaa
