/- GraceSafe in plain Lean: what the law keeps beside a grace. -/
import Derived.Test.YtedfegbafjmkgaaBlocks
namespace Go.Proofs.Ytedfegbafjmkgaa
open Go.RowKit

theorem getD_set {α : Type} (l : List α) (r j : Nat) (a d : α) (hr : r < l.length) : (l.set r a).getD j d = if j = r then a else l.getD j d := by
  by_cases h : j = r
  · subst h; simp [List.getD_eq_getElem?_getD, hr]
  · simp [List.getD_eq_getElem?_getD, h, List.getElem?_set_ne (Ne.symm h)]
theorem getD_snoc {α : Type} (l : List α) (a d : α) (j : Nat) : (l ++ [a]).getD j d = if j < l.length then l.getD j d else if j = l.length then a else d := by
  by_cases h : j < l.length
  · simp [List.getD_eq_getElem?_getD, h, List.getElem?_append_left]
  · by_cases h2 : j = l.length
    · subst h2; simp [List.getD_eq_getElem?_getD]
    · have : ¬ j < (l ++ [a]).length := by simp; omega
      simp [List.getD_eq_getElem?_getD, h, h2, List.getElem?_eq_none (Nat.le_of_not_lt this)]
theorem free_iff {rd : List (Int × Int)} {x : WE} : free rd x = true ↔ ∀ j, j < rd.length → x.l.getD j 0 ≠ (rd.getD j (0, 0)).2 := by
  unfold free blkd
  rw [List.isEmpty_iff, List.filter_eq_nil_iff]
  simp
/-- How often each is inside; since when; when the ids came; how many are told. -/
structure SJ (i : Nat) (ins sn wh : List Nat) (told : Nat) (s : GS) : Prop where
  li : ins.length = 4
  ls : sn.length = 4
  lr : s.rd.length = 4
  dp : ∀ r, r < 4 → (s.rd.getD r (0, 0)).1 = ((ins.getD r 0 : Nat) : Int)
  lf : ∀ r, r < 4 → 0 ≤ (s.rd.getD r (0, 0)).2 ∧ (s.rd.getD r (0, 0)).2 + (if ins.getD r 0 = 0 then 0 else 1) ≤ i
  ib : ∀ r, r < 4 → ins.getD r 0 ≤ i
  wl : wh.length ≤ i
  wb : ∀ k, k < wh.length → wh.getD k 0 < i
  wt : ∀ x ∈ s.wt, ∃ k, k < wh.length ∧ x.id = (k : Int) ∧ ∀ r, r < 4 → x.l.getD r 0 ≤ (s.rd.getD r (0, 0)).2 ∧ (x.l.getD r 0 = (s.rd.getD r (0, 0)).2 → 0 < ins.getD r 0) ∧ (0 < ins.getD r 0 → sn.getD r 0 < wh.getD k 0 → x.l.getD r 0 = (s.rd.getD r (0, 0)).2)
  tl : told + s.wt.length = wh.length
section
variable {i told : Nat} {ins sn wh : List Nat} {s : GS}
theorem SJ.mono (h : SJ i ins sn wh told s) : SJ (i + 1) ins sn wh told s :=
  ⟨h.li, h.ls, h.lr, h.dp, fun r hr => by have := h.lf r hr; omega, fun r hr => by have := h.ib r hr; omega, by have := h.wl; omega, fun k hk => by have := h.wb k hk; omega, h.wt, h.tl⟩
theorem SJ.at (h : SJ i ins sn wh told s) {r : Nat} (hr : r < 4) : ∃ x, s.rd[r]? = some x ∧ s.rd.getD r (0, 0) = x ∧ x.1 = ((ins.getD r 0 : Nat) : Int) := by
  have hl : r < s.rd.length := by have := h.lr; omega
  refine ⟨s.rd[r], List.getElem?_eq_getElem hl, by simp [List.getD_eq_getElem?_getD, List.getElem?_eq_getElem hl], ?_⟩
  have := h.dp r hr
  simpa [List.getD_eq_getElem?_getD, List.getElem?_eq_getElem hl] using this
theorem SJ.enter (h : SJ i ins sn wh told s) {r : Nat} (hr : r < 4) {x : Int × Int} (hx : s.rd.getD r (0, 0) = x) (hi : i < 1000) :
    SJ (i + 1) (ins.set r (ins.getD r 0 + 1)) (if ins.getD r 0 = 0 then sn.set r i else sn) wh told (s.enter r x) := by
  have hli := h.li
  have hls := h.ls
  have hlr := h.lr
  have hib := h.ib r hr
  have hd := h.dp r hr
  rw [hx] at hd
  have hw : wrap64 (x.1 + 1) = ((ins.getD r 0 + 1 : Nat) : Int) := by rw [hd]; unfold wrap64; omega
  have e1 : ∀ j, (ins.set r (ins.getD r 0 + 1)).getD j 0 = if j = r then ins.getD r 0 + 1 else ins.getD j 0 := fun j => getD_set _ _ _ _ _ (by omega)
  have e2 : ∀ j, (s.enter r x).rd.getD j (0, 0) = if j = r then (((ins.getD r 0 + 1 : Nat) : Int), x.2) else s.rd.getD j (0, 0) := fun j => by
    rw [← hw]; exact getD_set _ _ _ _ _ (by omega)
  have e3 : ∀ j, (if ins.getD r 0 = 0 then sn.set r i else sn).getD j 0 = if j = r ∧ ins.getD r 0 = 0 then i else sn.getD j 0 := fun j => by
    by_cases h0 : ins.getD r 0 = 0
    · rw [if_pos h0, getD_set _ _ _ _ _ (by omega)]
      by_cases e : j = r
      · rw [if_pos e, if_pos ⟨e, h0⟩]
      · rw [if_neg e, if_neg (fun q => e q.1)]
    · rw [if_neg h0, if_neg (fun q => h0 q.2)]
  refine ⟨by simp [hli], by split <;> simp [hls], by simp [GS.enter, hlr], fun j hj => ?_, fun j hj => ?_, fun j hj => ?_, by have := h.wl; omega, fun k hk => by have := h.wb k hk; omega, fun y hy => ?_, h.tl⟩
  · rw [e1, e2]; split
    · rfl
    · exact h.dp j hj
  · rw [e1, e2]
    have q := h.lf j hj
    split
    · rename_i e; subst e; rw [hx] at q
      refine ⟨q.1, ?_⟩
      rw [if_neg (by omega)]
      have := q.2
      split at this <;> (dsimp only; omega)
    · exact ⟨q.1, by have := q.2; omega⟩
  · rw [e1]
    have := h.ib j hj
    split <;> omega
  · obtain ⟨k, hk, hid, hq⟩ := h.wt y hy
    refine ⟨k, hk, hid, fun j hj => ?_⟩
    have q := hq j hj
    rw [e1, e2, e3]
    by_cases e : j = r
    · subst e
      rw [hx] at q
      simp only [if_true, true_and]
      refine ⟨q.1, fun _ => by omega, fun _ hs => ?_⟩
      by_cases h0 : ins.getD j 0 = 0
      · rw [if_pos h0] at hs
        have := h.wb k hk
        omega
      · rw [if_neg h0] at hs
        exact q.2.2 (by omega) hs
    · simp only [if_neg e, e, false_and, if_false]
      exact q
theorem SJ.leave (h : SJ i ins sn wh told s) {r : Nat} (hr : r < 4) {x : Int × Int} (hx : s.rd.getD r (0, 0) = x) (hi : i < 1000) (h0 : 0 < ins.getD r 0) :
    SJ i (ins.set r (ins.getD r 0 - 1)) sn wh told (s.leave r x) := by
  have hli := h.li
  have hls := h.ls
  have hlr := h.lr
  have hib := h.ib r hr
  have hd := h.dp r hr
  have hlf := h.lf r hr
  rw [hx] at hd hlf
  have hw : wrap64 (x.1 - 1) = ((ins.getD r 0 - 1 : Nat) : Int) := by rw [hd]; unfold wrap64; omega
  have hw2 : wrap64 (x.2 + 1) = x.2 + 1 := by have := hlf.2; split at this <;> (unfold wrap64; omega)
  have e1 : ∀ j, (ins.set r (ins.getD r 0 - 1)).getD j 0 = if j = r then ins.getD r 0 - 1 else ins.getD j 0 := fun j => getD_set _ _ _ _ _ (by omega)
  have e2 : ∀ j, (s.leave r x).rd.getD j (0, 0) = if j = r then (((ins.getD r 0 - 1 : Nat) : Int), if ins.getD r 0 - 1 = 0 then x.2 + 1 else x.2) else s.rd.getD j (0, 0) := fun j => by
    unfold GS.leave
    rw [hw, hw2]
    dsimp only
    rw [getD_set _ _ _ _ _ (by omega)]
    by_cases hz : ins.getD r 0 - 1 = 0
    · simp only [hz, if_true]; rfl
    · simp only [if_neg hz, if_neg (show ¬ ((ins.getD r 0 - 1 : Nat) : Int) = 0 by omega)]
  refine ⟨by simp [hli], hls, by simp [GS.leave, hlr], fun j hj => ?_, fun j hj => ?_, fun j hj => ?_, h.wl, h.wb, fun y hy => ?_, h.tl⟩
  · rw [e1, e2]; split
    · rfl
    · exact h.dp j hj
  · rw [e1, e2]
    have q := h.lf j hj
    split
    · dsimp only
      have q2 := hlf.2
      rw [if_neg (by omega)] at q2
      by_cases hz : ins.getD r 0 - 1 = 0
      · rw [if_pos hz, if_pos hz]; omega
      · rw [if_neg hz, if_neg hz]; omega
    · exact q
  · rw [e1]
    have := h.ib j hj
    split <;> omega
  · obtain ⟨k, hk, hid, hq⟩ := h.wt y hy
    refine ⟨k, hk, hid, fun j hj => ?_⟩
    have q := hq j hj
    rw [e1, e2]
    by_cases e : j = r
    · subst e
      rw [hx] at q
      simp only [if_true]
      by_cases hz : ins.getD j 0 - 1 = 0
      · simp only [hz, if_true]
        exact ⟨by omega, fun e => by omega, fun e => by omega⟩
      · simp only [if_neg hz]
        exact ⟨q.1, fun _ => by omega, fun _ hs => q.2.2 h0 hs⟩
    · simp only [if_neg e]
      exact q
theorem since_at {rd : List (Int × Int)} {j : Nat} (hj : j < rd.length) : (sinceOf rd).getD j 0 = if 0 < (rd.getD j (0, 0)).1 then (rd.getD j (0, 0)).2 else -1 := by
  simp [sinceOf, List.getD_eq_getElem?_getD, List.getElem?_eq_getElem hj]
theorem SJ.defer (h : SJ i ins sn wh told s) (sv : Value) : SJ (i + 1) ins sn (wh ++ [i]) told { s with wt := s.wt ++ [⟨(wh.length : Int), sv, sinceOf s.rd⟩] } := by
  have hlr := h.lr
  refine ⟨h.li, h.ls, h.lr, h.dp, fun r hr => by have := h.lf r hr; dsimp only; omega, fun r hr => by have := h.ib r hr; omega, by have := h.wl; simp; omega, fun k hk => ?_, fun y hy => ?_, by have := h.tl; simp; omega⟩
  · rw [getD_snoc]
    split
    · have := h.wb k (by assumption); omega
    · split <;> omega
  · rcases List.mem_append.1 hy with hy | hy
    · obtain ⟨k, hk, hid, hq⟩ := h.wt y hy
      refine ⟨k, by simp; omega, hid, fun j hj => ?_⟩
      rw [getD_snoc, if_pos hk]
      exact hq j hj
    · rw [List.mem_singleton.1 hy]
      refine ⟨wh.length, by simp, rfl, fun j hj => ?_⟩
      dsimp only
      rw [since_at (by omega), h.dp j hj]
      have q := h.lf j hj
      by_cases h0 : 0 < ins.getD j 0
      · rw [if_pos (by omega)]
        exact ⟨by omega, fun _ => h0, fun _ _ => rfl⟩
      · rw [if_neg (by omega)]
        exact ⟨by omega, fun e => by omega, fun e => by omega⟩
theorem poll_count (s : GS) : (keptOf s s.wt.length).length + (outOf s s.wt.length).length = s.wt.length := by
  unfold keptOf outOf
  rw [List.take_length, List.length_map]
  induction s.wt with
  | nil => rfl
  | cons y l ih =>
    rw [List.filter_cons, List.filter_cons]
    cases free s.rd y <;> simp <;> omega
theorem SJ.poll (h : SJ i ins sn wh told s) : SJ i ins sn wh (told + (outOf s s.wt.length).length) { s with wt := keptOf s s.wt.length } ∧
    ∀ z ∈ outOf s s.wt.length, ∃ k, k < wh.length ∧ z = (k : Int) ∧ ∀ r, r < 4 → 0 < ins.getD r 0 → ¬ sn.getD r 0 < wh.getD k 0 := by
  have hc := poll_count s
  have ht := h.tl
  refine ⟨⟨h.li, h.ls, h.lr, h.dp, h.lf, h.ib, h.wl, h.wb, fun y hy => h.wt y ?_, by dsimp only; omega⟩, fun z hz => ?_⟩
  · unfold keptOf at hy
    rw [List.take_length] at hy
    exact (List.mem_filter.1 hy).1
  · unfold outOf at hz
    rw [List.take_length] at hz
    obtain ⟨y, hy, rfl⟩ := List.mem_map.1 hz
    obtain ⟨hy1, hy2⟩ := List.mem_filter.1 hy
    obtain ⟨k, hk, hid, hq⟩ := h.wt y hy1
    refine ⟨k, hk, hid, fun r hr h0 hs => ?_⟩
    exact free_iff.1 hy2 r (by have := h.lr; omega) ((hq r hr).2.2 h0 hs)
/-- When all have left all are told. -/
theorem SJ.last (h : SJ i ins sn wh told s) (h0 : ∀ r, r < 4 → ins.getD r 0 = 0) : keptOf s s.wt.length = [] ∧ told + (outOf s s.wt.length).length = wh.length := by
  have hf : ∀ x ∈ s.wt, free s.rd x = true := fun x hx => free_iff.2 fun j hj e => by
    obtain ⟨k, hk, hid, hq⟩ := h.wt x hx
    have hj4 : j < 4 := by have := h.lr; omega
    have := (hq j hj4).2.1 e
    have := h0 j hj4
    omega
  have h1 : keptOf s s.wt.length = [] := by
    unfold keptOf
    rw [List.take_length, List.filter_eq_nil_iff.2 (fun x hx => by rw [hf x hx]; simp)]
  have hc := poll_count s
  have ht := h.tl
  rw [h1] at hc
  exact ⟨h1, by simp at hc; omega⟩
theorem SJ.start : SJ 0 [0, 0, 0, 0] [0, 0, 0, 0] [] 0 (GS.new 4) := by
  refine ⟨rfl, rfl, rfl, fun r hr => ?_, fun r hr => ?_, fun r hr => ?_, by simp, by simp, by simp [GS.new], rfl⟩ <;>
    (rcases (by omega : r = 0 ∨ r = 1 ∨ r = 2 ∨ r = 3) with rfl | rfl | rfl | rfl <;> decide +kernel)
end
end Go.Proofs.Ytedfegbafjmkgaa
