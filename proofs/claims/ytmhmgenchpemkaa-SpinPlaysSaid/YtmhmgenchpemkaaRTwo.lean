/- Both runs side by side: one step of each. -/
import Derived.Test.YtmhmgenchpemkaaRNew
namespace Go.Proofs.Ytmhmgenchpemkaa
open Go.RowKit

def Mch.zero : Mch := Mch.new 0 0 0 0 0
/-- What Step tells, and what is then. -/
structure PO where
  x : Mch
  code : Int
  L : List Mch
  s : MS
structure RO where
  y : RS
  code : Int
  Y : List RS
  s : MS
def outM (L : List Mch) (s : MS) (a : Int) : PO :=
  if a < 0 ∨ (L.length : Int) ≤ a then ⟨Mch.zero, 1, L, s⟩
  else match L[a.toNat]? with
    | none => ⟨Mch.zero, 1, L, s⟩
    | some x => if x.done = true then ⟨Mch.zero, 16, L, s⟩ else ⟨(stepM s x a.toNat).1, 0, L.set a.toNat (stepM s x a.toNat).1, (stepM s x a.toNat).2⟩
def outR (js : List Jb) (Y : List RS) (s : MS) (a : Int) : RO :=
  if a < 0 ∨ (js.length : Int) ≤ a then ⟨RS.zero, 1, Y, s⟩
  else match Y[a.toNat]?, js[a.toNat]? with
    | some y, some j => if y.done = true then ⟨RS.zero, 16, Y, s⟩ else ⟨(stepR s j y (a.toNat + 1)).1, 0, Y.set a.toNat (stepR s j y (a.toNat + 1)).1, (stepR s j y (a.toNat + 1)).2⟩
    | _, _ => ⟨RS.zero, 1, Y, s⟩
/-- Job for job the same. -/
structure Rels (js : List Jb) (L : List Mch) (Y : List RS) : Prop where
  l1 : L.length = js.length
  l2 : Y.length = js.length
  rel : ∀ (k : Nat) (j : Jb) (x : Mch) (y : RS), js[k]? = some j → L[k]? = some x → Y[k]? = some y → Rel j x y
  ok : ∀ j ∈ js, (j.kind = 1 ∨ j.kind = 2 ∨ j.kind = 3) ∧ 0 ≤ j.work ∧ j.work ≤ 100 ∧ wrap64 (j.at_ + 0) = j.at_
theorem Rels.new {js : List Jb} {n : Nat} (hn : n ≤ 64) (h : js.any (fun j => !j.ok n) = false) : Rels js (js.map Jb.mch) (List.replicate js.length RS.zero) := by
  refine ⟨by simp, by simp, fun k j x y hj hx hy => ?_, fun j hj => ?_⟩
  · rw [List.getElem?_map, hj] at hx
    have hk := (List.getElem?_eq_some_iff.1 hj).1
    rw [List.getElem?_replicate, if_pos hk] at hy
    cases hx
    cases hy
    exact Rel.new j
  · have h1 : j.ok n = true := by
      have := List.any_eq_false.1 h j hj
      simpa using this
    rw [ok_ref hn, decide_eq_true_iff] at h1
    obtain ⟨a1, a2, a3, a4, a5, a6⟩ := h1
    refine ⟨by omega, a3, a4, ?_⟩
    have : j.at_ < n := by split at a6 <;> omega
    unfold wrap64
    omega
theorem Rels.done {js : List Jb} {L : List Mch} {Y : List RS} (h : Rels js L Y) : Y.map (·.done) = L.map (·.done) := by
  refine List.ext_getElem? fun k => ?_
  rw [List.getElem?_map, List.getElem?_map]
  rcases Nat.lt_or_ge k js.length with hk | hk
  · have e1 : Y[k]? = some (Y[k]'(by rw [h.l2]; exact hk)) := List.getElem?_eq_getElem _
    have e2 : L[k]? = some (L[k]'(by rw [h.l1]; exact hk)) := List.getElem?_eq_getElem _
    have := h.rel k _ _ _ (List.getElem?_eq_getElem hk) e2 e1
    rw [e1, e2]
    simp [this.done]
  · rw [List.getElem?_eq_none (by rw [h.l2]; exact hk), List.getElem?_eq_none (by rw [h.l1]; exact hk)]
    rfl
theorem Rels.shown {js : List Jb} {L : List Mch} {Y : List RS} (h : Rels js L Y) : ∀ (k : Nat) (x : Mch) (y : RS), L[k]? = some x → Y[k]? = some y → y.shown = x.st := fun k x y hx hy => by
  have hk : k < js.length := by rw [← h.l1]; exact (List.getElem?_eq_some_iff.1 hx).1
  exact (h.rel k _ x y (List.getElem?_eq_getElem hk) hx hy).shown
theorem zero_shown : RS.zero.shown = Mch.zero.st := rfl
/-- One step of each goes alike. -/
theorem out_same {js : List Jb} {L : List Mch} {Y : List RS} {s : MS} (h : Rels js L Y) (a : Int) :
    (outM L s a).code = (outR js Y s a).code ∧ (outM L s a).s = (outR js Y s a).s ∧ (outR js Y s a).y.shown = (outM L s a).x.st ∧ Rels js (outM L s a).L (outR js Y s a).Y := by
  unfold outM outR
  rw [h.l1]
  by_cases h0 : a < 0 ∨ (js.length : Int) ≤ a
  · rw [if_pos h0, if_pos h0]
    exact ⟨rfl, rfl, zero_shown, h⟩
  · rw [if_neg h0, if_neg h0]
    have hk : a.toNat < js.length := by omega
    have e0 : js[a.toNat]? = some (js[a.toNat]'hk) := List.getElem?_eq_getElem hk
    have e1 : Y[a.toNat]? = some (Y[a.toNat]'(by rw [h.l2]; exact hk)) := List.getElem?_eq_getElem _
    have e2 : L[a.toNat]? = some (L[a.toNat]'(by rw [h.l1]; exact hk)) := List.getElem?_eq_getElem _
    have hr := h.rel _ _ _ _ e0 e2 e1
    have hok := h.ok _ (List.mem_of_getElem? e0)
    generalize js[a.toNat]'hk = j at *
    generalize Y[a.toNat]'(by rw [h.l2]; exact hk) = y at *
    generalize L[a.toNat]'(by rw [h.l1]; exact hk) = x at *
    rw [e0, e1, e2]
    simp only
    rw [hr.done]
    by_cases hd : y.done = true
    · rw [if_pos hd, if_pos hd]
      exact ⟨rfl, rfl, zero_shown, h⟩
    · rw [if_neg hd, if_neg hd]
      obtain ⟨q1, q2⟩ := sim_step (i := a.toNat) (s := s) hr (by simpa using hd) hok.1 ⟨hok.2.1, hok.2.2.1⟩
      refine ⟨rfl, q1, q2.shown, by simp [h.l1], by simp [h.l2], fun k j' x' y' hj hx hy => ?_, h.ok⟩
      by_cases e : k = a.toNat
      · subst e
        rw [List.getElem?_set_self (by rw [h.l1]; exact hk)] at hx
        rw [List.getElem?_set_self (by rw [h.l2]; exact hk)] at hy
        rw [e0] at hj
        cases hx; cases hy; cases hj
        exact q2
      · rw [List.getElem?_set_ne (fun q => e q.symm)] at hx hy
        exact h.rel k j' x' y' hj hx hy
section
variable {w : World} {r b c f o cap : Nat} {v : Value} {L : List Mch} {s : MS}
theorem pstep_any (h : Sys w r b c f o cap v L s) (a : Int) : Calls Try.prog 14 #[.pointer (some ⟨r, 0, none⟩), .int .i64 a] w fun e w' => e = .returned (.tuple #[.agg (outM L s a).x.st.toArray, .int .i64 (outM L s a).code]) ∧ Sys w' r b c f o cap v (outM L s a).L (outM L s a).s ∧ Frm [f, b, c] w w' := by
  unfold outM
  by_cases h0 : a < 0 ∨ (L.length : Int) ≤ a
  · rw [if_pos h0]
    exact (step_arg h h0).mono fun e w' ⟨he, hb⟩ => ⟨he, h.below hb, .of_below hb⟩
  · rw [if_neg h0]
    obtain ⟨k, rfl⟩ : ∃ k : Nat, a = (k : Int) := ⟨a.toNat, by omega⟩
    rw [Int.toNat_natCast]
    have hk : k < L.length := by omega
    have e2 : L[k]? = some (L[k]'hk) := List.getElem?_eq_getElem hk
    generalize L[k]'hk = x at *
    rw [e2]
    simp only
    by_cases hd : x.done = true
    · rw [if_pos hd]
      exact (step_past h e2 hd).mono fun e w' ⟨he, hb⟩ => ⟨he, h.below hb, .of_below hb⟩
    · rw [if_neg hd]
      exact (step_yes h e2 (by simpa using hd)).mono fun e w' ⟨he, h1, h2⟩ => ⟨he, h1, h2⟩
end
theorem rstepA_any {w : World} {q rb c A C L S : Nat} {vJ : Value} {js : List Jb} {M : List Mch} {Y : List RS} {s : MS} (h : RSys w q rb c A C L S vJ js Y s) (hr : Rels js M Y) (a : Int) :
    Calls Try.prog 21 #[.pointer (some ⟨q, 0, none⟩), .int .i64 a] w fun e w' => e = .returned (.tuple #[.agg (outR js Y s a).y.st.toArray, .int .i64 (outR js Y s a).code]) ∧ RSys w' q rb c A C L S vJ js (outR js Y s a).Y (outR js Y s a).s ∧ Frm [A, C, L, S, rb, c] w w' := by
  unfold outR
  by_cases h0 : a < 0 ∨ (js.length : Int) ≤ a
  · rw [if_pos h0]
    exact (rstep_arg h h0).mono fun e w' ⟨he, hb⟩ => ⟨he, h.below hb, .of_below hb⟩
  · rw [if_neg h0]
    obtain ⟨k, rfl⟩ : ∃ k : Nat, a = (k : Int) := ⟨a.toNat, by omega⟩
    rw [Int.toNat_natCast]
    have hk : k < js.length := by omega
    have e0 : js[k]? = some (js[k]'hk) := List.getElem?_eq_getElem hk
    have e1 : Y[k]? = some (Y[k]'(by rw [h.len]; exact hk)) := List.getElem?_eq_getElem _
    have e2 : M[k]? = some (M[k]'(by rw [hr.l1]; exact hk)) := List.getElem?_eq_getElem _
    have hrel := hr.rel _ _ _ _ e0 e2 e1
    have hok := hr.ok _ (List.mem_of_getElem? e0)
    generalize js[k]'hk = j at *
    generalize Y[k]'(by rw [h.len]; exact hk) = y at *
    rw [e0, e1]
    simp only
    by_cases hd : y.done = true
    · rw [if_pos hd]
      exact (rstep_past h e1 e0 hd).mono fun e w' ⟨he, hb⟩ => ⟨he, h.below hb, .of_below hb⟩
    · rw [if_neg hd]
      have hd' : y.done = false := by simpa using hd
      exact rstep_yes h e1 e0 hd' hok.2.2.2 (hrel.pc hd') hok.1
end Go.Proofs.Ytmhmgenchpemkaa
