/- Chapter 2, plain: who is picked in turn comes to the end. -/
import Derived.Test.YtmhmgenchpemkaaAll
namespace Go.Proofs.Ytmhmgenchpemkaa
open Go.RowKit

theorem undone_mem {L : List Mch} {k j : Nat} (hj : j ∈ undone L k) : j < k ∧ ∃ x, L[j]? = some x ∧ x.done = false := by
  rw [undone, List.mem_filter, List.mem_range] at hj
  refine ⟨hj.1, ?_⟩
  have h := hj.2
  unfold live at h
  split at h
  · rename_i x hx; exact ⟨x, hx, by simpa using h⟩
  · cases h
theorem undone_of {L : List Mch} {j : Nat} {x : Mch} (hx : L[j]? = some x) (hd : x.done = false) : j ∈ undone L L.length := by
  rw [undone, List.mem_filter, List.mem_range]
  exact ⟨(List.getElem?_eq_some_iff.1 hx).1, by simp [live, hx, hd]⟩
theorem undone_count (L : List Mch) : ∀ k, k ≤ L.length → (undone L k).length = (L.take k).countP (fun x => !x.done)
  | 0, _ => by simp [undone]
  | k + 1, h => by
    have ih := undone_count L k (by omega)
    obtain ⟨x, hx⟩ : ∃ x, L[k]? = some x := ⟨_, List.getElem?_eq_getElem (by omega)⟩
    rw [undone_succ, List.take_add_one, hx, List.length_append, ih, List.countP_append]
    cases hd : x.done <;> simp [live, hx, hd]
theorem undone_len (L : List Mch) : (undone L L.length).length = L.countP (fun x => !x.done) := by
  rw [undone_count L _ (Nat.le_refl _), List.take_length]
theorem live_set {L : List Mch} {j : Nat} {x y : Mch} (hx : L[j]? = some x) (hd : y.done = x.done) (i : Nat) : live (L.set j y) i = live L i := by
  have hj := (List.getElem?_eq_some_iff.1 hx).1
  unfold live
  by_cases e : j = i
  · subst e; rw [List.getElem?_set_self hj, hx]; simp [hd]
  · rw [List.getElem?_set_ne e]
theorem undone_set {L : List Mch} {j : Nat} {x y : Mch} (hx : L[j]? = some x) (hd : y.done = x.done) : undone (L.set j y) (L.set j y).length = undone L L.length := by
  rw [List.length_set, undone, undone]
  congr 1
  funext i
  exact live_set hx hd i
theorem countP_at {L : List Mch} {j : Nat} {x y : Mch} (P : Mch → Bool) (hx : L[j]? = some x) : (L.set j y).countP P + (if P x = true then 1 else 0) = L.countP P + (if P y = true then 1 else 0) := by
  obtain ⟨hj, e⟩ := List.getElem?_eq_some_iff.1 hx
  rw [List.countP_set hj, e]
  have : P x = true → 0 < L.countP P := fun h => List.countP_pos_iff.2 ⟨x, List.mem_of_getElem? hx, h⟩
  split <;> rename_i h1
  · have := this h1; omega
  · omega
theorem undone_fin {L : List Mch} {j : Nat} {x y : Mch} (hx : L[j]? = some x) (h0 : x.done = false) (hd : y.done = true) : (undone (L.set j y) (L.set j y).length).length + 1 = (undone L L.length).length := by
  rw [undone_len, undone_len]
  have := countP_at (y := y) (fun x => !x.done) hx
  simp [h0, hd] at this
  exact this

/-- What is left, where the machine jl leads with φ accesses at most, of those that are live; it is the r-th that is picked from now on. -/
def Pot (Ld : Nat → Nat → Prop) (U : List Nat) (i Ψ : Nat) : Prop :=
  ∃ jl φ r, Ld jl φ ∧ r < U.length ∧ U[(i + r) % U.length]? = some jl ∧ Ψ = φ * U.length + r
theorem pot_at {U : List Nat} {jl : Nat} (hj : jl ∈ U) (i : Nat) : ∃ r, r < U.length ∧ U[(i + r) % U.length]? = some jl := by
  obtain ⟨pos, hp⟩ := List.mem_iff_getElem?.1 hj
  have hl := (List.getElem?_eq_some_iff.1 hp).1
  have hm : i % U.length < U.length := Nat.mod_lt _ (by omega)
  refine ⟨(pos + (U.length - i % U.length)) % U.length, Nat.mod_lt _ (by omega), ?_⟩
  rw [Nat.add_mod_mod, ← Nat.add_assoc]
  have e : (i + pos + (U.length - i % U.length)) % U.length = pos := by
    have hd := Nat.div_add_mod i U.length
    have : i + pos + (U.length - i % U.length) = pos + U.length * (i / U.length + 1) := by rw [Nat.mul_add, Nat.mul_one]; omega
    rw [this, Nat.add_mul_mod_self_left, Nat.mod_eq_of_lt hl]
  rw [e, hp]
theorem pot_new {Ld : Nat → Nat → Prop} {U : List Nat} {jl φ B : Nat} (h : Ld jl φ) (hj : jl ∈ U) (hB : φ ≤ B) (i : Nat) : ∃ Ψ, Pot Ld U i Ψ ∧ Ψ < (B + 1) * U.length := by
  obtain ⟨r, h1, h2⟩ := pot_at hj i
  refine ⟨_, ⟨jl, φ, r, h, h1, h2, rfl⟩, ?_⟩
  have : φ * U.length ≤ B * U.length := Nat.mul_le_mul_right _ hB
  rw [Nat.add_mul, Nat.one_mul]; omega
theorem pot_go {Ld Ld' : Nat → Nat → Prop} {U : List Nat} {i Ψ j : Nat} (h : Pot Ld U i Ψ) (hj : U[i % U.length]? = some j)
    (hs : ∀ jl φ, Ld jl φ → ∃ jl' φ', Ld' jl' φ' ∧ jl' ∈ U ∧ (φ' < φ ∨ (j ≠ jl ∧ jl' = jl ∧ φ' = φ))) : ∃ Ψ', Pot Ld' U (i + 1) Ψ' ∧ Ψ' < Ψ := by
  obtain ⟨jl, φ, r, h1, h2, h3, rfl⟩ := h
  obtain ⟨jl', φ', g1, g2, g3 | ⟨g3, rfl, rfl⟩⟩ := hs jl φ h1
  · obtain ⟨r', q1, q2⟩ := pot_at g2 (i + 1)
    refine ⟨_, ⟨jl', φ', r', g1, q1, q2, rfl⟩, ?_⟩
    have : (φ' + 1) * U.length ≤ φ * U.length := Nat.mul_le_mul_right _ g3
    rw [Nat.add_mul, Nat.one_mul] at this; omega
  · cases r with
    | zero => rw [Nat.add_zero, hj] at h3; cases h3; exact absurd rfl g3
    | succ r => exact ⟨_, ⟨jl', φ', r, g1, by omega, by rw [← h3]; congr 2; omega, rfl⟩, by omega⟩
end Go.Proofs.Ytmhmgenchpemkaa
