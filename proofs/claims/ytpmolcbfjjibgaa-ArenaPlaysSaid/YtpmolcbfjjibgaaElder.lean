/- What the walk of ArenaElder keeps from step to step. -/
import Derived.Test.YtpmolcbfjjibgaaTurn
namespace Go.Proofs.Ytpmolcbfjjibgaa
open Go.RowKit

def hp (l : List (Nat × Int)) : List (Int × Int) := l.map fun p => ((p.1 : Int), p.2)
theorem hp_length (l : List (Nat × Int)) : (hp l).length = l.length := by simp [hp]
theorem hp_snoc (l : List (Nat × Int)) (k : Nat) (g : Int) : hp l ++ [((k : Int), g)] = hp (l ++ [(k, g)]) := by simp [hp]
theorem hp_get (l : List (Nat × Int)) (k : Nat) (h : k < l.length) : (hp l).getD k (0, 0) = (((l.getD k (0, 0)).1 : Int), (l.getD k (0, 0)).2) := by simp [hp, h]

def gen (s : AS) (j : Nat) : Int := (s.sl.getD j (0, 0)).1
def val (s : AS) (j : Nat) : Int := (s.sl.getD j (0, 0)).2

/-- The free slots and the live ones are all; dead handles are elder than their slots. -/
structure El (n i : Nat) (live dead : List (Nat × Int)) (hold : List Int) (s : AS) : Prop where
  len : s.sl.length = n
  gens : ∀ j, j < n → 0 ≤ gen s j ∧ gen s j ≤ (i : Int)
  alive : ∀ p ∈ live, gen s p.1 = p.2 ∧ p.2 % 2 = 1
  holds : hold = live.map fun p => val s p.1
  gone : ∀ p ∈ dead, p.1 < n ∧ p.2 < gen s p.1
  perm : (s.free ++ live.map (·.1)).Perm (List.range n)
  even : ∀ j ∈ s.free, gen s j % 2 = 0

variable {n i : Nat} {live dead : List (Nat × Int)} {hold : List Int} {s : AS}

theorem El.new (n : Nat) : El n 0 [] [] [] (AS.new n n) := by
  refine ⟨by simp [AS.new], fun j hj => by simp [AS.new, gen, hj], by simp, rfl, by simp, by simp [AS.new], fun j hj => ?_⟩
  have : j < n := by simpa [AS.new] using hj
  simp [AS.new, gen, this]
theorem El.stale (h : El n i live dead hold s) (z : Int) : El n i live dead hold { s with stale := z } := ⟨h.len, h.gens, h.alive, h.holds, h.gone, h.perm, h.even⟩
theorem El.mono (h : El n i live dead hold s) {i' : Nat} (hi : i ≤ i') : El n i' live dead hold s := ⟨h.len, fun j hj => by have := h.gens j hj; omega, h.alive, h.holds, h.gone, h.perm, h.even⟩
theorem El.count (h : El n i live dead hold s) : s.free.length + live.length = n := by simpa using h.perm.length_eq
theorem El.nodup (h : El n i live dead hold s) : (s.free ++ live.map (·.1)).Nodup := h.perm.nodup_iff.2 List.nodup_range
theorem El.lt_free (h : El n i live dead hold s) {j : Nat} (hj : j ∈ s.free) : j < n := by
  have := h.perm.mem_iff.1 (List.mem_append_left _ hj); simpa using this
theorem El.lt_live (h : El n i live dead hold s) {p : Nat × Int} (hj : p ∈ live) : p.1 < n := by
  have := h.perm.mem_iff.1 (List.mem_append_right s.free (List.mem_map.2 ⟨p, hj, rfl⟩)); simpa using this

theorem gen_set (s : AS) (k j : Nat) (g v : Int) (f : List Nat) (hk : k < s.sl.length) : gen { s with sl := s.sl.set k (g, v), free := f } j = if j = k then g else gen s j := by
  unfold gen
  show ((s.sl.set k (g, v)).getD j (0, 0)).1 = _
  rw [getD_set _ _ _ _ hk]
  split <;> rfl
theorem val_set (s : AS) (k j : Nat) (g v : Int) (f : List Nat) (hk : k < s.sl.length) : val { s with sl := s.sl.set k (g, v), free := f } j = if j = k then v else val s j := by
  unfold val
  show ((s.sl.set k (g, v)).getD j (0, 0)).2 = _
  rw [getD_set _ _ _ _ hk]
  split <;> rfl

theorem El.take (h : El n i live dead hold s) {k : Nat} {r : List Nat} (hf : s.free = k :: r) (v : Int) :
    El n (i + 1) (live ++ [(k, gen s k + 1)]) dead (hold ++ [v]) { s with sl := s.sl.set k (gen s k + 1, v), free := r } := by
  have hk : k < n := h.lt_free (by simp [hf])
  have hk' : k < s.sl.length := by rw [h.len]; exact hk
  have hnd := h.nodup
  rw [hf] at hnd
  simp only [List.cons_append, List.nodup_cons, List.mem_append, not_or] at hnd
  have hnl : ∀ p ∈ live, p.1 ≠ k := fun p hp e => hnd.1.2 (List.mem_map.2 ⟨p, hp, e⟩)
  have hg := h.gens k hk
  have he := h.even k (by simp [hf])
  refine ⟨by simpa using h.len, fun j hj => ?_, fun p hp => ?_, ?_, fun p hp => ?_, ?_, fun j hj => ?_⟩
  · rw [gen_set _ _ _ _ _ _ hk']
    have := h.gens j hj
    split <;> omega
  · rw [gen_set _ _ _ _ _ _ hk']
    simp only [List.mem_append, List.mem_singleton] at hp
    rcases hp with hp | rfl
    · rw [if_neg (hnl p hp)]; exact h.alive p hp
    · rw [if_pos rfl]; exact ⟨rfl, by show (gen s k + 1) % 2 = 1; omega⟩
  · rw [List.map_append, h.holds]
    congr 1
    · apply List.map_congr_left
      intro p hp
      rw [val_set _ _ _ _ _ _ hk', if_neg (hnl p hp)]
    · simp [val_set _ _ _ _ _ _ hk']
  · rw [gen_set _ _ _ _ _ _ hk']
    have := h.gone p hp
    refine ⟨this.1, ?_⟩
    split
    · rename_i e; rw [e] at this; omega
    · exact this.2
  · have e := h.perm
    rw [hf] at e
    refine List.Perm.trans ?_ e
    simp only [List.map_append, List.map_cons, List.map_nil]
    rw [← List.append_assoc]
    exact List.perm_append_comm
  · rw [gen_set _ _ _ _ _ _ hk', if_neg (fun e => hnd.1.1 (by have hj' : j ∈ r := hj; rw [e] at hj'; exact hj'))]
    exact h.even j (by rw [hf]; simp [show j ∈ r from hj])

theorem El.free {k : Nat} {g v0 : Int} (h : El n i ((k, g) :: live) dead (v0 :: hold) s) :
    El n (i + 1) live (dead ++ [(k, g)]) hold { s with sl := s.sl.set k (g + 1, 0), free := s.free ++ [k] } := by
  have hk : k < n := h.lt_live (p := (k, g)) (by simp)
  have hk' : k < s.sl.length := by rw [h.len]; exact hk
  have hnd := h.nodup
  have hp0 := (List.perm_middle (a := k) (l₁ := s.free) (l₂ := live.map (·.1)))
  have hnd2 := (hp0.nodup_iff).1 (by simpa using hnd)
  simp only [List.nodup_cons, List.mem_append, not_or] at hnd2
  have hnl : ∀ p ∈ live, p.1 ≠ k := fun p hp e => hnd2.1.2 (List.mem_map.2 ⟨p, hp, e⟩)
  have hg := h.gens k hk
  obtain ⟨ha, hodd⟩ := h.alive (k, g) (by simp)
  simp only at ha hodd
  have hh := h.holds
  simp only [List.map_cons, List.cons.injEq] at hh
  refine ⟨by simpa using h.len, fun j hj => ?_, fun p hp => ?_, ?_, fun p hp => ?_, ?_, fun j hj => ?_⟩
  · rw [gen_set _ _ _ _ _ _ hk']
    have := h.gens j hj
    split <;> omega
  · rw [gen_set _ _ _ _ _ _ hk', if_neg (hnl p hp)]
    exact h.alive p (by simp [hp])
  · rw [hh.2]
    apply List.map_congr_left
    intro p hp
    rw [val_set _ _ _ _ _ _ hk', if_neg (hnl p hp)]
  · rw [gen_set _ _ _ _ _ _ hk']
    simp only [List.mem_append, List.mem_singleton] at hp
    rcases hp with hp | rfl
    · have := h.gone p hp
      refine ⟨this.1, ?_⟩
      split
      · rename_i e; rw [e] at this; omega
      · exact this.2
    · exact ⟨hk, by rw [if_pos rfl]; show g < g + 1; omega⟩
  · have e := h.perm
    refine List.Perm.trans ?_ e
    show ((s.free ++ [k]) ++ live.map (·.1)).Perm _
    rw [List.append_assoc]
    simp
  · rw [gen_set _ _ _ _ _ _ hk']
    rcases List.mem_append.1 hj with hj | hj
    · rw [if_neg (fun e => hnd2.1.1 (by have hj2 := hj; rw [e] at hj2; exact hj2))]; exact h.even j hj
    · have : j = k := by simpa using hj
      rw [if_pos this]; omega

/-- The handles of the live slots, as Live tells them. -/
def handles (sl : List (Int × Int)) : List (Int × Int) := ((List.range sl.length).filter fun j => (sl.getD j (0, 0)).1 % 2 == 1).map fun j : Nat => ((j : Int), (sl.getD j (0, 0)).1)

theorem El.handles (h : El n i live dead hold s) : (handles s.sl).length = live.length := by
  have h1 : ((List.range n).filter fun j => gen s j % 2 == 1).length = live.length := by
    have := ((h.perm.filter fun j => gen s j % 2 == 1).length_eq).symm
    rw [List.filter_append, List.length_append] at this
    rw [this]
    have e1 : s.free.filter (fun j => gen s j % 2 == 1) = [] := by
      apply List.filter_eq_nil_iff.2
      intro j hj
      have := h.even j hj
      simp; omega
    have e2 : (live.map (·.1)).filter (fun j => gen s j % 2 == 1) = live.map (·.1) := by
      apply List.filter_eq_self.2
      intro j hj
      obtain ⟨p, hp, rfl⟩ := List.mem_map.1 hj
      obtain ⟨a, b⟩ := h.alive p hp
      simp; omega
    rw [e1, e2]; simp
  unfold Go.Proofs.Ytpmolcbfjjibgaa.handles
  rw [List.length_map, h.len]
  exact h1
end Go.Proofs.Ytpmolcbfjjibgaa
