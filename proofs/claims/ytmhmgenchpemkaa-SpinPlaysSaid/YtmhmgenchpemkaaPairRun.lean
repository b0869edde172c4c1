/- Chapter 2, plain: a run of writers and readers comes to its end, whatever is picked. -/
import Derived.Test.YtmhmgenchpemkaaPairLaw
namespace Go.Proofs.Ytmhmgenchpemkaa
open Go.RowKit

theorem pick_yes {L : List Mch} {n a : Int} (h : pickOf L n = (a, true)) : ∃ (j : Nat) (x : Mch), a = (j : Int) ∧ L[j]? = some x ∧ x.done = false ∧ j ∈ undone L L.length ∧ ∀ i : Nat, n = (i : Int) → (undone L L.length)[i % (undone L L.length).length]? = some j := by
  unfold pickOf at h
  split at h
  · cases h
  · rename_i h0
    have hm : 0 < (undone L L.length).length := by cases hu : undone L L.length; exact absurd hu h0; simp
    have ht : 0 ≤ turned n := by unfold turned; split <;> omega
    have hb : (turned n % (undone L L.length).length).toNat < (undone L L.length).length := by
      have h1 := Int.emod_nonneg (turned n) (show ((undone L L.length).length : Int) ≠ 0 by omega)
      have h2 := Int.emod_lt_of_pos (turned n) (show (0 : Int) < (undone L L.length).length by omega)
      omega
    have hg := List.getElem?_eq_getElem hb
    have hmem : (undone L L.length)[(turned n % (undone L L.length).length).toNat] ∈ undone L L.length := List.getElem_mem hb
    obtain ⟨_, x, hx, hd⟩ := undone_mem hmem
    refine ⟨_, x, ?_, hx, hd, hmem, ?_⟩
    · have := (Prod.mk.inj h).1
      rw [← this, List.getD_eq_getElem?_getD, hg]; rfl
    · rintro i rfl
      rw [← hg]
      congr 1
theorem pick_no {L : List Mch} {n a : Int} (h : pickOf L n = (a, false)) : undone L L.length = [] := by
  unfold pickOf at h
  split at h
  · assumption
  · cases h
theorem all_done {L : List Mch} (h : undone L L.length = []) {i : Nat} {x : Mch} (hx : L[i]? = some x) : x.done = true := by
  cases hd : x.done
  · have := undone_of hx hd; rw [h] at this; cases this
  · rfl

/-- Between two rounds. -/
def PState (W k : Nat) (i : Nat) (L : List Mch) (s : MS) : Prop :=
  L.length ≤ 7 ∧ ∃ c p q h, s.ws = [c, p, q] ∧ PairI W k L c p q h ∧ (undone L L.length = [] ∨ i < 300 ∨ ∃ Ψ, Pot (Lead k L c h) (undone L L.length) i Ψ ∧ i + ((undone L L.length).length - 1) * 126 + Ψ < 2000)
theorem pot_again {W k : Nat} {L : List Mch} {c p q : Int} {h : Option Nat} (H : PairI W k L c p q h) (h7 : L.length ≤ 7) (hk : k ≤ 5) (i B : Nat) (hB : i + ((undone L L.length).length - 1) * 126 + 126 ≤ B) :
    undone L L.length = [] ∨ ∃ Ψ, Pot (Lead k L c h) (undone L L.length) i Ψ ∧ i + ((undone L L.length).length - 1) * 126 + Ψ < B := by
  by_cases h0 : undone L L.length = []
  · exact .inl h0
  · right
    obtain ⟨j, φ, h1, h2, h3⟩ := lead_any H h0
    obtain ⟨Ψ, h4, h5⟩ := pot_new h1 h2 (show φ ≤ 17 by omega) i
    have := undone_le L L.length
    refine ⟨Ψ, h4, ?_⟩
    have : (17 + 1) * (undone L L.length).length ≤ 126 := by omega
    omega
theorem pair_round {W k i : Nat} {L : List Mch} {s : MS} {n a : Int} (H : PState W k i L s) (hk : k ≤ 5) (hn : 300 ≤ i → n = (i : Int)) (hp : pickOf L n = (a, true)) :
    ∃ (j : Nat) (x : Mch), a = (j : Int) ∧ L[j]? = some x ∧ x.done = false ∧ stepM s x j = pairM s x ∧ PState W k (i + 1) (L.set j (pairM s x).1) (pairM s x).2 := by
  obtain ⟨j, x, rfl, hx, hd, hmem, hat⟩ := pick_yes hp
  obtain ⟨h7, c, p, q, h, hs, HI, hb⟩ := H
  have hk1 : x.kind ≠ 1 := by
    cases HI.ok j x hx <;> omega
  obtain ⟨c', p', q', h', hs', HI', hnx⟩ := pair_step HI hs hx hd (by omega)
  have h7' : (L.set j (pairM s x).1).length ≤ 7 := by simpa using h7
  refine ⟨j, x, rfl, hx, hd, by rw [stepM, if_neg hk1], h7', c', p', q', h', hs', HI', ?_⟩
  have hne : undone L L.length ≠ [] := List.ne_nil_of_mem hmem
  rcases Nat.lt_or_ge (i + 1) 300 with hi | hi
  · exact .inr (.inl hi)
  have fresh : ∀ m : Nat, (undone (L.set j (pairM s x).1) (L.set j (pairM s x).1).length).length ≤ m → (i + 1) + (m - 1) * 126 + 126 ≤ 2000 → undone (L.set j (pairM s x).1) (L.set j (pairM s x).1).length = [] ∨ i + 1 < 300 ∨ ∃ Ψ, Pot (Lead k (L.set j (pairM s x).1) c' h') (undone (L.set j (pairM s x).1) (L.set j (pairM s x).1).length) (i + 1) Ψ ∧ (i + 1) + ((undone (L.set j (pairM s x).1) (L.set j (pairM s x).1).length).length - 1) * 126 + Ψ < 2000 := by
    intro m hm hmb
    rcases pot_again HI' h7' hk (i + 1) 2000 (by omega) with g | g
    · exact .inl g
    · exact .inr (.inr g)
  rcases Nat.lt_or_ge i 300 with hi3 | hi3
  · have := undone_le (L.set j (pairM s x).1) (L.set j (pairM s x).1).length
    exact fresh 7 (by omega) (by omega)
  · rcases hb with hb | hb | ⟨Ψ, hP, hB⟩
    · exact absurd hb hne
    · omega
    · cases hd' : (pairM s x).1.done
      · have hU := undone_set hx (hd'.trans hd.symm)
        rw [hU]
        obtain ⟨Ψ', g1, g2⟩ := pot_go hP (hat i (hn hi3)) (hnx hd')
        exact .inr (.inr ⟨Ψ', g1, by omega⟩)
      · have hU := undone_fin hx hd hd'
        by_cases h0 : undone (L.set j (pairM s x).1) (L.set j (pairM s x).1).length = []
        · exact .inl h0
        · have : 0 < (undone (L.set j (pairM s x).1) (L.set j (pairM s x).1).length).length := List.length_pos_iff.2 h0
          exact fresh _ (Nat.le_refl _) (by omega)
theorem pair_end {W k i : Nat} {L : List Mch} {s : MS} (H : PState W k i L s) (hi : 2000 ≤ i ∨ undone L L.length = []) : undone L L.length = [] ∧ ∃ p, s.ws = [2 * (W : Int), p, wrap64 (p + 100)] ∧ ∀ (i : Nat) (x : Mch), L[i]? = some x → x.done = true ∧ (W ≤ i → x.sb = wrap64 (x.sa + 100)) := by
  obtain ⟨h7, c, p, q, h, hs, HI, hb⟩ := H
  have h0 : undone L L.length = [] := by
    rcases hi with hi | hi
    · rcases hb with hb | hb | ⟨Ψ, hP, hB⟩
      · exact hb
      · omega
      · omega
    · exact hi
  have hz : L.countP alive = 0 := by
    rw [List.countP_eq_zero]
    intro x hx
    obtain ⟨i, hi⟩ := List.mem_iff_getElem?.1 hx
    simp [alive, all_done h0 hi]
  have hn : h = none := by
    cases h with
    | none => rfl
    | some i =>
      have hil := (HI.hold i rfl).2
      have hx := List.getElem?_eq_getElem hil
      have hd := all_done h0 hx
      cases HI.ok i _ hx with
      | wdone hi ha hw hk hb hd' hh => exact absurd rfl hh
      | w0 hi ha hw hk hb hd' hh => exact absurd rfl hh
      | w1 hi ha hw hk hb hd' hh => exact absurd rfl hh
      | h2 hi ha hw hk hb hd' => rw [hd] at hd'; cases hd'
      | h3 hi ha hw hk hb hd' => rw [hd] at hd'; cases hd'
      | h5 hi ha hw hk hb hd' => rw [hd] at hd'; cases hd'
      | rdone hi => have := (HI.hold i rfl).1; omega
      | r0 hi => have := (HI.hold i rfl).1; omega
      | r2 hi => have := (HI.hold i rfl).1; omega
      | r3 hi => have := (HI.hold i rfl).1; omega
      | r5 hi => have := (HI.hold i rfl).1; omega
  have hc := HI.cnt
  rw [hz, hn] at hc
  simp at hc
  refine ⟨h0, p, by rw [hs, hc, HI.free hn], fun i x hx => ⟨all_done h0 hx, fun hW => ?_⟩⟩
  have hd := all_done h0 hx
  cases HI.ok i x hx with
  | rdone hi ha hw hk hd' hs => exact hs
  | wdone hi => omega
  | w0 hi => omega
  | w1 hi => omega
  | h2 hi => omega
  | h3 hi => omega
  | h5 hi => omega
  | r0 hi ha hw hk hd' => rw [hd] at hd'; cases hd'
  | r2 hi ha hw hk hd' => rw [hd] at hd'; cases hd'
  | r3 hi ha hw hk hd' => rw [hd] at hd'; cases hd'
  | r5 hi ha hw hk hd' => rw [hd] at hd'; cases hd'
/-- The jobs of the statement. -/
def pjob (W k i : Nat) : Jb := if i < W then ⟨2, 0, k, 10 + i, 100 + 10 + i⟩ else ⟨3, 0, k, 0, 0⟩
theorem pair_start {W k N : Nat} {s : MS} (hs : s.ws = [0, 0, 100]) (hW : W ≤ 8) (hN : N ≤ 7) (hWN : W ≤ N) : PState W k 0 ((List.range N).map fun i => (pjob W k i).mch) s := by
  refine ⟨by simpa using hN, 0, 0, 100, none, hs, ⟨?_, ?_, (fun _ => by unfold wrap64; omega), (fun _ h => by cases h), hW, by omega⟩, .inr (.inl (by omega))⟩
  · intro i x hx
    rw [List.getElem?_map] at hx
    rcases Nat.lt_or_ge i N with hi | hi
    · rw [List.getElem?_range hi] at hx
      simp at hx; subst hx
      by_cases hw : i < W
      · rw [pjob, if_pos hw]
        exact .w0 hw rfl rfl rfl (by simp [Jb.mch, Mch.new]; unfold wrap64; omega) rfl (fun h => by cases h) rfl
      · rw [pjob, if_neg hw]
        exact .r0 (by omega) rfl rfl rfl rfl rfl
    · rw [List.getElem?_eq_none (by simpa using hi)] at hx; cases hx
  · have : ∀ N, (((List.range N).map fun i => (pjob W k i).mch).countP alive) = min N W := by
      intro N
      induction N with
      | zero => simp
      | succ N ih =>
        rw [List.range_succ, List.map_append, List.countP_append, ih]
        by_cases hw : N < W
        · simp [pjob, hw, Jb.mch, Mch.new, alive]; omega
        · simp [pjob, hw, Jb.mch, Mch.new, alive]; omega
    rw [this]; simp; omega
end Go.Proofs.Ytmhmgenchpemkaa
