/- Chapter 2, plain: holders of one lock. -/
import Derived.Test.YtmhmgenchpemkaaPairRun
namespace Go.Proofs.Ytmhmgenchpemkaa
open Go.RowKit

section
variable {s : MS} {pre : List Int} {c : Int}
theorem loadA (h : s.ws = pre ++ [c]) : (s.load pre.length).1 = c ∧ (s.load pre.length).2.2.ws = pre ++ [c] := by simp [MS.load, h, MS.acc, Int.lt_succ]
theorem storeA (h : s.ws = pre ++ [c]) (v : Int) : (s.store pre.length v).2.ws = pre ++ [v] := by simp [MS.store, h, MS.acc, Int.lt_succ]
theorem swapA_yes (h : s.ws = pre ++ [0]) (v : Int) : (s.swap pre.length 0 v).1 = true ∧ (s.swap pre.length 0 v).2.2.ws = pre ++ [v] := by simp [MS.swap, h, MS.acc, Int.lt_succ]
theorem swapA_not (h : s.ws = pre ++ [c]) (hc : c ≠ 0) (v : Int) : (s.swap pre.length 0 v).1 = false ∧ (s.swap pre.length 0 v).2.2.ws = pre ++ [c] := by simp [MS.swap, h, MS.acc, hc, Int.lt_succ]
end

def cOf : Option Nat → Int
  | none => 0
  | some i => (i : Int) + 1
inductive HOk (a : Nat) (k : Nat) (h : Option Nat) (i : Nat) (x : Mch) : Prop
  | fin (ha : x.at_ = a) (hw : x.work = k) (hk : x.kind = 1) (hd : x.done = true) (hh : h ≠ some i)
  | w0 (ha : x.at_ = a) (hw : x.work = k) (hk : x.kind = 1) (hd : x.done = false) (hh : h ≠ some i) (hp : x.pc = 0)
  | h3 (ha : x.at_ = a) (hw : x.work = k) (hk : x.kind = 1) (hd : x.done = false) (hh : h = some i) (hp : x.pc = 3) (l0 : 1 ≤ x.left) (l1 : x.left ≤ k)
  | h5 (ha : x.at_ = a) (hw : x.work = k) (hk : x.kind = 1) (hd : x.done = false) (hh : h = some i) (hp : x.pc = 5)
structure HoldI (a k : Nat) (L : List Mch) (h : Option Nat) : Prop where
  ok : ∀ (i : Nat) (x : Mch), L[i]? = some x → HOk a k h i x
  hold : ∀ i, h = some i → i < L.length
def hrem (k : Nat) (x : Mch) : Nat := if x.pc = 0 then k + 2 else if x.pc = 3 then x.left.toNat + 1 else 1

theorem HoldI.put {a k : Nat} {L : List Mch} {h h' : Option Nat} {j : Nat} {x x' : Mch} (H : HoldI a k L h) (hx : L[j]? = some x) (h1 : HOk a k h' j x') (h2 : ∀ i, i ≠ j → (h' = some i ↔ h = some i)) : HoldI a k (L.set j x') h' := by
  have hj := (List.getElem?_eq_some_iff.1 hx).1
  refine ⟨fun i y hy => ?_, fun i hi => ?_⟩
  · by_cases e : j = i
    · subst e; rw [List.getElem?_set_self hj] at hy; cases hy; exact h1
    · rw [List.getElem?_set_ne e] at hy
      have hiff := h2 i (fun q => e q.symm)
      cases H.ok i y hy with
      | fin ha hw hk hd hh => exact .fin ha hw hk hd (fun g => hh (hiff.1 g))
      | w0 ha hw hk hd hh hp => exact .w0 ha hw hk hd (fun g => hh (hiff.1 g)) hp
      | h3 ha hw hk hd hh hp l0 l1 => exact .h3 ha hw hk hd (hiff.2 hh) hp l0 l1
      | h5 ha hw hk hd hh hp => exact .h5 ha hw hk hd (hiff.2 hh) hp
  · rw [List.length_set]
    by_cases e : i = j
    · subst e; exact hj
    · exact H.hold i ((h2 i e).1 hi)
inductive HGo (k : Nat) (h h' : Option Nat) (j : Nat) (x x' : Mch) : Prop
  | take (e : h = none) (e' : h' = some j) (hd : x'.done = false) (hr : hrem k x = k + 2) (hr' : hrem k x' = k + 1)
  | on (e : h = some j) (e' : h' = some j) (hd : x'.done = false) (hr : hrem k x' + 1 = hrem k x)
  | fin (e : h = some j) (e' : h' = none) (hd : x'.done = true) (hr : hrem k x = 1)
  | wait (i : Nat) (e : h = some i) (e' : h' = some i) (hij : i ≠ j) (hd : x'.done = false)
theorem hold_step {k : Nat} {L : List Mch} {h : Option Nat} {j : Nat} {x : Mch} {s : MS} {pre : List Int} (H : HoldI pre.length k L h) (hs : s.ws = pre ++ [cOf h]) (hx : L[j]? = some x) (hd : x.done = false) (hk9 : k ≤ 100) :
    ∃ h', (holdM s x ((j : Int) + 1)).2.ws = pre ++ [cOf h'] ∧ HoldI pre.length k (L.set j (holdM s x ((j : Int) + 1)).1) h' ∧ HGo k h h' j x (holdM s x ((j : Int) + 1)).1 := by
  cases H.ok j x hx with
  | fin ha hw hk hd' hh => rw [hd] at hd'; cases hd'
  | w0 ha hw hk hd hh hp =>
    cases h with
    | none =>
      have e : holdM s x ((j : Int) + 1) = ({ x with left := x.work, pc := if x.work = 0 then 5 else 3 }, (s.swap pre.length 0 ((j : Int) + 1)).2.2) := by rw [holdM, if_pos hp, ha, if_pos (swapA_yes hs _).1]
      rw [e]
      have hiff : ∀ i, i ≠ j → (some j = some i ↔ (none : Option Nat) = some i) := fun i hij => ⟨(fun g => by cases g; exact absurd rfl hij), (fun g => by cases g)⟩
      by_cases hw0 : x.work = 0
      · refine ⟨some j, (swapA_yes hs _).2, H.put hx (.h5 ha hw hk hd rfl (by simp [hw0])) hiff, .take rfl rfl hd (by simp [hrem, hp]) ?_⟩
        simp [hrem, hw0]; omega
      · refine ⟨some j, (swapA_yes hs _).2, H.put hx (.h3 ha hw hk hd rfl (by simp [hw0]) (by simp; omega) (by simp; omega)) hiff, .take rfl rfl hd (by simp [hrem, hp]) ?_⟩
        simp [hrem, hw0]; omega
    | some i =>
      have e : holdM s x ((j : Int) + 1) = (x.again, (s.swap pre.length 0 ((j : Int) + 1)).2.2) := by rw [holdM, if_pos hp, ha, if_neg (by rw [(swapA_not hs (by simp [cOf]; omega) _).1]; simp)]
      rw [e]
      exact ⟨some i, (swapA_not hs (by simp [cOf]; omega) _).2, H.put hx (.w0 ha hw hk hd hh rfl) (fun _ _ => Iff.rfl), .wait i rfl rfl (fun g => hh (by rw [g])) hd⟩
  | h3 ha hw hk hd hh hp l0 l1 =>
    subst hh
    have e2 : wrap64 (x.left - 1) = x.left - 1 := wrap_le (by omega) (by omega)
    have e : holdM s x ((j : Int) + 1) = ({ x with left := x.left - 1, pc := if x.left - 1 = 0 then 5 else 3 }, (s.load pre.length).2.2) := by rw [holdM, if_neg (by omega), if_pos hp, ha, e2]
    rw [e]
    by_cases hl : x.left - 1 = 0
    · refine ⟨some j, (loadA hs).2, H.put hx (.h5 ha hw hk hd rfl (by simp [hl])) (fun _ _ => Iff.rfl), .on rfl rfl hd ?_⟩
      simp [hrem, hp, hl]; omega
    · refine ⟨some j, (loadA hs).2, H.put hx (.h3 ha hw hk hd rfl (by simp [hl]) (by simp; omega) (by simp; omega)) (fun _ _ => Iff.rfl), .on rfl rfl hd ?_⟩
      simp [hrem, hp, hl]; omega
  | h5 ha hw hk hd hh hp =>
    subst hh
    have e : holdM s x ((j : Int) + 1) = ({ x with done := true }, (s.store pre.length 0).2) := by rw [holdM, if_neg (by omega), if_neg (by omega), ha]
    rw [e]
    exact ⟨none, storeA hs 0, H.put hx (.fin ha hw hk rfl (fun g => by cases g)) (fun i hij => ⟨(fun g => by cases g), (fun g => by cases g; exact absurd rfl hij)⟩), .fin rfl rfl rfl (by simp [hrem, hp])⟩

def HLead (k : Nat) (L : List Mch) (h : Option Nat) (j φ : Nat) : Prop :=
  ∃ x, L[j]? = some x ∧ x.done = false ∧ ((h = some j ∧ φ = hrem k x) ∨ (h = none ∧ φ = k + 2))
theorem hlead_any {a k : Nat} {L : List Mch} {h : Option Nat} (H : HoldI a k L h) (hl : undone L L.length ≠ []) : ∃ j φ, HLead k L h j φ ∧ j ∈ undone L L.length ∧ φ ≤ k + 2 := by
  cases h with
  | none =>
    obtain ⟨j, hj⟩ : ∃ j, j ∈ undone L L.length := List.exists_mem_of_ne_nil _ hl
    obtain ⟨_, x, hx, hd⟩ := undone_mem hj
    exact ⟨j, _, ⟨x, hx, hd, .inr ⟨rfl, rfl⟩⟩, hj, Nat.le_refl _⟩
  | some i =>
    obtain ⟨x, hx⟩ : ∃ x, L[i]? = some x := ⟨_, List.getElem?_eq_getElem (H.hold i rfl)⟩
    have fin : x.done = false → hrem k x ≤ k + 2 → ∃ j φ, HLead k L (some i) j φ ∧ j ∈ undone L L.length ∧ φ ≤ k + 2 := fun h1 h2 => ⟨i, _, ⟨_, hx, h1, .inl ⟨rfl, rfl⟩⟩, undone_of hx h1, h2⟩
    cases H.ok i _ hx with
    | fin ha hw hk hd hh => exact absurd rfl hh
    | w0 ha hw hk hd hh hp => exact absurd rfl hh
    | h3 ha hw hk hd hh hp l0 l1 => exact fin hd (by simp [hrem, hp]; omega)
    | h5 ha hw hk hd hh hp => exact fin hd (by simp [hrem, hp])
theorem hlead_go {k : Nat} {L : List Mch} {h h' : Option Nat} {j : Nat} {x x' : Mch} (hx : L[j]? = some x) (hd : x.done = false) (hd' : x'.done = false) (hg : HGo k h h' j x x') :
    ∀ jl φ, HLead k L h jl φ → ∃ jl' φ', HLead k (L.set j x') h' jl' φ' ∧ jl' ∈ undone L L.length ∧ (φ' < φ ∨ (j ≠ jl ∧ jl' = jl ∧ φ' = φ)) := by
  have hj := (List.getElem?_eq_some_iff.1 hx).1
  have hgt := List.getElem?_set_self (a := x') hj
  rintro jl φ ⟨y, hy, hyd, hc⟩
  cases hg with
  | take e e' hd1 hr hr' =>
    subst e e'
    rcases hc with ⟨h1, _⟩ | ⟨_, rfl⟩
    · cases h1
    · exact ⟨j, _, ⟨x', hgt, hd', .inl ⟨rfl, rfl⟩⟩, undone_of hx hd, .inl (by omega)⟩
  | on e e' hd1 hr =>
    subst e e'
    rcases hc with ⟨h1, rfl⟩ | ⟨h1, _⟩
    · cases h1
      rw [hx] at hy; cases hy
      exact ⟨j, _, ⟨x', hgt, hd', .inl ⟨rfl, rfl⟩⟩, undone_of hx hd, .inl (by omega)⟩
    · cases h1
  | fin e e' hd1 hr => rw [hd'] at hd1; cases hd1
  | wait i e e' hij hd1 =>
    subst e e'
    rcases hc with ⟨h1, rfl⟩ | ⟨h1, _⟩
    · cases h1
      exact ⟨jl, _, ⟨y, by rw [List.getElem?_set_ne (fun g => hij g.symm)]; exact hy, hyd, .inl ⟨rfl, rfl⟩⟩, undone_of hy hyd, .inr ⟨fun g => hij g.symm, rfl, rfl⟩⟩
    · cases h1
def hjob (a k : Nat) : Jb := ⟨1, a, k, 0, 0⟩
theorem hold_start (a k n : Nat) : HoldI a k ((List.replicate n (hjob a k)).map Jb.mch) none := by
  refine ⟨fun i x hx => ?_, fun i h => by cases h⟩
  rw [List.map_replicate, List.getElem?_replicate] at hx
  split at hx
  · cases hx; exact .w0 rfl rfl rfl rfl (fun h => by cases h) rfl
  · cases hx
theorem undone_new (a k n : Nat) : (undone ((List.replicate n (hjob a k)).map Jb.mch) ((List.replicate n (hjob a k)).map Jb.mch).length).length = n := by
  rw [undone_len, List.map_replicate, List.countP_replicate]
  simp [hjob, Jb.mch, Mch.new]

/-- Holders that are picked in turn: between two rounds. -/
structure FState (n k fr i : Nat) (L : List Mch) (s : MS) (held : Nat) : Prop where
  len : L.length = n
  le : n ≤ 8
  ex : ∃ h, s.ws = [0] ++ [cOf h] ∧ HoldI 1 k L h ∧ held + (undone L L.length).length = n + (if h.isSome then 1 else 0) ∧ (undone L L.length = [] ∨ ∃ Ψ, Pot (HLead k L h) (undone L L.length) i Ψ ∧ i + ((undone L L.length).length - 1) * 80 + Ψ < fr + 1000)
theorem hpot_again {a k : Nat} {L : List Mch} {h : Option Nat} (H : HoldI a k L h) (h8 : L.length ≤ 8) (hk : k ≤ 6) (i B : Nat) (hB : undone L L.length ≠ [] → i + ((undone L L.length).length - 1) * 80 + 80 ≤ B) :
    undone L L.length = [] ∨ ∃ Ψ, Pot (HLead k L h) (undone L L.length) i Ψ ∧ i + ((undone L L.length).length - 1) * 80 + Ψ < B := by
  by_cases h0 : undone L L.length = []
  · exact .inl h0
  · right
    obtain ⟨j, φ, h1, h2, h3⟩ := hlead_any H h0
    obtain ⟨Ψ, h4, h5⟩ := pot_new h1 h2 (show φ ≤ 8 by omega) i
    have := undone_le L L.length
    have := hB h0
    refine ⟨Ψ, h4, ?_⟩
    have : (8 + 1) * (undone L L.length).length ≤ 80 := by omega
    omega
theorem fair_start {n k fr : Nat} {s : MS} (hs : s.ws = [0, 0]) (hn : n ≤ 8) (hk : k ≤ 6) : FState n k fr fr ((List.replicate n (hjob 1 k)).map Jb.mch) s 0 := by
  refine ⟨by simp, hn, none, by rw [hs]; rfl, hold_start 1 k n, by rw [undone_new]; simp, ?_⟩
  refine hpot_again (hold_start 1 k n) (by simpa using hn) hk fr _ (fun _ => ?_)
  rw [undone_new]; omega
theorem fair_round {n k fr i : Nat} {L : List Mch} {s : MS} {held : Nat} {a : Int} (H : FState n k fr i L s held) (hk : k ≤ 6) (hp : pickOf L (i : Int) = (a, true)) :
    ∃ (j : Nat) (x : Mch) (c c' : Int), a = (j : Int) ∧ L[j]? = some x ∧ x.done = false ∧ stepM s x j = holdM s x (j + 1) ∧ s.ws = [0, c] ∧ (holdM s x (j + 1)).2.ws = [0, c'] ∧ FState n k fr (i + 1) (L.set j (holdM s x (j + 1)).1) (holdM s x (j + 1)).2 (if c = 0 ∧ c' ≠ 0 then held + 1 else held) := by
  obtain ⟨j, x, rfl, hx, hd, hmem, hat⟩ := pick_yes hp
  obtain ⟨hlen, hle, h, hs, HI, hcnt, hb⟩ := H
  have hk1 : x.kind = 1 := by cases HI.ok j x hx <;> assumption
  obtain ⟨h', hs', HI', hg⟩ := hold_step (pre := [0]) HI hs hx hd (by omega)
  have hne : undone L L.length ≠ [] := List.ne_nil_of_mem hmem
  have hlen' : (L.set j (holdM s x (j + 1)).1).length = n := by simpa using hlen
  refine ⟨j, x, _, _, rfl, hx, hd, by rw [stepM, if_pos hk1], hs, hs', hlen', hle, h', hs', HI', ?_, ?_⟩
  · cases hd' : (holdM s x (j + 1)).1.done
    · rw [undone_set hx (hd'.trans hd.symm)]
      cases hg with
      | take e e' => subst e e'; simp [cOf] at hcnt ⊢; first | omega | (rw [if_neg (by omega)]; omega)
      | on e e' => subst e e'; simp [cOf] at hcnt ⊢; first | omega | (rw [if_neg (by omega)]; omega)
      | fin e e' hd1 => rw [hd'] at hd1; cases hd1
      | wait i e e' => subst e e'; simp [cOf] at hcnt ⊢; first | omega | (rw [if_neg (by omega)]; omega)
    · have hU := undone_fin hx hd hd'
      cases hg with
      | take e e' hd1 => rw [hd'] at hd1; cases hd1
      | on e e' hd1 => rw [hd'] at hd1; cases hd1
      | fin e e' hd1 => subst e e'; simp [cOf] at hcnt ⊢; rw [List.length_set] at hU; omega
      | wait i e e' hij hd1 => rw [hd'] at hd1; cases hd1
  · rcases hb with hb | ⟨Ψ, hP, hB⟩
    · exact absurd hb hne
    · cases hd' : (holdM s x (j + 1)).1.done
      · rw [undone_set hx (hd'.trans hd.symm)]
        obtain ⟨Ψ', g1, g2⟩ := pot_go hP (hat i rfl) (hlead_go hx hd hd' hg)
        exact .inr ⟨Ψ', g1, by omega⟩
      · have hU := undone_fin hx hd hd'
        refine hpot_again HI' (by omega) hk (i + 1) _ (fun h0 => ?_)
        have := List.length_pos_iff.2 h0
        omega
theorem fair_end {n k fr i : Nat} {L : List Mch} {s : MS} {held : Nat} (H : FState n k fr i L s held) (hi : fr + 1000 ≤ i ∨ undone L L.length = []) : held = n ∧ ∀ (i : Nat) (x : Mch), L[i]? = some x → x.done = true := by
  obtain ⟨hlen, hle, h, hs, HI, hcnt, hb⟩ := H
  have h0 : undone L L.length = [] := by
    rcases hi with hi | hi
    · rcases hb with hb | ⟨Ψ, hP, hB⟩
      · exact hb
      · omega
    · exact hi
  have hn : h = none := by
    cases h with
    | none => rfl
    | some i =>
      have hx := List.getElem?_eq_getElem (HI.hold i rfl)
      have hd := all_done h0 hx
      cases HI.ok i _ hx with
      | fin ha hw hk hd hh => exact absurd rfl hh
      | w0 ha hw hk hd hh hp => exact absurd rfl hh
      | h3 ha hw hk hd' => rw [hd] at hd'; cases hd'
      | h5 ha hw hk hd' => rw [hd] at hd'; cases hd'
  rw [h0, hn] at hcnt
  simp at hcnt
  exact ⟨hcnt, fun i x hx => all_done h0 hx⟩
end Go.Proofs.Ytmhmgenchpemkaa
