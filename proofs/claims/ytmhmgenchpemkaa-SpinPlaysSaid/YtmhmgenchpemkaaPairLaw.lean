/- Chapter 2, plain: writers and readers of one pair. -/
import Derived.Test.YtmhmgenchpemkaaPot
namespace Go.Proofs.Ytmhmgenchpemkaa
open Go.RowKit

section
variable {s : MS} {c p q : Int}
theorem load_0 (h : s.ws = [c, p, q]) : (s.load 0).1 = c ∧ (s.load 0).2.2.ws = [c, p, q] := by simp [MS.load, h, MS.acc]
theorem load_1 (h : s.ws = [c, p, q]) : (s.load (wrap64 (0 + 1))).1 = p ∧ (s.load (wrap64 (0 + 1))).2.2.ws = [c, p, q] := by
  have e : wrap64 (0 + 1) = 1 := by unfold wrap64; omega
  rw [e]; simp [MS.load, h, MS.acc]
theorem load_2 (h : s.ws = [c, p, q]) : (s.load (wrap64 (0 + 2))).1 = q ∧ (s.load (wrap64 (0 + 2))).2.2.ws = [c, p, q] := by
  have e : wrap64 (0 + 2) = 2 := by unfold wrap64; omega
  rw [e]; simp [MS.load, h, MS.acc]
theorem store_0 (h : s.ws = [c, p, q]) (v : Int) : (s.store 0 v).2.ws = [v, p, q] := by simp [MS.store, h, MS.acc]
theorem store_1 (h : s.ws = [c, p, q]) (v : Int) : (s.store (wrap64 (0 + 1)) v).2.ws = [c, v, q] := by
  have e : wrap64 (0 + 1) = 1 := by unfold wrap64; omega
  rw [e]; simp [MS.store, h, MS.acc]
theorem store_2 (h : s.ws = [c, p, q]) (v : Int) : (s.store (wrap64 (0 + 2)) v).2.ws = [c, p, v] := by
  have e : wrap64 (0 + 2) = 2 := by unfold wrap64; omega
  rw [e]; simp [MS.store, h, MS.acc]
theorem swap_yes (h : s.ws = [c, p, q]) (v : Int) : (s.swap 0 c v).1 = true ∧ (s.swap 0 c v).2.2.ws = [v, p, q] := by simp [MS.swap, h, MS.acc]
theorem swap_not (h : s.ws = [c, p, q]) {o : Int} (ho : c ≠ o) (v : Int) : (s.swap 0 o v).1 = false ∧ (s.swap 0 o v).2.2.ws = [c, p, q] := by simp [MS.swap, h, MS.acc, ho]
end

/-- One machine, where W machines write, each loads k times between; h holds the count. -/
inductive Ok (W k : Nat) (c p q : Int) (h : Option Nat) (i : Nat) (x : Mch) : Prop
  | wdone (hi : i < W) (ha : x.at_ = 0) (hw : x.work = k) (hk : x.kind = 2) (hb : x.b = wrap64 (x.a + 100)) (hd : x.done = true) (hh : h ≠ some i)
  | w0 (hi : i < W) (ha : x.at_ = 0) (hw : x.work = k) (hk : x.kind = 2) (hb : x.b = wrap64 (x.a + 100)) (hd : x.done = false) (hh : h ≠ some i) (hp : x.pc = 0)
  | w1 (hi : i < W) (ha : x.at_ = 0) (hw : x.work = k) (hk : x.kind = 2) (hb : x.b = wrap64 (x.a + 100)) (hd : x.done = false) (hh : h ≠ some i) (hp : x.pc = 1) (he : x.count % 2 = 0)
  | h2 (hi : i < W) (ha : x.at_ = 0) (hw : x.work = k) (hk : x.kind = 2) (hb : x.b = wrap64 (x.a + 100)) (hd : x.done = false) (hh : h = some i) (hp : x.pc = 2) (hc : x.count = c - 1)
  | h3 (hi : i < W) (ha : x.at_ = 0) (hw : x.work = k) (hk : x.kind = 2) (hb : x.b = wrap64 (x.a + 100)) (hd : x.done = false) (hh : h = some i) (hp : x.pc = 3) (hc : x.count = c - 1) (e1 : p = x.a) (l0 : 0 ≤ x.left) (l1 : x.left ≤ k)
  | h5 (hi : i < W) (ha : x.at_ = 0) (hw : x.work = k) (hk : x.kind = 2) (hb : x.b = wrap64 (x.a + 100)) (hd : x.done = false) (hh : h = some i) (hp : x.pc = 5) (hc : x.count = c - 1) (e1 : p = x.a) (e2 : q = x.b)
  | rdone (hi : W ≤ i) (ha : x.at_ = 0) (hw : x.work = k) (hk : x.kind = 3) (hd : x.done = true) (hs : x.sb = wrap64 (x.sa + 100))
  | r0 (hi : W ≤ i) (ha : x.at_ = 0) (hw : x.work = k) (hk : x.kind = 3) (hd : x.done = false) (hp : x.pc = 0)
  | r2 (hi : W ≤ i) (ha : x.at_ = 0) (hw : x.work = k) (hk : x.kind = 3) (hd : x.done = false) (hp : x.pc = 2) (he : x.count % 2 = 0) (hl : x.count ≤ c)
  | r3 (hi : W ≤ i) (ha : x.at_ = 0) (hw : x.work = k) (hk : x.kind = 3) (hd : x.done = false) (hp : x.pc = 3) (he : x.count % 2 = 0) (hl : x.count ≤ c) (l0 : 0 ≤ x.left) (l1 : x.left ≤ k) (e1 : x.count = c → x.ra = p)
  | r5 (hi : W ≤ i) (ha : x.at_ = 0) (hw : x.work = k) (hk : x.kind = 3) (hd : x.done = false) (hp : x.pc = 5) (he : x.count % 2 = 0) (hl : x.count ≤ c) (e1 : x.count = c → x.ra = p) (e2 : x.count = c → x.rb = q)

def alive (x : Mch) : Bool := !x.done && x.kind == 2
/-- The machines, and the three cells of their pair. -/
structure PairI (W k : Nat) (L : List Mch) (c p q : Int) (h : Option Nat) : Prop where
  ok : ∀ (i : Nat) (x : Mch), L[i]? = some x → Ok W k c p q h i x
  cnt : c + 2 * (L.countP alive : Nat) = 2 * W + if h.isSome then 1 else 0
  free : h = none → q = wrap64 (p + 100)
  hold : ∀ i, h = some i → i < W ∧ i < L.length
  most : W ≤ 8
  nn : 0 ≤ c

def remW (k : Nat) (x : Mch) : Nat := if x.pc = 2 then k + 3 else if x.pc = 3 then x.left.toNat + 2 else 1
def wv (k : Nat) (c : Int) (x : Mch) : Nat := k + 3 + (if x.pc = 0 then 2 else if x.count = c then 1 else 3)
def remR (k : Nat) (c : Int) (x : Mch) : Nat := if x.pc = 0 then k + 4 else (if x.count = c then 0 else k + 4) + remW k x
/-- Who leads, and how many of its own accesses it has ahead at most. -/
def Lead (k : Nat) (L : List Mch) (c : Int) (h : Option Nat) (j φ : Nat) : Prop :=
  ∃ x, L[j]? = some x ∧ x.done = false ∧ ((h = some j ∧ φ = remW k x) ∨ (h = none ∧ x.kind = 2 ∧ φ = wv k c x) ∨
    (h = none ∧ x.kind = 3 ∧ (∀ (i : Nat) (y : Mch), L[i]? = some y → y.kind = 2 → y.done = true) ∧ φ = remR k c x))

theorem lead_any {W k : Nat} {L : List Mch} {c p q : Int} {h : Option Nat} (H : PairI W k L c p q h) (hl : undone L L.length ≠ []) : ∃ j φ, Lead k L c h j φ ∧ j ∈ undone L L.length ∧ φ ≤ 2 * k + 7 := by
  cases h with
  | some i =>
    have hil := H.hold i rfl
    obtain ⟨x, hx⟩ : ∃ x, L[i]? = some x := ⟨_, List.getElem?_eq_getElem hil.2⟩
    have fin : x.done = false → remW k x ≤ 2 * k + 7 → ∃ j φ, Lead k L c (some i) j φ ∧ j ∈ undone L L.length ∧ φ ≤ 2 * k + 7 := fun h1 h2 => ⟨i, _, ⟨x, hx, h1, .inl ⟨rfl, rfl⟩⟩, undone_of hx h1, h2⟩
    cases H.ok i x hx with
    | h2 hi ha hw hk hb hd hh hp hc => exact fin hd (by simp [remW, hp]; omega)
    | h3 hi ha hw hk hb hd hh hp hc e1 l0 l1 => exact fin hd (by simp [remW, hp]; omega)
    | h5 hi ha hw hk hb hd hh hp hc e1 e2 => exact fin hd (by simp [remW, hp])
    | wdone hi ha hw hk hb hd hh => exact absurd rfl hh
    | w0 hi ha hw hk hb hd hh => exact absurd rfl hh
    | w1 hi ha hw hk hb hd hh => exact absurd rfl hh
    | rdone hi ha hw hk hd hs => omega
    | r0 hi ha hw hk hd hp => omega
    | r2 hi ha hw hk hd hp => omega
    | r3 hi ha hw hk hd hp => omega
    | r5 hi ha hw hk hd hp => omega
  | none =>
    by_cases hw : ∃ (i : Nat) (x : Mch), L[i]? = some x ∧ x.kind = 2 ∧ x.done = false
    · obtain ⟨i, x, hx, hk, hd⟩ := hw
      refine ⟨i, _, ⟨x, hx, hd, .inr (.inl ⟨rfl, hk, rfl⟩)⟩, undone_of hx hd, ?_⟩
      unfold wv; split
      · omega
      · split <;> omega
    · obtain ⟨j, hj⟩ : ∃ j, j ∈ undone L L.length := List.exists_mem_of_ne_nil _ hl
      obtain ⟨_, x, hx, hd⟩ := undone_mem hj
      have hnw : ∀ (i : Nat) (y : Mch), L[i]? = some y → y.kind = 2 → y.done = true := fun i y hy hk => by
        cases hd : y.done
        · exact absurd ⟨i, y, hy, hk, hd⟩ hw
        · rfl
      have fin : x.kind = 3 → remR k c x ≤ 2 * k + 7 → ∃ j φ, Lead k L c none j φ ∧ j ∈ undone L L.length ∧ φ ≤ 2 * k + 7 := fun h1 h2 => ⟨j, _, ⟨x, hx, hd, .inr (.inr ⟨rfl, h1, hnw, rfl⟩)⟩, hj, h2⟩
      have hm : ∀ b, (if x.count = c then 0 else k + 4) + b ≤ k + 4 + b := fun b => by split <;> omega
      cases H.ok j x hx with
      | rdone _ _ _ _ hd' => rw [hd] at hd'; cases hd'
      | r0 hi ha hw hk hd hp => exact fin hk (by simp [remR, hp]; omega)
      | r2 hi ha hw hk hd hp => exact fin hk (by have := hm (k + 3); simp [remR, remW, hp]; omega)
      | r3 hi ha hw hk hd hp he hl l0 l1 => exact fin hk (by have := hm (x.left.toNat + 2); simp [remR, remW, hp]; omega)
      | r5 hi ha hw hk hd hp => exact fin hk (by have := hm 1; simp [remR, remW, hp]; omega)
      | wdone hi ha hw hk hb hd' hh => rw [hd] at hd'; cases hd'
      | w0 hi ha hw' hk hb hd hh => exact absurd ⟨j, x, hx, hk, hd⟩ hw
      | w1 hi ha hw' hk hb hd hh => exact absurd ⟨j, x, hx, hk, hd⟩ hw
      | h2 hi ha hw' hk hb hd hh => cases hh
      | h3 hi ha hw' hk hb hd hh => cases hh
      | h5 hi ha hw' hk hb hd hh => cases hh

def Next (k : Nat) (L L' : List Mch) (c c' : Int) (h h' : Option Nat) (j : Nat) : Prop :=
  ∀ jl φ, Lead k L c h jl φ → ∃ jl' φ', Lead k L' c' h' jl' φ' ∧ jl' ∈ undone L L.length ∧ (φ' < φ ∨ (j ≠ jl ∧ jl' = jl ∧ φ' = φ))
theorem lead_same {k : Nat} {L : List Mch} {c : Int} {h : Option Nat} {j : Nat} {x x' : Mch} (hx : L[j]? = some x) (hd : x.done = false) (hk : x'.kind = x.kind) (hd' : x'.done = false)
    (d1 : h = some j → remW k x' < remW k x) (d2 : h = none → x.kind = 2 → wv k c x' < wv k c x) (d3 : h = none → x.kind = 3 → remR k c x' < remR k c x) : Next k L (L.set j x') c c h h j := by
  have hj := (List.getElem?_eq_some_iff.1 hx).1
  have hw : (∀ (i : Nat) (y : Mch), L[i]? = some y → y.kind = 2 → y.done = true) → ∀ (i : Nat) (y : Mch), (L.set j x')[i]? = some y → y.kind = 2 → y.done = true := fun hw i y hy h2 => by
    by_cases e : j = i
    · subst e
      rw [List.getElem?_set_self hj] at hy; cases hy
      have := hw j x hx (by rw [← hk]; exact h2)
      rw [hd] at this; cases this
    · rw [List.getElem?_set_ne e] at hy; exact hw i y hy h2
  rintro jl φ ⟨y, hy, hyd, hc⟩
  by_cases e : j = jl
  · subst e
    rw [hx] at hy; cases hy
    have hg := List.getElem?_set_self (a := x') hj
    rcases hc with ⟨rfl, rfl⟩ | ⟨rfl, h2, rfl⟩ | ⟨rfl, h2, h3, rfl⟩
    · exact ⟨j, _, ⟨x', hg, hd', .inl ⟨rfl, rfl⟩⟩, undone_of hx hd, .inl (d1 rfl)⟩
    · exact ⟨j, _, ⟨x', hg, hd', .inr (.inl ⟨rfl, hk.trans h2, rfl⟩)⟩, undone_of hx hd, .inl (d2 rfl h2)⟩
    · exact ⟨j, _, ⟨x', hg, hd', .inr (.inr ⟨rfl, hk.trans h2, hw h3, rfl⟩)⟩, undone_of hx hd, .inl (d3 rfl h2)⟩
  · refine ⟨jl, φ, ⟨y, by rw [List.getElem?_set_ne e]; exact hy, hyd, ?_⟩, undone_of hy hyd, .inr ⟨e, rfl, rfl⟩⟩
    rcases hc with h1 | h2 | ⟨h1, h2, h3, h4⟩
    · exact .inl h1
    · exact .inr (.inl h2)
    · exact .inr (.inr ⟨h1, h2, hw h3, h4⟩)
theorem lead_take {k : Nat} {L : List Mch} {c c' : Int} {j : Nat} {x x' : Mch} (hx : L[j]? = some x) (hd : x.done = false) (hk : x.kind = 2) (hd' : x'.done = false) (hp : x'.pc = 2) : Next k L (L.set j x') c c' none (some j) j := by
  have hj := (List.getElem?_eq_some_iff.1 hx).1
  rintro jl φ ⟨y, hy, hyd, hc⟩
  rcases hc with ⟨h1, _⟩ | ⟨_, h2, rfl⟩ | ⟨_, h2, h3, rfl⟩
  · cases h1
  · refine ⟨j, _, ⟨x', List.getElem?_set_self hj, hd', .inl ⟨rfl, rfl⟩⟩, undone_of hx hd, .inl ?_⟩
    rw [remW, if_pos hp]
    unfold wv; split
    · omega
    · split <;> omega
  · have := h3 j x hx hk
    rw [hd] at this; cases this

theorem PairI.put {W k : Nat} {L : List Mch} {c p q c' p' q' : Int} {h h' : Option Nat} {j : Nat} {x x' : Mch} (H : PairI W k L c p q h) (hx : L[j]? = some x) (h1 : Ok W k c' p' q' h' j x')
    (h2 : ∀ i y, i ≠ j → Ok W k c p q h i y → Ok W k c' p' q' h' i y)
    (h3 : c' + 2 * (if alive x' = true then 1 else 0) + (if h.isSome then 1 else 0) = c + 2 * (if alive x = true then 1 else 0) + (if h'.isSome then 1 else 0)) (h4 : h' = none → q' = wrap64 (p' + 100)) (h5 : ∀ i, h' = some i → i < W ∧ i < L.length) (h6 : 0 ≤ c') : PairI W k (L.set j x') c' p' q' h' := by
  have hj := (List.getElem?_eq_some_iff.1 hx).1
  refine ⟨fun i y hy => ?_, ?_, h4, by simpa using h5, H.most, h6⟩
  · by_cases e : j = i
    · subst e; rw [List.getElem?_set_self hj] at hy; cases hy; exact h1
    · rw [List.getElem?_set_ne e] at hy; exact h2 i y (fun q => e q.symm) (H.ok i y hy)
  · have a := countP_at (y := x') alive hx
    have b := H.cnt
    generalize (L.set j x').countP alive = n at a ⊢
    generalize L.countP alive = m at a b
    cases hA : alive x <;> cases hB : alive x' <;> simp only [hA, hB, if_true, if_false, Bool.false_eq_true] at a h3 <;> omega
theorem wrap_le {z : Int} (h0 : 0 ≤ z) (h1 : z ≤ 100) : wrap64 z = z := by unfold wrap64; omega

/-- One step of a machine that is not done. -/
theorem pair_step {W k : Nat} {L : List Mch} {c p q : Int} {h : Option Nat} {j : Nat} {x : Mch} {s : MS} (H : PairI W k L c p q h) (hs : s.ws = [c, p, q]) (hx : L[j]? = some x) (hd : x.done = false) (hk9 : k ≤ 100) :
    ∃ c' p' q' h', (pairM s x).2.ws = [c', p', q'] ∧ PairI W k (L.set j (pairM s x).1) c' p' q' h' ∧ ((pairM s x).1.done = false → Next k L (L.set j (pairM s x).1) c c' h h' j) := by
  have hjl := (List.getElem?_eq_some_iff.1 hx).1
  have hcnt := H.cnt
  have hmost := H.most
  have hnn := H.nn
  have same : ∀ i y, i ≠ j → Ok W k c p q h i y → Ok W k c p q h i y := fun _ _ _ g => g
  cases H.ok j x hx with
  | wdone hi ha hw hk hb hd' hh => rw [hd] at hd'; cases hd'
  | rdone hi ha hw hk hd' hs => rw [hd] at hd'; cases hd'
  | w0 hi ha hw hk hb hd hh hp =>
    by_cases hc : c % 2 = 0
    · have e : pairM s x = ({ x with count := c, pc := 1 }, (s.load 0).2.2) := by rw [pairM, if_pos hp, ha, (load_0 hs).1, if_pos hc, if_pos hk]
      rw [e]
      refine ⟨c, p, q, h, (load_0 hs).2, H.put hx (.w1 hi ha hw hk hb hd hh rfl hc) same (by simp [alive, hd, hk]) H.free H.hold hnn, fun _ => lead_same hx hd rfl hd (fun g => absurd g hh) (fun _ _ => by simp [wv, hp]) (fun _ g => by rw [hk] at g; cases g)⟩
    · have e : pairM s x = (({ x with count := c } : Mch).again, (s.load 0).2.2) := by rw [pairM, if_pos hp, ha, (load_0 hs).1, if_neg hc]
      rw [e]
      have hn : h ≠ none := fun g => by rw [g] at hcnt; simp at hcnt; omega
      exact ⟨c, p, q, h, (load_0 hs).2, H.put hx (.w0 hi ha hw hk hb hd hh rfl) same (by simp [alive, hd, hk, Mch.again]) H.free H.hold hnn, fun _ => lead_same hx hd rfl hd (fun g => absurd g hh) (fun g => absurd g hn) (fun g => absurd g hn)⟩
  | w1 hi ha hw hk hb hd hh hp he =>
    by_cases hc : c = x.count
    · have hn : h = none := by
        cases h with
        | none => rfl
        | some i => simp at hcnt; omega
      subst hn
      have hp0 : x.pc ≠ 0 := by omega
      subst hc
      have e : pairM s x = ({ x with pc := 2 }, (s.swap 0 x.count (wrap64 (x.count + 1))).2.2) := by rw [pairM, if_neg hp0, if_pos hp, ha, if_pos (swap_yes hs _).1]
      rw [e]
      simp at hcnt
      have e2 : wrap64 (x.count + 1) = x.count + 1 := wrap_le (by omega) (by omega)
      refine ⟨x.count + 1, p, q, some j, by rw [(swap_yes hs _).2, e2], H.put hx (.h2 hi ha hw hk hb hd rfl rfl (by simp)) ?_ (by simp [alive, hd, hk]; omega) (fun g => by cases g) (fun i g => by cases g; exact ⟨hi, hjl⟩) (by omega), fun _ => lead_take hx hd hk hd rfl⟩
      intro i y hij g
      cases g with
      | wdone hi ha hw hk hb hd hh => exact .wdone hi ha hw hk hb hd (fun q => hij (by cases q; rfl))
      | w0 hi ha hw hk hb hd hh hp => exact .w0 hi ha hw hk hb hd (fun q => hij (by cases q; rfl)) hp
      | w1 hi ha hw hk hb hd hh hp he => exact .w1 hi ha hw hk hb hd (fun q => hij (by cases q; rfl)) hp he
      | h2 hi ha hw hk hb hd hh => cases hh
      | h3 hi ha hw hk hb hd hh => cases hh
      | h5 hi ha hw hk hb hd hh => cases hh
      | rdone hi ha hw hk hd hs => exact .rdone hi ha hw hk hd hs
      | r0 hi ha hw hk hd hp => exact .r0 hi ha hw hk hd hp
      | r2 hi ha hw hk hd hp he hl => exact .r2 hi ha hw hk hd hp he (by omega)
      | r3 hi ha hw hk hd hp he hl l0 l1 e1 => exact .r3 hi ha hw hk hd hp he (by omega) l0 l1 (fun g => by omega)
      | r5 hi ha hw hk hd hp he hl e1 e2 => exact .r5 hi ha hw hk hd hp he (by omega) (fun g => by omega) (fun g => by omega)
    · have hp0 : x.pc ≠ 0 := by omega
      have e : pairM s x = (x.again, (s.swap 0 x.count (wrap64 (x.count + 1))).2.2) := by rw [pairM, if_neg hp0, if_pos hp, ha, if_neg (by rw [(swap_not hs hc _).1]; simp)]
      rw [e]
      exact ⟨c, p, q, h, (swap_not hs hc _).2, H.put hx (.w0 hi ha hw hk hb hd hh rfl) same (by simp [alive, hd, hk, Mch.again]) H.free H.hold hnn, fun _ => lead_same hx hd rfl hd (fun g => absurd g hh) (fun _ _ => by simp [wv, hp, Mch.again, show ¬ x.count = c from fun g => hc g.symm]) (fun _ g => by rw [hk] at g; cases g)⟩
  | h2 hi ha hw hk hb hd hh hp hc =>
    subst hh
    have e : pairM s x = ({ x with pc := 3, left := x.work }, (s.store (wrap64 (0 + 1)) x.a).2) := by rw [pairM, if_neg (by omega), if_neg (by omega), if_pos hp, if_pos hk, ha]
    rw [e]
    simp at hcnt
    refine ⟨c, x.a, q, some j, store_1 hs _, H.put hx (.h3 hi ha hw hk hb hd rfl rfl hc rfl (by simp; omega) (by simp; omega)) ?_ (by simp [alive, hd, hk]) (fun g => by cases g) H.hold hnn, fun _ => lead_same hx hd rfl hd (fun _ => by simp [remW, hp]; omega) (fun g => by cases g) (fun g => by cases g)⟩
    intro i y hij g
    cases g with
    | wdone hi ha hw hk hb hd hh => exact .wdone hi ha hw hk hb hd hh
    | w0 hi ha hw hk hb hd hh hp => exact .w0 hi ha hw hk hb hd hh hp
    | w1 hi ha hw hk hb hd hh hp he => exact .w1 hi ha hw hk hb hd hh hp he
    | h2 hi ha hw hk hb hd hh => cases hh; exact absurd rfl hij
    | h3 hi ha hw hk hb hd hh => cases hh; exact absurd rfl hij
    | h5 hi ha hw hk hb hd hh => cases hh; exact absurd rfl hij
    | rdone hi ha hw hk hd hs => exact .rdone hi ha hw hk hd hs
    | r0 hi ha hw hk hd hp => exact .r0 hi ha hw hk hd hp
    | r2 hi ha hw hk hd hp he hl => exact .r2 hi ha hw hk hd hp he hl
    | r3 hi ha hw hk hd hp he hl l0 l1 e1 => exact .r3 hi ha hw hk hd hp he hl l0 l1 (fun g => by omega)
    | r5 hi ha hw hk hd hp he hl e1 e2 => exact .r5 hi ha hw hk hd hp he hl (fun g => by omega) (fun g => by omega)
  | h3 hi ha hw hk hb hd hh hp hc e1 l0 l1 =>
    subst hh
    simp at hcnt
    by_cases hl : x.left = 0
    · have e : pairM s x = ({ x with pc := 5 }, (s.store (wrap64 (0 + 2)) x.b).2) := by rw [pairM, if_neg (by omega), if_neg (by omega), if_neg (by omega), if_pos hp, if_pos hl, secondM, if_pos hk, ha]
      rw [e]
      refine ⟨c, p, x.b, some j, store_2 hs _, H.put hx (.h5 hi ha hw hk hb hd rfl rfl hc e1 rfl) ?_ (by simp [alive, hd, hk]) (fun g => by cases g) H.hold hnn, fun _ => lead_same hx hd rfl hd (fun _ => by simp [remW, hp, hl]) (fun g => by cases g) (fun g => by cases g)⟩
      intro i y hij g
      cases g with
      | wdone hi ha hw hk hb hd hh => exact .wdone hi ha hw hk hb hd hh
      | w0 hi ha hw hk hb hd hh hp => exact .w0 hi ha hw hk hb hd hh hp
      | w1 hi ha hw hk hb hd hh hp he => exact .w1 hi ha hw hk hb hd hh hp he
      | h2 hi ha hw hk hb hd hh => cases hh; exact absurd rfl hij
      | h3 hi ha hw hk hb hd hh => cases hh; exact absurd rfl hij
      | h5 hi ha hw hk hb hd hh => cases hh; exact absurd rfl hij
      | rdone hi ha hw hk hd hs => exact .rdone hi ha hw hk hd hs
      | r0 hi ha hw hk hd hp => exact .r0 hi ha hw hk hd hp
      | r2 hi ha hw hk hd hp he hl => exact .r2 hi ha hw hk hd hp he hl
      | r3 hi ha hw hk hd hp he hl l0 l1 e1 => exact .r3 hi ha hw hk hd hp he hl l0 l1 (fun g => by omega)
      | r5 hi ha hw hk hd hp he hl e1 e2 => exact .r5 hi ha hw hk hd hp he hl (fun g => by omega) (fun g => by omega)
    · have e2 : wrap64 (x.left - 1) = x.left - 1 := wrap_le (by omega) (by omega)
      have e : pairM s x = ({ x with left := x.left - 1 }, (s.load 0).2.2) := by rw [pairM, if_neg (by omega), if_neg (by omega), if_neg (by omega), if_pos hp, if_neg hl, ha, e2]
      rw [e]
      exact ⟨c, p, q, some j, (load_0 hs).2, H.put hx (.h3 hi ha hw hk hb hd rfl hp hc e1 (by simp; omega) (by simp; omega)) same (by simp [alive, hd, hk]) H.free H.hold hnn, fun _ => lead_same hx hd rfl hd (fun _ => by simp [remW, hp]; omega) (fun g => by cases g) (fun g => by cases g)⟩
  | h5 hi ha hw hk hb hd hh hp hc e1 e2 =>
    subst hh
    simp at hcnt
    have e : pairM s x = ({ x with done := true }, (s.store 0 (wrap64 (x.count + 2))).2) := by rw [pairM, if_neg (by omega), if_neg (by omega), if_neg (by omega), if_neg (by omega), if_neg (by omega), finishM, if_pos hk, ha]
    have e3 : wrap64 (x.count + 2) = c + 1 := by rw [wrap_le (by omega) (by omega)]; omega
    rw [e]
    refine ⟨c + 1, p, q, none, by rw [store_0 hs, e3], H.put hx (.wdone hi ha hw hk hb rfl (fun g => by cases g)) ?_ (by simp [alive, hd, hk]; omega) (fun _ => by rw [e2, e1]; exact hb) (fun _ g => by cases g) (by omega), fun g => by cases g⟩
    intro i y hij g
    cases g with
    | wdone hi ha hw hk hb hd hh => exact .wdone hi ha hw hk hb hd (fun g => by cases g)
    | w0 hi ha hw hk hb hd hh hp => exact .w0 hi ha hw hk hb hd (fun g => by cases g) hp
    | w1 hi ha hw hk hb hd hh hp he => exact .w1 hi ha hw hk hb hd (fun g => by cases g) hp he
    | h2 hi ha hw hk hb hd hh => cases hh; exact absurd rfl hij
    | h3 hi ha hw hk hb hd hh => cases hh; exact absurd rfl hij
    | h5 hi ha hw hk hb hd hh => cases hh; exact absurd rfl hij
    | rdone hi ha hw hk hd hs => exact .rdone hi ha hw hk hd hs
    | r0 hi ha hw hk hd hp => exact .r0 hi ha hw hk hd hp
    | r2 hi ha hw hk hd hp he hl => exact .r2 hi ha hw hk hd hp he (by omega)
    | r3 hi ha hw hk hd hp he hl l0 l1 e1 => exact .r3 hi ha hw hk hd hp he (by omega) l0 l1 (fun g => by omega)
    | r5 hi ha hw hk hd hp he hl e1 e2 => exact .r5 hi ha hw hk hd hp he (by omega) (fun g => by omega) (fun g => by omega)
  | r0 hi ha hw hk hd hp =>
    have hno : h ≠ some j := fun g => by have := (H.hold j g).1; omega
    by_cases hc : c % 2 = 0
    · have e : pairM s x = ({ x with count := c, pc := 2 }, (s.load 0).2.2) := by rw [pairM, if_pos hp, ha, (load_0 hs).1, if_pos hc, if_neg (by omega)]
      rw [e]
      refine ⟨c, p, q, h, (load_0 hs).2, H.put hx (.r2 hi ha hw hk hd rfl hc (Int.le_refl _)) same (by simp [alive, hd, hk]) H.free H.hold hnn, fun _ => lead_same hx hd rfl hd (fun g => absurd g hno) (fun _ g => by omega) (fun _ _ => by simp [remR, remW, hp])⟩
    · have e : pairM s x = (({ x with count := c } : Mch).again, (s.load 0).2.2) := by rw [pairM, if_pos hp, ha, (load_0 hs).1, if_neg hc]
      rw [e]
      have hn : h ≠ none := fun g => by rw [g] at hcnt; simp at hcnt; omega
      exact ⟨c, p, q, h, (load_0 hs).2, H.put hx (.r0 hi ha hw hk hd rfl) same (by simp [alive, hd, hk, Mch.again]) H.free H.hold hnn, fun _ => lead_same hx hd rfl hd (fun g => absurd g hno) (fun g => absurd g hn) (fun g => absurd g hn)⟩
  | r2 hi ha hw hk hd hp he hl =>
    have hno : h ≠ some j := fun g => by have := (H.hold j g).1; omega
    have e : pairM s x = ({ x with pc := 3, left := x.work, ra := p }, (s.load (wrap64 (0 + 1))).2.2) := by rw [pairM, if_neg (by omega), if_neg (by omega), if_pos hp, if_neg (by omega), ha, (load_1 hs).1]
    rw [e]
    exact ⟨c, p, q, h, (load_1 hs).2, H.put hx (.r3 hi ha hw hk hd rfl he hl (by simp; omega) (by simp; omega) (fun _ => rfl)) same (by simp [alive, hd, hk]) H.free H.hold hnn, fun _ => lead_same hx hd rfl hd (fun g => absurd g hno) (fun _ g => by omega) (fun _ _ => by simp [remR, remW, hp]; omega)⟩
  | r3 hi ha hw hk hd hp he hl l0 l1 e1 =>
    have hno : h ≠ some j := fun g => by have := (H.hold j g).1; omega
    by_cases hl0 : x.left = 0
    · have e : pairM s x = ({ x with pc := 5, rb := q }, (s.load (wrap64 (0 + 2))).2.2) := by rw [pairM, if_neg (by omega), if_neg (by omega), if_neg (by omega), if_pos hp, if_pos hl0, secondM, if_neg (show ¬ x.kind = 2 by omega), ha, (load_2 hs).1]
      rw [e]
      exact ⟨c, p, q, h, (load_2 hs).2, H.put hx (.r5 hi ha hw hk hd rfl he hl e1 (fun _ => rfl)) same (by simp [alive, hd, hk]) H.free H.hold hnn, fun _ => lead_same hx hd rfl hd (fun g => absurd g hno) (fun _ g => by omega) (fun _ _ => by simp [remR, remW, hp])⟩
    · have e2 : wrap64 (x.left - 1) = x.left - 1 := wrap_le (by omega) (by omega)
      have e : pairM s x = ({ x with left := x.left - 1 }, (s.load 0).2.2) := by rw [pairM, if_neg (by omega), if_neg (by omega), if_neg (by omega), if_pos hp, if_neg hl0, ha, e2]
      rw [e]
      exact ⟨c, p, q, h, (load_0 hs).2, H.put hx (.r3 hi ha hw hk hd hp he hl (by simp; omega) (by simp; omega) e1) same (by simp [alive, hd, hk]) H.free H.hold hnn, fun _ => lead_same hx hd rfl hd (fun g => absurd g hno) (fun _ g => by omega) (fun _ _ => by simp [remR, remW, hp]; omega)⟩
  | r5 hi ha hw hk hd hp he hl e1 e2 =>
    have hno : h ≠ some j := fun g => by have := (H.hold j g).1; omega
    have e0 : pairM s x = finishM s x := by rw [pairM, if_neg (by omega), if_neg (by omega), if_neg (by omega), if_neg (by omega), if_neg (by omega)]
    by_cases hc : c = x.count
    · have e : pairM s x = ({ x with done := true, sa := x.ra, sb := x.rb }, (s.load 0).2.2) := by rw [e0, finishM, if_neg (by omega), ha, (load_0 hs).1, if_pos hc]
      rw [e]
      have hn : h = none := by
        cases h with
        | none => rfl
        | some i => simp at hcnt; omega
      refine ⟨c, p, q, h, (load_0 hs).2, H.put hx (.rdone hi ha hw hk rfl ?_) same (by simp [alive, hd, hk]) H.free H.hold hnn, fun g => by cases g⟩
      have := H.free hn
      simp only
      rw [e1 hc.symm, e2 hc.symm]; exact this
    · have e : pairM s x = (x.again, (s.load 0).2.2) := by rw [e0, finishM, if_neg (by omega), ha, (load_0 hs).1, if_neg hc]
      rw [e]
      exact ⟨c, p, q, h, (load_0 hs).2, H.put hx (.r0 hi ha hw hk hd rfl) same (by simp [alive, hd, hk, Mch.again]) H.free H.hold hnn, fun _ => lead_same hx hd rfl hd (fun g => absurd g hno) (fun _ g => by omega) (fun _ _ => by simp [remR, remW, hp, Mch.again, show ¬ x.count = c from fun g => hc g.symm])⟩
end Go.Proofs.Ytmhmgenchpemkaa
