/- A job that nobody disturbs: the plain law. -/
import Derived.Test.YtmhmgenchpemkaaShared
namespace Go.Proofs.Ytmhmgenchpemkaa
open Go.RowKit

/-- Three cells, the first holds c; i accesses were done. -/
def S3 (s : MS) (c : Int) (i : Nat) : Prop := (∃ p q, s.ws = [c, p, q]) ∧ s.st = i
section
variable {s : MS} {c : Int} {i : Nat}
theorem st_next (h : s.st = i) (hi : i ≤ 300) (kind : Int) (k : Nat) (v : Int) (d : Bool) : (s.acc kind k v d).st = (i + 1 : Nat) := by
  simp only [MS.acc, h]
  unfold wrap64
  omega
theorem S3.ld (h : S3 s c i) (hi : i ≤ 300) {k : Int} (hk : k = 0 ∨ k = 1 ∨ k = 2) : S3 (s.load k).2.2 c (i + 1) ∧ (k = 0 → (s.load k).1 = c) := by
  obtain ⟨⟨p, q, hw⟩, hs⟩ := h
  have st := fun k' v => st_next hs hi 1 k' v true
  rcases hk with rfl | rfl | rfl
  · simp only [MS.load, hw, List.length_cons, List.length_nil]
    refine ⟨⟨⟨p, q, ?_⟩, ?_⟩, ?_⟩
    · simp [MS.acc, hw]
    · simpa using st 0 c
    · simp
  · simp only [MS.load, hw, List.length_cons, List.length_nil]
    refine ⟨⟨⟨p, q, ?_⟩, ?_⟩, ?_⟩
    · simp [MS.acc, hw]
    · simpa using st 1 p
    · simp
  · simp only [MS.load, hw, List.length_cons, List.length_nil]
    refine ⟨⟨⟨p, q, ?_⟩, ?_⟩, ?_⟩
    · simp [MS.acc, hw]
    · simpa using st 2 q
    · simp
theorem S3.put (h : S3 s c i) (hi : i ≤ 300) (v : Int) {k : Int} (hk : k = 0 ∨ k = 1 ∨ k = 2) : S3 (s.store k v).2 (if k = 0 then v else c) (i + 1) := by
  obtain ⟨⟨p, q, hw⟩, hs⟩ := h
  have st := fun k' => st_next hs hi 2 k' v true
  rcases hk with rfl | rfl | rfl
  · simp only [MS.store, hw, List.length_cons, List.length_nil]
    refine ⟨⟨p, q, ?_⟩, ?_⟩
    · simp [MS.acc, hw]
    · simpa using st 0
  · simp only [MS.store, hw, List.length_cons, List.length_nil]
    refine ⟨⟨v, q, ?_⟩, ?_⟩
    · simp [MS.acc, hw]
    · simpa using st 1
  · simp only [MS.store, hw, List.length_cons, List.length_nil]
    refine ⟨⟨p, v, ?_⟩, ?_⟩
    · simp [MS.acc, hw]
    · simpa using st 2
theorem S3.sw (h : S3 s c i) (hi : i ≤ 300) (v : Int) : (s.swap 0 c v).1 = true ∧ S3 (s.swap 0 c v).2.2 v (i + 1) := by
  obtain ⟨⟨p, q, hw⟩, hs⟩ := h
  simp only [MS.swap, hw, List.length_cons, List.length_nil]
  refine ⟨by simp, ⟨p, q, ?_⟩, ?_⟩
  · simp [MS.acc, hw]
  · simpa using st_next hs hi 3 0 v true
end

/-- What stays of a job. -/
structure CB (kind : Int) (k : Nat) (x : Mch) : Prop where
  hk : x.kind = kind
  ha : x.at_ = 0
  hw : x.work = k
  ht : x.tries = 0
/-- Where the job is behind i accesses. -/
inductive CI (k : Nat) (x : Mch) (s : MS) (i : Nat) : Prop
  | a0 (e : i = 0) (hp : x.pc = 0) (hs : S3 s 0 0)
  | h3 (hk : x.kind = 1) (hp : x.pc = 3) (l : x.left + i = k + 1) (hl : 1 ≤ x.left) (c : Int) (hs : S3 s c i)
  | h5 (hk : x.kind = 1) (hp : x.pc = 5) (e : i = k + 1) (c : Int) (hs : S3 s c i)
  | w1 (hk : x.kind = 2) (hp : x.pc = 1) (e : i = 1) (hc : x.count = 0) (hs : S3 s 0 1)
  | w2 (hk : x.kind = 2) (hp : x.pc = 2) (e : i = 2) (c : Int) (hs : S3 s c i)
  | w3 (hk : x.kind = 2) (hp : x.pc = 3) (l : x.left + i = k + 3) (hl : 0 ≤ x.left) (c : Int) (hs : S3 s c i)
  | w5 (hk : x.kind = 2) (hp : x.pc = 5) (e : i = k + 4) (c : Int) (hs : S3 s c i)
  | r2 (hk : x.kind = 3) (hp : x.pc = 2) (e : i = 1) (hc : x.count = 0) (hs : S3 s 0 1)
  | r3 (hk : x.kind = 3) (hp : x.pc = 3) (l : x.left + i = k + 2) (hl : 0 ≤ x.left) (hc : x.count = 0) (hs : S3 s 0 i)
  | r5 (hk : x.kind = 3) (hp : x.pc = 5) (e : i = k + 3) (hc : x.count = 0) (hs : S3 s 0 i)
def tot (kind : Int) (k : Nat) : Nat := (if kind = 1 then 2 else if kind = 2 then 5 else 4) + k
theorem wz0 : wrap64 0 = 0 := by decide +kernel
theorem wz1 : wrap64 (0 + 1) = 1 := by decide +kernel
theorem wz2 : wrap64 (0 + 2) = 2 := by decide +kernel
theorem wp (z : Int) (h0 : 1 ≤ z) (h1 : z ≤ 200) : wrap64 (z - 1) = z - 1 := by unfold wrap64; omega
/-- What one step brings. -/
structure CG (kind : Int) (k : Nat) (i : Nat) (y : Mch × MS) : Prop where
  hb : CB kind k y.1
  st : y.2.st = (i + 1 : Nat)
  go : (y.1.done = false ∧ CI k y.1 y.2 (i + 1) ∧ i + 1 < tot kind k) ∨ (y.1.done = true ∧ i + 1 = tot kind k)
theorem count_go {kind : Int} {k i : Nat} {x : Mch} {s : MS} (hb : CB kind k x) (hd : x.done = false) (h : CI k x s i) (hk : k ≤ 100) (hi : i < 300) (hkind : kind = 1 ∨ kind = 2 ∨ kind = 3) : CG kind k i (stepM s x 0) := by
  obtain ⟨bk, ba, bw, bt⟩ := hb
  obtain ⟨kind', at_, work, a, b, done, sa, sb, tries, pc, count, left, ra, rb⟩ := x
  simp only at bk ba bw bt hd
  subst bk ba bw bt hd
  have hi' : i ≤ 300 := by omega
  cases h with
  | a0 e hp hs =>
    simp only at hp
    subst e hp
    rcases hkind with rfl | rfl | rfl
    · obtain ⟨q1, q2⟩ := hs.sw hi' (((0 : Nat) : Int) + 1)
      by_cases h0 : k = 0
      · subst h0
        have e : stepM s (⟨1, 0, ((0 : Nat) : Int), a, b, false, sa, sb, 0, 0, count, left, ra, rb⟩ : Mch) 0 = ((⟨1, 0, ((0 : Nat) : Int), a, b, false, sa, sb, 0, 5, count, ((0 : Nat) : Int), ra, rb⟩ : Mch), (s.swap 0 0 (((0 : Nat) : Int) + 1)).2.2) := by simp [stepM, holdM, show (s.swap 0 0 1).1 = true from q1]
        rw [e]
        exact ⟨⟨rfl, rfl, rfl, rfl⟩, q2.2, .inl ⟨rfl, .h5 rfl rfl (by omega) _ q2, by simp [tot] <;> omega⟩⟩
      · have h0' : ¬ ((k : Int) = 0) := by omega
        have e : stepM s (⟨1, 0, (k : Int), a, b, false, sa, sb, 0, 0, count, left, ra, rb⟩ : Mch) 0 = ((⟨1, 0, (k : Int), a, b, false, sa, sb, 0, 3, count, (k : Int), ra, rb⟩ : Mch), (s.swap 0 0 (((0 : Nat) : Int) + 1)).2.2) := by simp [stepM, holdM, h0, show (s.swap 0 0 1).1 = true from q1]
        rw [e]
        exact ⟨⟨rfl, rfl, rfl, rfl⟩, q2.2, .inl ⟨rfl, .h3 rfl rfl (by simp) (by simp <;> omega) _ q2, by simp [tot] <;> omega⟩⟩
    · obtain ⟨q1, q2⟩ := hs.ld hi' (.inl rfl)
      have q2 := q2 rfl
      have e : stepM s (⟨2, 0, (k : Int), a, b, false, sa, sb, 0, 0, count, left, ra, rb⟩ : Mch) 0 = ((⟨2, 0, (k : Int), a, b, false, sa, sb, 0, 1, 0, left, ra, rb⟩ : Mch), (s.load 0).2.2) := by simp [stepM, pairM, q2]
      rw [e]
      exact ⟨⟨rfl, rfl, rfl, rfl⟩, q1.2, .inl ⟨rfl, .w1 rfl rfl rfl rfl q1, by simp [tot] <;> omega⟩⟩
    · obtain ⟨q1, q2⟩ := hs.ld hi' (.inl rfl)
      have q2 := q2 rfl
      have e : stepM s (⟨3, 0, (k : Int), a, b, false, sa, sb, 0, 0, count, left, ra, rb⟩ : Mch) 0 = ((⟨3, 0, (k : Int), a, b, false, sa, sb, 0, 2, 0, left, ra, rb⟩ : Mch), (s.load 0).2.2) := by simp [stepM, pairM, q2]
      rw [e]
      exact ⟨⟨rfl, rfl, rfl, rfl⟩, q1.2, .inl ⟨rfl, .r2 rfl rfl rfl rfl q1, by simp [tot] <;> omega⟩⟩
  | h3 hk1 hp l hl c hs =>
    simp only at hp hk1 l hl
    subst hp hk1
    have q1 := (hs.ld hi' (.inl rfl)).1
    have e1 := wp left (by omega) (by omega)
    by_cases h0 : left - 1 = 0
    · have e : stepM s (⟨1, 0, (k : Int), a, b, false, sa, sb, 0, 3, count, left, ra, rb⟩ : Mch) 0 = ((⟨1, 0, (k : Int), a, b, false, sa, sb, 0, 5, count, (left - 1), ra, rb⟩ : Mch), (s.load 0).2.2) := by simp [stepM, holdM, e1, h0, wz0]
      rw [e]
      exact ⟨⟨rfl, rfl, rfl, rfl⟩, q1.2, .inl ⟨rfl, .h5 rfl rfl (by omega) _ q1, by simp [tot] <;> omega⟩⟩
    · have e : stepM s (⟨1, 0, (k : Int), a, b, false, sa, sb, 0, 3, count, left, ra, rb⟩ : Mch) 0 = ((⟨1, 0, (k : Int), a, b, false, sa, sb, 0, 3, count, (left - 1), ra, rb⟩ : Mch), (s.load 0).2.2) := by simp [stepM, holdM, e1, h0, wz0]
      rw [e]
      exact ⟨⟨rfl, rfl, rfl, rfl⟩, q1.2, .inl ⟨rfl, .h3 rfl rfl (by simp <;> omega) (by simp <;> omega) _ q1, by simp [tot] <;> omega⟩⟩
  | h5 hk1 hp e c hs =>
    simp only at hp hk1
    subst hp hk1 e
    have q1 := hs.put hi' 0 (.inl rfl)
    have e : stepM s (⟨1, 0, (k : Int), a, b, false, sa, sb, 0, 5, count, left, ra, rb⟩ : Mch) 0 = ((⟨1, 0, (k : Int), a, b, true, sa, sb, 0, 5, count, left, ra, rb⟩ : Mch), (s.store 0 0).2) := by simp [stepM, holdM]
    rw [e]
    exact ⟨⟨rfl, rfl, rfl, rfl⟩, q1.2, .inr ⟨rfl, by simp [tot] <;> omega⟩⟩
  | w1 hk1 hp e hc hs =>
    simp only at hp hk1 hc
    subst hp hk1 hc e
    obtain ⟨q1, q2⟩ := hs.sw hi' (wrap64 (0 + 1))
    have e : stepM s (⟨2, 0, (k : Int), a, b, false, sa, sb, 0, 1, 0, left, ra, rb⟩ : Mch) 0 = ((⟨2, 0, (k : Int), a, b, false, sa, sb, 0, 2, 0, left, ra, rb⟩ : Mch), (s.swap 0 0 (wrap64 (0 + 1))).2.2) := by simp [stepM, pairM, show (s.swap 0 0 (wrap64 1)).1 = true from q1]
    rw [e]
    exact ⟨⟨rfl, rfl, rfl, rfl⟩, q2.2, .inl ⟨rfl, .w2 rfl rfl rfl _ q2, by simp [tot] <;> omega⟩⟩
  | w2 hk1 hp e c hs =>
    simp only at hp hk1
    subst hp hk1 e
    have q1 := hs.put hi' a (k := wrap64 (0 + 1)) (.inr (.inl wz1))
    have e : stepM s (⟨2, 0, (k : Int), a, b, false, sa, sb, 0, 2, count, left, ra, rb⟩ : Mch) 0 = ((⟨2, 0, (k : Int), a, b, false, sa, sb, 0, 3, count, (k : Int), ra, rb⟩ : Mch), (s.store (wrap64 (0 + 1)) a).2) := by simp [stepM, pairM]
    rw [e]
    exact ⟨⟨rfl, rfl, rfl, rfl⟩, q1.2, .inl ⟨rfl, .w3 rfl rfl (by simp <;> omega) (by simp) _ q1, by simp [tot] <;> omega⟩⟩
  | w3 hk1 hp l hl c hs =>
    simp only at hp hk1 l hl
    subst hp hk1
    by_cases h0 : left = 0
    · subst h0
      have q1 := hs.put hi' b (k := wrap64 (0 + 2)) (.inr (.inr wz2))
      have e : stepM s (⟨2, 0, (k : Int), a, b, false, sa, sb, 0, 3, count, 0, ra, rb⟩ : Mch) 0 = ((⟨2, 0, (k : Int), a, b, false, sa, sb, 0, 5, count, 0, ra, rb⟩ : Mch), (s.store (wrap64 (0 + 2)) b).2) := by simp [stepM, pairM, secondM]
      rw [e]
      exact ⟨⟨rfl, rfl, rfl, rfl⟩, q1.2, .inl ⟨rfl, .w5 rfl rfl (by omega) _ q1, by simp [tot] <;> omega⟩⟩
    · have q1 := (hs.ld hi' (.inl rfl)).1
      have e1 := wp left (by omega) (by omega)
      have e : stepM s (⟨2, 0, (k : Int), a, b, false, sa, sb, 0, 3, count, left, ra, rb⟩ : Mch) 0 = ((⟨2, 0, (k : Int), a, b, false, sa, sb, 0, 3, count, (left - 1), ra, rb⟩ : Mch), (s.load 0).2.2) := by simp [stepM, pairM, e1, h0, wz0]
      rw [e]
      exact ⟨⟨rfl, rfl, rfl, rfl⟩, q1.2, .inl ⟨rfl, .w3 rfl rfl (by simp <;> omega) (by simp <;> omega) _ q1, by simp [tot] <;> omega⟩⟩
  | w5 hk1 hp e c hs =>
    simp only at hp hk1
    subst hp hk1 e
    have q1 := hs.put hi' (wrap64 (count + 2)) (.inl rfl)
    have e : stepM s (⟨2, 0, (k : Int), a, b, false, sa, sb, 0, 5, count, left, ra, rb⟩ : Mch) 0 = ((⟨2, 0, (k : Int), a, b, true, sa, sb, 0, 5, count, left, ra, rb⟩ : Mch), (s.store 0 (wrap64 (count + 2))).2) := by simp [stepM, pairM, finishM]
    rw [e]
    exact ⟨⟨rfl, rfl, rfl, rfl⟩, q1.2, .inr ⟨rfl, by simp [tot] <;> omega⟩⟩
  | r2 hk1 hp e hc hs =>
    simp only at hp hk1 hc
    subst hp hk1 hc e
    have q1 := (hs.ld hi' (k := wrap64 (0 + 1)) (.inr (.inl wz1))).1
    have e : stepM s (⟨3, 0, (k : Int), a, b, false, sa, sb, 0, 2, 0, left, ra, rb⟩ : Mch) 0 = ((⟨3, 0, (k : Int), a, b, false, sa, sb, 0, 3, 0, (k : Int), (s.load (wrap64 (0 + 1))).1, rb⟩ : Mch), (s.load (wrap64 (0 + 1))).2.2) := by simp [stepM, pairM]
    rw [e]
    exact ⟨⟨rfl, rfl, rfl, rfl⟩, q1.2, .inl ⟨rfl, .r3 rfl rfl (by simp <;> omega) (by simp) rfl q1, by simp [tot] <;> omega⟩⟩
  | r3 hk1 hp l hl hc hs =>
    simp only at hp hk1 l hl hc
    subst hp hk1 hc
    by_cases h0 : left = 0
    · subst h0
      have q1 := (hs.ld hi' (k := wrap64 (0 + 2)) (.inr (.inr wz2))).1
      have e : stepM s (⟨3, 0, (k : Int), a, b, false, sa, sb, 0, 3, 0, 0, ra, rb⟩ : Mch) 0 = ((⟨3, 0, (k : Int), a, b, false, sa, sb, 0, 5, 0, 0, ra, (s.load (wrap64 (0 + 2))).1⟩ : Mch), (s.load (wrap64 (0 + 2))).2.2) := by simp [stepM, pairM, secondM]
      rw [e]
      exact ⟨⟨rfl, rfl, rfl, rfl⟩, q1.2, .inl ⟨rfl, .r5 rfl rfl (by omega) rfl q1, by simp [tot] <;> omega⟩⟩
    · have q1 := (hs.ld hi' (.inl rfl)).1
      have e1 := wp left (by omega) (by omega)
      have e : stepM s (⟨3, 0, (k : Int), a, b, false, sa, sb, 0, 3, 0, left, ra, rb⟩ : Mch) 0 = ((⟨3, 0, (k : Int), a, b, false, sa, sb, 0, 3, 0, (left - 1), ra, rb⟩ : Mch), (s.load 0).2.2) := by simp [stepM, pairM, e1, h0, wz0]
      rw [e]
      exact ⟨⟨rfl, rfl, rfl, rfl⟩, q1.2, .inl ⟨rfl, .r3 rfl rfl (by simp <;> omega) (by simp <;> omega) rfl q1, by simp [tot] <;> omega⟩⟩
  | r5 hk1 hp e hc hs =>
    simp only at hp hk1 hc
    subst hp hk1 hc e
    obtain ⟨q1, q2⟩ := hs.ld hi' (.inl rfl)
    have q2 := q2 rfl
    have e : stepM s (⟨3, 0, (k : Int), a, b, false, sa, sb, 0, 5, 0, left, ra, rb⟩ : Mch) 0 = ((⟨3, 0, (k : Int), a, b, true, ra, rb, 0, 5, 0, left, ra, rb⟩ : Mch), (s.load 0).2.2) := by simp [stepM, pairM, finishM, q2]
    rw [e]
    exact ⟨⟨rfl, rfl, rfl, rfl⟩, q1.2, .inr ⟨rfl, by simp [tot] <;> omega⟩⟩
end Go.Proofs.Ytmhmgenchpemkaa
