/- What holds of the operations that events are read as: plain Lean. -/
import Derived.Test.YtidonelhapmceaaSerial
namespace Go.Proofs.Ytidonelhapmceaa

def cnt (k : Int) (E : List Ev) : Nat := E.countP (fun e => decide (e.k = k))
def ended (l : List OpI) : Nat := l.countP (fun x => decide (0 ≤ x.o))

structure Good (s : St) (i c r : Nat) : Prop where
  len : s.l.length = c
  end_ : ended s.l = r
  each : ∀ (j : Nat) x, s.l[j]? = some x → 0 ≤ x.t ∧ x.t < 8 ∧ 0 ≤ x.f ∧ x.f < i ∧ ((x.o = -1 ∧ x.r = Res.zero) ∨ (x.f < x.o ∧ x.o < i))
  rise : ∀ (j k : Nat) x y, j < k → s.l[j]? = some x → s.l[k]? = some y → x.f < y.f ∧ (x.t = y.t → befI x y = true)
  opn : ∀ T q, T < 8 → s.op T = q + 1 → ∃ x, s.l[q]? = some x ∧ x.t = (T : Int) ∧ x.o = -1
  own : ∀ (j : Nat) x, s.l[j]? = some x → x.o = -1 → s.op x.t.toNat = j + 1

theorem good_new : Good St.new 0 0 0 := ⟨rfl, rfl, by simp [St.new], by simp [St.new], by simp [St.new], by simp [St.new]⟩
theorem Good.skip {s : St} {i c r : Nat} (h : Good s i c r) : Good s (i + 1) c r :=
  ⟨h.len, h.end_, fun j x hx => by
    obtain ⟨a1, a2, a3, a4, a5⟩ := h.each j x hx
    refine ⟨a1, a2, a3, by omega, ?_⟩
    rcases a5 with a5 | a5
    · exact .inl a5
    · exact .inr ⟨a5.1, by omega⟩, h.rise, h.opn, h.own⟩
theorem Good.opens {s : St} {i c r T : Nat} {e : Ev} (h : Good s i c r) (hT : T < 8) (he : e.t = (T : Int)) (h0 : s.op T = 0) : Good ⟨s.l ++ [opened e i], upd s.op T (s.l.length + 1)⟩ (i + 1) (c + 1) r := by
  have last : ∀ (j : Nat) x, (s.l ++ [opened e i])[j]? = some x → (s.l[j]? = some x ∧ j < s.l.length) ∨ (j = s.l.length ∧ x = opened e i) := by
    intro j x hx
    by_cases hj : j < s.l.length
    · rw [List.getElem?_append_left hj] at hx
      exact .inl ⟨hx, hj⟩
    · have hlt := (List.getElem?_eq_some_iff.1 hx).1
      simp at hlt
      obtain rfl : j = s.l.length := by omega
      rw [List.getElem?_append_right (Nat.le_refl _)] at hx
      simp at hx
      exact .inr ⟨rfl, hx.symm⟩
  refine ⟨by simp [h.len], by simp [ended, opened, ← h.end_], ?_, ?_, ?_, ?_⟩
  · intro j x hx
    rcases last j x hx with ⟨hx, _⟩ | ⟨_, rfl⟩
    · exact h.skip.each j x hx
    · exact ⟨by show 0 ≤ e.t; omega, by show e.t < 8; omega, by show (0 : Int) ≤ (i : Int); omega, by show (i : Int) < ((i + 1 : Nat) : Int); omega, .inl ⟨rfl, rfl⟩⟩
  · intro j k x y hjk hx hy
    rcases last k y hy with ⟨hy, hk⟩ | ⟨rfl, rfl⟩
    · rcases last j x hx with ⟨hx, _⟩ | ⟨rfl, _⟩
      · exact h.rise j k x y hjk hx hy
      · omega
    · rcases last j x hx with ⟨hx, hj⟩ | ⟨rfl, _⟩
      · obtain ⟨a1, a2, a3, a4, a5⟩ := h.each j x hx
        refine ⟨by simpa [opened] using a4, fun ht => ?_⟩
        rcases a5 with ⟨a5, _⟩ | a5
        · have := h.own j x hx a5
          rw [show x.t = (T : Int) from by rw [ht]; exact he, Int.toNat_natCast, h0] at this
          omega
        · show (decide (0 ≤ x.o) && decide (x.o < (i : Int))) = true
          rw [Bool.and_eq_true, decide_eq_true_eq, decide_eq_true_eq]
          omega
      · omega
  · intro T' q hT' hq
    simp only [upd] at hq
    split at hq
    · rename_i e'
      subst e'
      obtain rfl : q = s.l.length := by omega
      exact ⟨opened e i, by simp, he, rfl⟩
    · obtain ⟨x, hx, h1, h2⟩ := h.opn T' q hT' hq
      exact ⟨x, by rw [List.getElem?_append_left (List.getElem?_eq_some_iff.1 hx).1]; exact hx, h1, h2⟩
  · intro j x hx ho
    simp only [upd]
    rcases last j x hx with ⟨hx, hj⟩ | ⟨rfl, rfl⟩
    · have h3 := h.own j x hx ho
      split
      · rename_i e'
        rw [e', h0] at h3
        omega
      · exact h3
    · rw [if_pos (by simp [opened, he])]
theorem Good.closes {s : St} {i c r T q : Nat} {e : Ev} (h : Good s i c r) (hT : T < 8) (hq : s.op T = q + 1) : Good ⟨s.l.modify q (closed · e i), upd s.op T 0⟩ (i + 1) c (r + 1) := by
  obtain ⟨z, hz, hzt, hzo⟩ := h.opn T q hT hq
  have hql := (List.getElem?_eq_some_iff.1 hz).1
  have get : ∀ (j : Nat) x, (s.l.modify q (closed · e i))[j]? = some x → (j ≠ q ∧ s.l[j]? = some x) ∨ (j = q ∧ x = closed z e i) := by
    intro j x hx
    by_cases hj : j = q
    · subst hj
      rw [List.getElem?_modify_eq, hz] at hx
      simp at hx
      exact .inr ⟨rfl, hx.symm⟩
    · rw [List.getElem?_modify_ne _ _ (fun h => hj h.symm)] at hx
      exact .inl ⟨hj, hx⟩
  obtain ⟨b1, b2, b3, b4, b5⟩ := h.each q z hz
  refine ⟨by simp [h.len], ?_, ?_, ?_, ?_, ?_⟩
  · have hsplit : s.l = s.l.take q ++ z :: s.l.drop (q + 1) := by
      have := List.take_append_drop q s.l
      rw [List.drop_eq_getElem_cons hql, (List.getElem?_eq_some_iff.1 hz).2] at this
      exact this.symm
    have hm : s.l.modify q (closed · e i) = s.l.take q ++ closed z e i :: s.l.drop (q + 1) := by
      apply List.ext_getElem?
      intro j
      rcases Nat.lt_trichotomy j q with hj | hj | hj
      · rw [List.getElem?_modify_ne _ _ (by omega), List.getElem?_append_left (by simp; omega), List.getElem?_take_of_lt hj]
      · subst hj
        rw [List.getElem?_modify_eq, hz, List.getElem?_append_right (by rw [List.length_take]; omega), List.length_take, Nat.min_eq_left (by omega), Nat.sub_self]
        rfl
      · rw [List.getElem?_modify_ne _ _ (by omega), List.getElem?_append_right (by simp; omega), List.length_take, Nat.min_eq_left (by omega), show j - q = (j - q - 1) + 1 from by omega, List.getElem?_cons_succ, List.getElem?_drop, show q + 1 + (j - q - 1) = j from by omega]
    have h1 := h.end_
    unfold ended at h1 ⊢
    rw [hm, List.countP_append, List.countP_cons]
    rw [hsplit, List.countP_append, List.countP_cons] at h1
    simp only [hzo, closed] at h1 ⊢
    simp at h1 ⊢
    omega
  · intro j x hx
    rcases get j x hx with ⟨_, hx⟩ | ⟨_, rfl⟩
    · exact h.skip.each j x hx
    · exact ⟨b1, b2, b3, by show z.f < ((i + 1 : Nat) : Int); omega, .inr ⟨by show z.f < (i : Int); omega, by show (i : Int) < ((i + 1 : Nat) : Int); omega⟩⟩
  · intro j k x y hjk hx hy
    have hx0 := get j x hx
    have hy0 := get k y hy
    clear hx hy
    rcases hx0 with ⟨_, hx⟩ | ⟨hjq, hxe⟩
    · rcases hy0 with ⟨_, hy⟩ | ⟨hkq, hye⟩
      · exact h.rise j k x y hjk hx hy
      · rw [hkq] at hjk
        rw [hye]
        exact h.rise j q x z hjk hx hz
    · rcases hy0 with ⟨_, hy⟩ | ⟨hkq, _⟩
      · rw [hjq] at hjk
        obtain ⟨a1, a2⟩ := h.rise q k z y hjk hz hy
        rw [hxe]
        refine ⟨a1, fun ht => ?_⟩
        have := a2 ht
        simp [befI, hzo] at this
      · omega
  · intro T' p hT' hp
    simp only [upd] at hp
    split at hp
    · omega
    · rename_i hne
      obtain ⟨x, hx, h1, h2⟩ := h.opn T' p hT' hp
      refine ⟨x, ?_, h1, h2⟩
      rw [List.getElem?_modify_ne _ _ (fun hpq => ?_)]
      · exact hx
      · subst hpq
        rw [hz] at hx
        cases hx
        omega
  · intro j x hx ho
    simp only [upd]
    rcases get j x hx with ⟨hj, hx⟩ | ⟨_, rfl⟩
    · have h3 := h.own j x hx ho
      split
      · rename_i e'
        rw [e', hq] at h3
        omega
      · exact h3
    · simp only [closed] at ho
      omega

theorem good_run : ∀ (E : List Ev) (i c r : Nat) (s s' : St), Good s i c r → runE E i s = .ok s' → Good s' (i + E.length) (c + cnt 1 E) (r + cnt 2 E)
  | [], i, c, r, s, s', h, hr => by
    cases hr
    simpa [cnt] using h
  | e :: E, i, c, r, s, s', h, hr => by
    unfold runE at hr
    have fin : ∀ {c1 r1 : Nat} {s1 : St}, Good s1 (i + 1) c1 r1 → runE E (i + 1) s1 = .ok s' → c1 + cnt 1 E = c + cnt 1 (e :: E) → r1 + cnt 2 E = r + cnt 2 (e :: E) → Good s' (i + (e :: E).length) (c + cnt 1 (e :: E)) (r + cnt 2 (e :: E)) := by
      intro c1 r1 s1 g hr h1 h2
      have := good_run E (i + 1) c1 r1 s1 s' g hr
      rw [h1, h2, show i + 1 + E.length = i + (e :: E).length from by simp; omega] at this
      exact this
    split at hr
    · rename_i hk
      exact fin h.skip hr (by simp [cnt, hk]) (by simp [cnt, hk])
    · split at hr
      · rename_i hok
        obtain ⟨T, hT, he, ⟨h1, h2⟩ | ⟨h1, q, h2⟩⟩ := okE_yes hok
        · rw [stepE_open h1 he] at hr
          exact fin (h.opens hT he h2) hr (by simp [cnt, h1]; omega) (by simp [cnt, h1])
        · rw [stepE_close h1 he h2] at hr
          exact fin (h.closes hT h2) hr (by simp [cnt, h1]) (by simp [cnt, h1]; omega)
      · cases hr
theorem good_ops {E : List Ev} {s : St} (h : ops E = .ok s) : Good s E.length (cnt 1 E) (cnt 2 E) := by
  have := good_run E 0 0 0 St.new s good_new h
  simpa using this
end Go.Proofs.Ytidonelhapmceaa
