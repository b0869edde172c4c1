/- The walk of ArenaTurn. -/
import Derived.Test.YtpmolcbfjjibgaaInv
namespace Go.Proofs.Ytpmolcbfjjibgaa
open Go.RowKit

def hs (l : List Nat) : List (Int × Int) := l.map fun s : Nat => ((s : Int), (1 : Int))
theorem hs_length (l : List Nat) : (hs l).length = l.length := by simp [hs]
theorem hs_snoc (l : List Nat) (k : Nat) : hs l ++ [((k : Int), (1 : Int))] = hs (l ++ [k]) := by simp [hs]
theorem hs_get (l : List Nat) (k : Nat) (h : k < l.length) : (hs l).getD k (0, 0) = (((l.getD k 0 : Nat) : Int), 1) := by simp [hs, h]

/-- k slots are taken, the others never were. -/
def T1 (n k : Nat) (s : AS) : Prop := s.sl.length = n ∧ s.free = List.range' k (n - k) ∧ ∀ j, j < n → (s.sl.getD j (0, 0)).1 = if j < k then 1 else 0
/-- The live ones and the freed ones; each was taken once. -/
def T2 (n : Nat) (live freed : List Nat) (s : AS) : Prop :=
  s.sl.length = n ∧ s.free = freed ∧ (∀ j ∈ live, j < n ∧ (s.sl.getD j (0, 0)).1 = 1) ∧ (∀ j ∈ freed, j < n ∧ (s.sl.getD j (0, 0)).1 = 2) ∧ (live ++ freed).Nodup ∧ live.length + freed.length = n
/-- Those that are still free were taken once, and freed. -/
def T3 (n : Nat) (r : List Nat) (s : AS) : Prop := s.sl.length = n ∧ s.free = r ∧ (∀ j ∈ r, j < n ∧ (s.sl.getD j (0, 0)).1 = 2) ∧ r.Nodup

theorem getD_set (l : List (Int × Int)) (k j : Nat) (x : Int × Int) (hk : k < l.length) : (l.set k x).getD j (0, 0) = if j = k then x else l.getD j (0, 0) := by
  by_cases h : j = k
  · subst h; simp [hk]
  · rw [if_neg h]
    simp [List.getD_eq_getElem?_getD, List.getElem?_set_ne (Ne.symm h)]

variable {w wr : World} {b n : Nat} {lv fv : Value} {ls rs : List (Int × Int)} {l : List Nat} {s : AS}

theorem inv_take1 {k : Nat} (h : Inv (T1 n k) w wr b lv ls fv rs l s) (hk : k < n) (v : Int) :
    Calls Try.prog 10 #[.pointer (some ⟨b, 0, none⟩), .int .i64 v] wr fun e w' => e = .returned (.tuple #[.agg #[.int .i64 k, .int .i64 1], .int .i64 0]) ∧ ∃ s', Inv (T1 n (k + 1)) w w' b lv ls fv rs l s' := by
  obtain ⟨t1, t2, t3⟩ := h.law
  have hf : s.free = k :: List.range' (k + 1) (n - (k + 1)) := by
    rw [t2, show n - k = n - (k + 1) + 1 from by omega, List.range'_succ]
  have hg : (s.sl.getD k (0, 0)).1 = 0 := by rw [t3 k hk, if_neg (by omega)]
  refine (ar_take h.ar v k _ hf (by omega)).mono ?_
  rintro e w' ⟨rfl, ha, hF⟩
  rw [hg, show wrap64 ((0 : Int) + 1) = 1 from by decide +kernel] at ha ⊢
  refine ⟨rfl, _, h.step ha (Fresh.same _ _) hF ⟨by simpa using t1, rfl, fun j hj => ?_⟩⟩
  show ((s.sl.set k (1, v)).getD j (0, 0)).1 = _
  rw [getD_set _ _ _ _ (by omega)]
  by_cases e : j = k
  · rw [if_pos e, if_pos (by omega)]
  · rw [if_neg e, t3 j hj]
    by_cases e2 : j < k
    · rw [if_pos e2, if_pos (by omega)]
    · rw [if_neg e2, if_neg (by omega)]

theorem erase_perm : ∀ (l : List Nat) (j : Nat), j < l.length → (l.getD j 0 :: l.eraseIdx j).Perm l
  | [], j, h => by simp at h
  | a :: l, 0, _ => by simp
  | a :: l, j + 1, h => by
    have := erase_perm l j (by simpa using h)
    rw [List.eraseIdx_cons_succ, List.getD_cons_succ]
    exact (List.Perm.swap _ _ _).trans (this.cons a)
theorem inv_free {live freed : List Nat} (h : Inv (T2 n live freed) w wr b lv ls fv rs l s) (hn : n ≤ 64) (j : Nat) (hj : j < live.length) :
    Calls Try.prog 11 #[.pointer (some ⟨b, 0, none⟩), .agg #[.int .i64 ((live.getD j 0 : Nat) : Int), .int .i64 1]] wr fun e w' => e = .returned (.int .i64 0) ∧ ∃ l' s', Inv (T2 n (live.eraseIdx j) (freed ++ [live.getD j 0])) w w' b lv ls fv rs l' s' := by
  obtain ⟨t1, t2, t3, t4, t5, t6⟩ := h.law
  have hx : live.getD j 0 ∈ live := by simp [hj]
  have hp := (erase_perm live j hj).symm
  generalize live.getD j 0 = x at hx hp ⊢
  obtain ⟨hxn, hxg⟩ := t3 x hx
  refine (ar_free h.ar x 1 (by omega) hxg (by decide) (by rw [t2]; omega)).mono ?_
  rintro e w' ⟨rfl, ⟨l', ha, hfr⟩, hF⟩
  rw [show wrap64 ((1 : Int) + 1) = 2 from by decide +kernel] at ha
  have hnd : (x :: live.eraseIdx j ++ freed).Nodup := ((hp.append_right freed).nodup_iff).1 t5
  have hnx : x ∉ live.eraseIdx j := by
    intro hm; simp at hnd; exact hnd.1.1 hm
  have hnf : x ∉ freed := by
    intro hm; simp at hnd; exact hnd.1.2 hm
  refine ⟨rfl, l', _, h.step ha hfr hF ⟨by simpa using t1, by rw [t2], fun y hy => ?_, fun y hy => ?_, ?_, ?_⟩⟩
  · have hy' := t3 y (hp.mem_iff.2 (by simp [hy]))
    refine ⟨hy'.1, ?_⟩
    show ((s.sl.set x (2, 0)).getD y (0, 0)).1 = _
    rw [getD_set _ _ _ _ (by omega), if_neg (show ¬ y = x from fun e => hnx (e ▸ hy))]
    exact hy'.2
  · simp only [List.mem_append, List.mem_singleton] at hy
    show y < n ∧ ((s.sl.set x (2, 0)).getD y (0, 0)).1 = _
    rw [getD_set _ _ _ _ (by omega)]
    rcases hy with hy | rfl
    · rw [if_neg (show ¬ y = x from fun e => hnf (e ▸ hy))]; exact t4 y hy
    · rw [if_pos rfl]; exact ⟨hxn, rfl⟩
  · have : (live.eraseIdx j ++ (freed ++ [x])).Perm (x :: live.eraseIdx j ++ freed) := by
      rw [← List.append_assoc]
      exact (List.perm_append_comm).trans (by simp)
    exact this.nodup_iff.2 hnd
  · have := hp.length_eq
    simp at this ⊢; omega

theorem inv_take3 {x : Nat} {r : List Nat} (h : Inv (T3 n (x :: r)) w wr b lv ls fv rs l s) (v : Int) :
    Calls Try.prog 10 #[.pointer (some ⟨b, 0, none⟩), .int .i64 v] wr fun e w' => e = .returned (.tuple #[.agg #[.int .i64 x, .int .i64 3], .int .i64 0]) ∧ ∃ s', Inv (T3 n r) w w' b lv ls fv rs l s' := by
  obtain ⟨t1, t2, t3, t4⟩ := h.law
  obtain ⟨hx, hg⟩ := t3 x (by simp)
  refine (ar_take h.ar v x r t2 (by omega)).mono ?_
  rintro e w' ⟨rfl, ha, hF⟩
  rw [hg, show wrap64 ((2 : Int) + 1) = 3 from by decide +kernel] at ha ⊢
  simp only [List.nodup_cons] at t4
  refine ⟨rfl, _, h.step ha (Fresh.same _ _) hF ⟨by simpa using t1, rfl, fun j hj => ?_, t4.2⟩⟩
  have := t3 j (by simp [hj])
  refine ⟨this.1, ?_⟩
  show ((s.sl.set x (3, v)).getD j (0, 0)).1 = _
  rw [getD_set _ _ _ _ (by omega), if_neg (show ¬ j = x from fun e => t4.1 (e ▸ hj))]
  exact this.2

theorem inv_full (h : Inv (T3 n []) w wr b lv ls fv rs l s) (v : Int) :
    Calls Try.prog 10 #[.pointer (some ⟨b, 0, none⟩), .int .i64 v] wr fun e w' => e = .returned (.tuple #[.agg #[.int .i64 0, .int .i64 0], .int .i64 13]) ∧ Inv (T3 n []) w w' b lv ls fv rs l s := by
  refine (ar_full h.ar v h.law.2.1).mono ?_
  rintro e w' ⟨rfl, B⟩
  exact ⟨rfl, h.below B⟩

theorem inv_new (n : Nat) (w : World) (h1 : 1 ≤ n) (h2 : n ≤ 64) :
    Calls Try.prog 9 #[.int .i64 n] w fun e w' => e = .returned (.tuple #[.pointer (some ⟨w.heap.size + 1, 0, none⟩), .int .i64 0]) ∧ ∃ l s, Inv (T1 n 0) w w' (w.heap.size + 1) (.slice none 0 0) [] (.slice none 0 0) [] l s := by
  refine (ar_new n w h1 h2).mono ?_
  rintro e w' ⟨rfl, ⟨l, ha⟩, B⟩
  refine ⟨rfl, l, _, ha, ⟨by simp [AS.new], by simp [AS.new, List.range_eq_range'], fun j hj => ?_⟩, Win.nil _ _ _ _, Win.nil _ _ _ _, by simp [Value.ownBlock], by simp [Value.ownBlock], by simp [Value.ownBlock], B⟩
  simp [AS.new, hj]

theorem Inv.turn {T T' : AS → Prop} (h : Inv T w wr b lv ls fv rs l s) (ht : T s → T' s) : Inv T' w wr b lv ls fv rs l s := ⟨h.ar, ht h.law, h.lw, h.fw, h.la, h.fa, h.lf, h.bel⟩

theorem t1_t2 (s : AS) (h : T1 n n s) : T2 n (List.range n) [] s := by
  obtain ⟨h1, h2, h3⟩ := h
  refine ⟨h1, by simpa using h2, fun j hj => ?_, by simp, by simp [List.nodup_range], by simp⟩
  have hj' : j < n := by simpa using hj
  exact ⟨hj', by rw [h3 j hj', if_pos hj']⟩
theorem t2_t3 {live freed : List Nat} (s : AS) (h : T2 n live freed s) : T3 n freed s := by
  obtain ⟨h1, h2, _, h4, h5, _⟩ := h
  exact ⟨h1, h2, h4, (List.nodup_append.1 h5).2.1⟩
end Go.Proofs.Ytpmolcbfjjibgaa
