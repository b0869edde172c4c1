/- What the walk of FilePlaces keeps. -/
import Derived.Test.YtfmhiamgfhdmmaaLow
import Derived.Test.YtfmhiamgfhdmmaaWin
namespace Go.Proofs.Ytfmhiamgfhdmmaa
open Go.RowKit

/-- What the law's own list holds of a descriptor. -/
def entry (s : TS) (k : Nat) : List Value := [.int .i64 ((k / 8 : Nat) : Int), .int .i64 ((k % 8 : Nat) : Int), .int .i64 (s.T k).m, .int .i64 (s.T k).n, .int .i64 (s.T k).f, .int .i64 (s.T k).p]
def hcells (s : TS) (l : List Nat) : List Value := l.flatMap (entry s)
theorem hcells_length (s : TS) : ∀ l : List Nat, (hcells s l).length = l.length * 6
  | [] => rfl
  | k :: l => by
    have := hcells_length s l
    simp only [hcells, List.flatMap_cons, List.length_append] at this ⊢
    rw [this]; simp [entry]; omega
theorem hcells_get (s : TS) : ∀ (l : List Nat) (r c : Nat), r < l.length → c < 6 → (hcells s l)[r * 6 + c]? = (entry s (l.getD r 0))[c]?
  | [], r, c, h, _ => by simp at h
  | k :: l, 0, c, _, hc => by
    simp only [hcells, List.flatMap_cons, List.getD_cons_zero]
    rw [List.getElem?_append_left (by simp [entry]; omega), Nat.zero_mul, Nat.zero_add]
  | k :: l, r + 1, c, h, hc => by
    have := hcells_get s l r c (by simpa using h) hc
    simp only [hcells, List.flatMap_cons, List.getD_cons_succ] at this ⊢
    rw [List.getElem?_append_right (by simp [entry]; omega), ← this]
    congr 1
    simp [entry]; omega
theorem hcells_snoc (s : TS) (l : List Nat) (k : Nat) : hcells s l ++ entry s k = hcells s (l ++ [k]) := by simp [hcells]
theorem hcells_put_out (s : TS) (x : Sl) {k : Nat} {l : List Nat} (h : k ∉ l) : hcells (s.put k x) l = hcells s l := by
  induction l with
  | nil => rfl
  | cons a l ih =>
    simp only [List.mem_cons, not_or] at h
    have := ih h.2
    simp only [hcells, List.flatMap_cons] at this ⊢
    rw [this]
    have e : (s.put k x).T a = s.T a := by simp [TS.put, show ¬ a = k from fun e => h.1 e.symm]
    simp [entry, e]
theorem hcells_pos (s : TS) (z : Int) {l : List Nat} (hn : l.Nodup) {q : Nat} (hq : q < l.length) : hcells (s.put (l.getD q 0) { s.T (l.getD q 0) with p := z }) l = (hcells s l).set (q * 6 + 5) (.int .i64 z) := by
  apply List.ext_getElem?
  intro i
  by_cases hi : i < l.length * 6
  · have e : i = (i / 6) * 6 + i % 6 := by omega
    have hr : i / 6 < l.length := by omega
    have hgen := hcells_get (s.put (l.getD q 0) { s.T (l.getD q 0) with p := z }) l (i / 6) (i % 6) hr (by omega)
    have hold := hcells_get s l (i / 6) (i % 6) hr (by omega)
    rw [← e] at hgen hold
    rw [hgen]
    by_cases hqq : i / 6 = q
    · rw [hqq] at hold ⊢
      have hT : (s.put (l.getD q 0) { s.T (l.getD q 0) with p := z }).T (l.getD q 0) = { s.T (l.getD q 0) with p := z } := by simp [TS.put]
      by_cases h5 : i % 6 = 5
      · rw [show i = q * 6 + 5 from by omega, List.getElem?_set_self (by rw [hcells_length]; omega), show (q * 6 + 5) % 6 = 5 from by omega]
        simp only [entry, hT]
        rfl
      · rw [List.getElem?_set_ne (by omega), hold]
        have h6 : i % 6 < 5 := by omega
        generalize i % 6 = c at h6
        match c, h6 with
        | 0, _ => rfl
        | 1, _ => rfl
        | 2, _ => simp only [entry, hT]; rfl
        | 3, _ => simp only [entry, hT]; rfl
        | 4, _ => simp only [entry, hT]; rfl
    · rw [List.getElem?_set_ne (by omega), hold]
      have hne : l.getD (i / 6) 0 ≠ l.getD q 0 := by
        intro he
        have h1 : l[i / 6]? = l[q]? := by
          rw [List.getElem?_eq_getElem hr, List.getElem?_eq_getElem hq]
          simp [List.getD_eq_getElem?_getD, List.getElem?_eq_getElem hr, List.getElem?_eq_getElem hq] at he
          rw [he]
        exact hqq ((List.getElem?_inj hr hn).1 h1)
      have hT : (s.put (l.getD q 0) { s.T (l.getD q 0) with p := z }).T (l.getD (i / 6) 0) = s.T (l.getD (i / 6) 0) := by
        show (if _ then _ else _) = _
        rw [if_neg hne]
      simp only [entry, hT]
  · rw [List.getElem?_eq_none (by rw [hcells_length]; omega), List.getElem?_eq_none (by rw [List.length_set, hcells_length]; omega)]

/-- One more is open. -/
theorem told_put_lt (s : TS) (x : Sl) {k : Nat} : ∀ n, n ≤ k → told (s.put k x).T n = told s.T n
  | 0, _ => rfl
  | n + 1, h => by
    have e : (s.put k x).T n = s.T n := by simp [TS.put, show ¬ n = k by omega]
    cases ho : (s.T n).op with
    | true => rw [told_open (by rw [e]; exact ho), told_open ho, told_put_lt s x n (by omega)]
    | false => rw [told_shut (by rw [e]; exact ho), told_shut ho, told_put_lt s x n (by omega)]
theorem told_put_perm (s : TS) (x : Sl) {k : Nat} (hx : x.op = true) (hk : (s.T k).op = false) : ∀ n, k < n → (told (s.put k x).T n).Perm (told s.T n ++ [k])
  | 0, h => by omega
  | n + 1, h => by
    by_cases e : n = k
    · subst e
      rw [told_open (by simp [TS.put, hx]), told_shut hk, told_put_lt s x n (Nat.le_refl _)]
    · have ih := told_put_perm s x hx hk n (by omega)
      have eT : (s.put k x).T n = s.T n := by simp [TS.put, e]
      cases ho : (s.T n).op with
      | true =>
        rw [told_open (by rw [eT]; exact ho), told_open ho]
        refine (ih.append_right [n]).trans ?_
        rw [List.append_assoc, List.append_assoc]
        exact List.Perm.append_left _ (by simpa using List.Perm.swap n k [])
      | false => rw [told_shut (by rw [eT]; exact ho), told_shut ho]; exact ih
theorem told_same (s : TS) (x : Sl) {k : Nat} (hx : x.op = (s.T k).op) : ∀ n, told (s.put k x).T n = told s.T n
  | 0 => rfl
  | n + 1 => by
    have e : ((s.put k x).T n).op = (s.T n).op := by
      by_cases e : n = k
      · subst e; simp [TS.put, hx]
      · simp [TS.put, e]
    cases ho : (s.T n).op with
    | true => rw [told_open (by rw [e]; exact ho), told_open ho, told_same s x hx n]
    | false => rw [told_shut (by rw [e]; exact ho), told_shut ho, told_same s x hx n]
theorem told_nodup (T : Nat → Sl) (n : Nat) : (told T n).Nodup := List.Pairwise.filter _ List.nodup_range

theorem Win.setCell {w : World} {base : Nat} {e : TypeId} {size f o cap n : Nat} {xs : List Value} (h : Win w base e size (.slice (some ⟨f, o, none⟩) n cap) n xs) {j : Nat} (hj : j < n * size) (v : Value) :
    Win (w.setCell ⟨f, o + j, none⟩ v) base e size (.slice (some ⟨f, o, none⟩) n cap) n (xs.set j v) := by
  obtain ⟨h1, h2 | ⟨f', o', cap', cur, h3, h4, h5, h6, h7, h8, h9⟩⟩ := h
  · cases h2.1
  · cases h3
    have hle : n * size ≤ cap * size := Nat.mul_le_mul_right _ h6
    refine ⟨by rw [List.length_set]; exact h1, .inr ⟨f, o, cap, cur.setIfInBounds (o + j) v, rfl, h4, by simp [World.setCell, Array.getElem?_modify, h5], h6, h7, by simpa using h8, fun i hi => ?_⟩⟩
    by_cases e : j = i
    · subst e
      rw [Array.getElem?_setIfInBounds_self_of_lt (by omega), List.getElem?_set_self (by omega)]
    · rw [Array.getElem?_setIfInBounds_ne (by omega), List.getElem?_set_ne e]
      exact h9 i hi

/-- A table and the law's own list of what is open. -/
structure Hv (w wr : World) (b : Nat) (hv : Value) (have' : List Nat) (s : TS) : Prop where
  tb : IsTb wr b s
  hw : Win wr w.heap.size 60 6 hv have'.length (hcells s have')
  perm : have'.Perm (told s.T 64)
  most : s.most = 64
  hb : hv.ownBlock ≠ some b
  bel : Below w.heap.size w wr
  lob : w.heap.size ≤ b
variable {w wr w' : World} {b : Nat} {hv : Value} {l : List Nat} {s s' : TS}
theorem Hv.mem (h : Hv w wr b hv l s) {k : Nat} (hk : k ∈ l) : k < 64 ∧ (s.T k).op = true := by
  have := h.perm.mem_iff.1 hk
  simpa [told] using this
theorem Hv.nodup (h : Hv w wr b hv l s) : l.Nodup := h.perm.nodup_iff.2 (told_nodup _ _)
theorem Hv.len (h : Hv w wr b hv l s) : l.length = cntT s.T := h.perm.length_eq
theorem Hv.le (h : Hv w wr b hv l s) : l.length ≤ 64 := by rw [h.len]; exact told_length _ _
theorem Hv.count (h : Hv w wr b hv l s) (m : Int) : inT s.T (told s.T 64) m = inT s.T l m := ((h.perm.filter _).length_eq).symm
theorem Hv.below (h : Hv w wr b hv l s) (hB : Below wr.heap.size wr w') : Hv w w' b hv l s := ⟨h.tb.below hB, h.hw.below hB, h.perm, h.most, h.hb, h.bel.trans (hB.mono h.bel.size), h.lob⟩
theorem Hv.alloc (h : Hv w wr b hv l s) (o : Obj) : Hv w (wr.alloc o) b hv l s := h.below ((Below.refl _ _).alloc (Nat.le_refl _) o)
theorem Hv.drew (h : Hv w wr b hv l s) : Hv w wr.drew b hv l s := h.below (Below.refl _ _).drew
theorem Hv.drewN (h : Hv w wr b hv l s) (n : Nat) : Hv w (wr.drewN n) b hv l s := h.below (below_drewN (Below.refl _ _) n)
theorem Hv.start (h : Tb w wr b s) (hm : s.most = 64) (ht : told s.T 64 = []) : Hv w wr b (.slice none 0 0) [] s := ⟨h.tb, Win.nil _ _ _ _, by rw [ht], hm, by simp [Value.ownBlock], h.bel, h.lo⟩

/-- Between the Open and the append; between the Seek and the store. -/
structure Hm (w wr : World) (b : Nat) (hv : Value) (have' : List Nat) (s s' : TS) : Prop where
  tb : IsTb wr b s'
  hw : Win wr w.heap.size 60 6 hv have'.length (hcells s have')
  perm : have'.Perm (told s.T 64)
  most : s'.most = 64
  hb : hv.ownBlock ≠ some b
  bel : Below w.heap.size w wr
  lob : w.heap.size ≤ b
theorem Hv.step (h : Hv w wr b hv l s) (ht : IsTb w' b s') (hf : Frm [b] wr w') (hm : s'.most = 64) : Hm w w' b hv l s s' :=
  ⟨ht, h.hw.frm hf (by simpa using h.hb), h.perm, hm, h.hb, h.bel.trans (hf.below h.bel.size (by simpa using h.lob)), h.lob⟩
theorem Hm.same (h : Hm w wr b hv l s s) : Hv w wr b hv l s := ⟨h.tb, h.hw, h.perm, h.most, h.hb, h.bel, h.lob⟩
theorem Hm.below (h : Hm w wr b hv l s s') (hB : Below wr.heap.size wr w') : Hm w w' b hv l s s' := ⟨h.tb.below hB, h.hw.below hB, h.perm, h.most, h.hb, h.bel.trans (hB.mono h.bel.size), h.lob⟩
theorem Hm.push {k : Nat} {x : Sl} (h : Hm w wr b hv l s (s.put k x)) (hk : k < 64) (hx : x.op = true) (hs : (s.T k).op = false) {f o cap : Nat} (hg : wr.grownBy w' hv.ownBlock)
    (hw : Win w' w.heap.size 60 6 (.slice (some ⟨f, o, none⟩) (l.length + 1) cap) (l.length + 1) (hcells s l ++ entry (s.put k x) k)) (hat : hv.ownBlock = some f ∨ wr.heap.size ≤ f) :
    Hv w w' b (.slice (some ⟨f, o, none⟩) (l.length + 1) cap) (l ++ [k]) (s.put k x) := by
  have F : Frm hv.ownBlock.toList wr w' := Frm.of_grown hg (fun k hk _ => by simp [hk])
  have hnot : k ∉ l := fun hm => by
    have := h.perm.mem_iff.1 hm
    have : (s.T k).op = true := by simpa [told, hk] using this
    rw [hs] at this
    cases this
  refine ⟨h.tb.frm F (by simpa using h.hb), ?_, ?_, h.most, ?_, h.bel.trans (F.below h.bel.size (fun k hk => (h.hw.lt k (by simpa using hk)).1)), h.lob⟩
  · rw [← hcells_put_out s x hnot, hcells_snoc] at hw
    simpa using hw
  · exact (h.perm.append_right [k]).trans (told_put_perm s x hx hs 64 hk).symm
  · intro e
    obtain rfl : f = b := by simpa [Value.ownBlock] using e
    rcases hat with e | e
    · exact h.hb e
    · have := h.tb.lt; omega
theorem Hm.pos {f o cap q : Nat} {z : Int} (h : Hm w wr b (.slice (some ⟨f, o, none⟩) l.length cap) l s (s.put (l.getD q 0) { s.T (l.getD q 0) with p := z })) (hq : q < l.length) :
    Hv w (wr.setCell ⟨f, o + (q * 6 + 5), none⟩ (.int .i64 z)) b (.slice (some ⟨f, o, none⟩) l.length cap) l (s.put (l.getD q 0) { s.T (l.getD q 0) with p := z }) := by
  have hn : l.Nodup := h.perm.nodup_iff.2 (told_nodup _ _)
  have hfb : f ≠ b := fun e => h.hb (by rw [e]; rfl)
  have hfl := (h.hw.lt f rfl).1
  have F : Frm [f] wr (wr.setCell ⟨f, o + (q * 6 + 5), none⟩ (.int .i64 z)) := (Frm.refl _ _).setCell (by simp) _
  refine ⟨h.tb.frm F (by simpa using hfb.symm), ?_, ?_, h.most, h.hb, h.bel.trans (F.below h.bel.size (by simpa using hfl)), h.lob⟩
  · rw [hcells_pos s z hn hq]
    exact h.hw.setCell (by omega) _
  · rw [told_same s _ (by rfl)]; exact h.perm
end Go.Proofs.Ytfmhiamgfhdmmaa
