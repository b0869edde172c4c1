/- What the walk of ArenaTurn keeps from step to step. -/
import Derived.Test.YtpmolcbfjjibgaaCalls
import Derived.Test.YtpmolcbfjjibgaaWithin
namespace Go.Proofs.Ytpmolcbfjjibgaa
open Go.RowKit

/-- The cells of a list of handles. -/
def prs (l : List (Int × Int)) : List Value := (pairs l).toList
theorem prs_length (l : List (Int × Int)) : (prs l).length = l.length * 2 := by rw [prs, Array.length_toList, pairs_size]
theorem prs_append (a b : List (Int × Int)) : prs (a ++ b) = prs a ++ prs b := by simp [prs, pairs]
theorem prs_get (l : List (Int × Int)) (k : Nat) (h : k < l.length) : (prs l)[k * 2]? = some (.int .i64 (l.getD k (0, 0)).1) ∧ (prs l)[k * 2 + 1]? = some (.int .i64 (l.getD k (0, 0)).2) := by
  rw [prs, Array.getElem?_toList, Array.getElem?_toList]; exact pairs_get l k h
theorem prs_cons (p : Int × Int) (l : List (Int × Int)) : prs (p :: l) = .int .i64 p.1 :: .int .i64 p.2 :: prs l := pairs_cons p l
theorem prs_take : ∀ (l : List (Int × Int)) (k : Nat), (prs l).take (k * 2) = prs (l.take k)
  | _, 0 => by simp [prs, pairs]
  | [], k + 1 => by simp [prs, pairs]
  | p :: l, k + 1 => by rw [prs_cons, List.take_succ_cons, prs_cons, show (k + 1) * 2 = k * 2 + 1 + 1 from by omega, List.take_succ_cons, List.take_succ_cons, prs_take l k]
theorem prs_drop : ∀ (l : List (Int × Int)) (k : Nat), (prs l).drop (k * 2) = prs (l.drop k)
  | _, 0 => by simp
  | [], k + 1 => by simp [prs, pairs]
  | p :: l, k + 1 => by rw [prs_cons, List.drop_succ_cons, show (k + 1) * 2 = k * 2 + 1 + 1 from by omega, List.drop_succ_cons, List.drop_succ_cons, prs_drop l k]
theorem prs_cell1 : ∀ (l : List (Int × Int)), ∀ u ∈ prs l, u.oneCell' = true
  | [], u, h => by simp [prs, pairs] at h
  | p :: l, u, h => by
    rw [prs_cons] at h
    simp only [List.mem_cons] at h
    rcases h with rfl | rfl | h
    · simp [Value.oneCell']
    · simp [Value.oneCell']
    · exact prs_cell1 l u h

/-- An arena whose state obeys T, and two lists of handles beside it, all in new memory, apart from each other. -/
structure Inv (T : AS → Prop) (w wr : World) (b : Nat) (lv : Value) (live : List (Int × Int)) (fv : Value) (freed : List (Int × Int)) (l : List Nat) (s : AS) : Prop where
  ar : Ar wr w.heap.size b l s
  law : T s
  lw : Win wr w.heap.size 30 2 lv live.length (prs live)
  fw : Win wr w.heap.size 30 2 fv freed.length (prs freed)
  la : ∀ k, lv.ownBlock = some k → k ∉ l
  fa : ∀ k, fv.ownBlock = some k → k ∉ l
  lf : ∀ k, lv.ownBlock = some k → fv.ownBlock ≠ some k
  bel : Below w.heap.size w wr

variable {T T' : AS → Prop} {w wr w' : World} {b : Nat} {lv fv : Value} {live freed : List (Int × Int)} {l : List Nat} {s : AS}

theorem Inv.step (h : Inv T w wr b lv live fv freed l s) {l' : List Nat} {s' : AS} (ha : Ar w' w.heap.size b l' s') (hn : Fresh wr l l') (hf : Frm l wr w') (ht : T' s') : Inv T' w w' b lv live fv freed l' s' :=
  ⟨ha, ht, h.lw.frm hf (fun k hk e => h.la k e hk), h.fw.frm hf (fun k hk e => h.fa k e hk),
    fun k hk => hn.out (h.la k hk) (h.lw.lt k hk).2, fun k hk => hn.out (h.fa k hk) (h.fw.lt k hk).2, h.lf, below_ar h.bel h.ar hf (Nat.le_refl _)⟩
theorem Fresh.same (w : World) (l : List Nat) : Fresh w l l := fun _ h => .inl h
theorem Inv.below (h : Inv T w wr b lv live fv freed l s) (hb : Below wr.heap.size wr w') : Inv T w w' b lv live fv freed l s :=
  ⟨h.ar.below hb, h.law, h.lw.below hb, h.fw.below hb, h.la, h.fa, h.lf, h.bel.trans (hb.mono h.bel.size)⟩
theorem Inv.alloc (h : Inv T w wr b lv live fv freed l s) (o : Obj) : Inv T w (wr.alloc o) b lv live fv freed l s := h.below ((Below.refl _ _).alloc (Nat.le_refl _) o)

theorem Inv.push_live (h : Inv T w wr b lv live fv freed l s) {f o cap : Nat} {p : Int × Int} (hg : wr.grownBy w' lv.ownBlock)
    (hw : Win w' w.heap.size 30 2 (.slice (some ⟨f, o, none⟩) (live.length + 1) cap) (live.length + 1) (prs live ++ prs [p])) (hat : lv.ownBlock = some f ∨ wr.heap.size ≤ f) :
    Inv T w w' b (.slice (some ⟨f, o, none⟩) (live.length + 1) cap) (live ++ [p]) fv freed l s := by
  have F : Frm lv.ownBlock.toList wr w' := Frm.of_grown hg (fun k hk _ => by simp [hk])
  refine ⟨h.ar.frm F (fun k hk => h.la k (by simpa using hk)), h.law, by simpa [prs_append] using hw, h.fw.frm F (fun k hk => h.lf k (by simpa using hk)), ?_, h.fa, ?_, ?_⟩
  · intro k hk
    obtain rfl : f = k := by simpa [Value.ownBlock] using hk
    rcases hat with e | e
    · exact h.la _ e
    · intro hm; have := (h.ar.foot_lt _ hm).2; omega
  · intro k hk
    obtain rfl : f = k := by simpa [Value.ownBlock] using hk
    rcases hat with e | e
    · exact h.lf _ e
    · intro hm; have := (h.fw.lt _ hm).2; omega
  · exact h.bel.trans (F.below h.bel.size (fun k hk => (h.lw.lt k (by simpa using hk)).1))

theorem Inv.push_freed (h : Inv T w wr b lv live fv freed l s) {f o cap : Nat} {p : Int × Int} (hg : wr.grownBy w' fv.ownBlock)
    (hw : Win w' w.heap.size 30 2 (.slice (some ⟨f, o, none⟩) (freed.length + 1) cap) (freed.length + 1) (prs freed ++ prs [p])) (hat : fv.ownBlock = some f ∨ wr.heap.size ≤ f) :
    Inv T w w' b lv live (.slice (some ⟨f, o, none⟩) (freed.length + 1) cap) (freed ++ [p]) l s := by
  have F : Frm fv.ownBlock.toList wr w' := Frm.of_grown hg (fun k hk _ => by simp [hk])
  refine ⟨h.ar.frm F (fun k hk => h.fa k (by simpa using hk)), h.law, h.lw.frm F (fun k hk e => h.lf k e (by simpa using hk)), by simpa [prs_append] using hw, h.la, ?_, ?_, ?_⟩
  · intro k hk
    obtain rfl : f = k := by simpa [Value.ownBlock] using hk
    rcases hat with e | e
    · exact h.fa _ e
    · intro hm; have := (h.ar.foot_lt _ hm).2; omega
  · intro k hk e
    obtain rfl : f = k := by simpa [Value.ownBlock] using e
    rcases hat with e | e
    · exact h.lf _ hk e
    · have := (h.lw.lt _ hk).2; omega
  · exact h.bel.trans (F.below h.bel.size (fun k hk => (h.fw.lt k (by simpa using hk)).1))

theorem Inv.new_live (h : Inv T w wr b lv live fv freed l s) {v : Value} {live' : List (Int × Int)} (hb : Below wr.heap.size wr w') (hw : Win w' wr.heap.size 30 2 v live'.length (prs live')) :
    Inv T w w' b v live' fv freed l s :=
  have h' := h.below hb
  ⟨h'.ar, h.law, hw.of_base h.bel.size, h'.fw, fun k hk hm => by have := (hw.lt k hk).1; have := (h.ar.foot_lt _ hm).2; omega, h.fa, fun k hk hm => by have := (hw.lt k hk).1; have := (h.fw.lt k hm).2; omega, h'.bel⟩
end Go.Proofs.Ytpmolcbfjjibgaa
