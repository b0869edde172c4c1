/- GracePlays in plain Lean: the grace and the document's answer go on alike. -/
import Derived.Test.YtedfegbafjmkgaaRef5
import Derived.Test.YtedfegbafjmkgaaSafeLaw
namespace Go.Proofs.Ytedfegbafjmkgaa
open Go.RowKit

def All2 (R : WE → RE → Prop) : List WE → List RE → Prop
  | [], [] => True
  | x :: l, y :: m => R x y ∧ All2 R l m
  | _, _ => False
section
variable {R R' : WE → RE → Prop}
theorem All2.length : ∀ {l : List WE} {m : List RE}, All2 R l m → l.length = m.length
  | [], [], _ => rfl
  | _ :: l, _ :: m, h => by simp [All2.length h.2]
  | [], _ :: _, h => h.elim
  | _ :: _, [], h => h.elim
theorem All2.mono (hR : ∀ x y, R x y → R' x y) : ∀ {l : List WE} {m : List RE}, All2 R l m → All2 R' l m
  | [], [], _ => trivial
  | _ :: _, _ :: _, h => ⟨hR _ _ h.1, h.2.mono hR⟩
  | [], _ :: _, h => h.elim
  | _ :: _, [], h => h.elim
theorem All2.map {f : RE → RE} (hR : ∀ x y, R x y → R' x (f y)) : ∀ {l : List WE} {m : List RE}, All2 R l m → All2 R' l (m.map f)
  | [], [], _ => trivial
  | _ :: _, _ :: _, h => ⟨hR _ _ h.1, h.2.map hR⟩
  | [], _ :: _, h => h.elim
  | _ :: _, [], h => h.elim
theorem All2.snoc {x : WE} {y : RE} (hxy : R x y) : ∀ {l : List WE} {m : List RE}, All2 R l m → All2 R (l ++ [x]) (m ++ [y])
  | [], [], _ => ⟨hxy, trivial⟩
  | _ :: _, _ :: _, h => ⟨h.1, h.2.snoc hxy⟩
  | [], _ :: _, h => h.elim
  | _ :: _, [], h => h.elim
theorem All2.filter {p : WE → Bool} {q : RE → Bool} (hp : ∀ x y, R x y → p x = q y) : ∀ {l : List WE} {m : List RE}, All2 R l m → All2 R (l.filter p) (m.filter q)
  | [], [], _ => trivial
  | x :: l, y :: m, h => by
    rw [List.filter_cons, List.filter_cons, hp x y h.1]
    cases q y
    · exact h.2.filter hp
    · exact ⟨h.1, h.2.filter hp⟩
  | [], _ :: _, h => h.elim
  | _ :: _, [], h => h.elim
theorem All2.ids (hid : ∀ x y, R x y → x.id = y.id) : ∀ {l : List WE} {m : List RE}, All2 R l m → l.map WE.id = m.map RE.id
  | [], [], _ => rfl
  | x :: l, y :: m, h => by rw [List.map_cons, List.map_cons, hid x y h.1, h.2.ids hid]
  | [], _ :: _, h => h.elim
  | _ :: _, [], h => h.elim
theorem All2.find (id : Int) (hid : ∀ x y, R x y → x.id = y.id) : ∀ {l : List WE} {m : List RE}, All2 R l m →
    (l.find? (fun x => x.id == id) = none ∧ m.find? (fun x => x.id == id) = none) ∨ ∃ x y, l.find? (fun x => x.id == id) = some x ∧ m.find? (fun x => x.id == id) = some y ∧ R x y
  | [], [], _ => .inl ⟨rfl, rfl⟩
  | x :: l, y :: m, h => by
    rw [List.find?_cons, List.find?_cons, ← hid x y h.1]
    cases x.id == id
    · exact h.2.find id hid
    · exact .inr ⟨x, y, rfl, rfl, h.1⟩
  | [], _ :: _, h => h.elim
  | _ :: _, [], h => h.elim
end
/-- An id and its fellow. -/
structure Wk (n : Nat) (rd : List (Int × Int)) (x : WE) (y : RE) : Prop where
  id : x.id = y.id
  len : y.who.length = n
  mks : ∀ r, r < n → y.who.getD r false = (x.l.getD r 0 == (rd.getD r (0, 0)).2) ∧ x.l.getD r 0 ≤ (rd.getD r (0, 0)).2 ∧ (x.l.getD r 0 = (rd.getD r (0, 0)).2 → 0 < (rd.getD r (0, 0)).1)
structure PJ (n i : Nat) (s : GS) (t : RS) : Prop where
  lr : s.rd.length = n
  li : t.ins.length = n
  ins : ∀ r, r < n → t.ins.getD r 0 = (s.rd.getD r (0, 0)).1
  ps : ∀ r, r < n → 0 ≤ (s.rd.getD r (0, 0)).1 ∧ (s.rd.getD r (0, 0)).1 ≤ i
  lf : ∀ r, r < n → 0 ≤ (s.rd.getD r (0, 0)).2 ∧ (s.rd.getD r (0, 0)).2 + (if (s.rd.getD r (0, 0)).1 = 0 then 0 else 1) ≤ i
  wt : All2 (Wk n s.rd) s.wt t.l
section
variable {n i : Nat} {s : GS} {t : RS}
theorem PJ.mono (h : PJ n i s t) : PJ n (i + 1) s t :=
  ⟨h.lr, h.li, h.ins, fun r hr => by have := h.ps r hr; omega, fun r hr => by have := h.lf r hr; omega, h.wt⟩
theorem PJ.at (h : PJ n i s t) {r : Nat} (hr : r < n) : ∃ x, s.rd[r]? = some x ∧ s.rd.getD r (0, 0) = x ∧ t.ins.getD r 0 = x.1 := by
  have hl : r < s.rd.length := by have := h.lr; omega
  have e : s.rd.getD r (0, 0) = s.rd[r] := by simp [List.getD_eq_getElem?_getD, List.getElem?_eq_getElem hl]
  exact ⟨s.rd[r], List.getElem?_eq_getElem hl, e, by rw [h.ins r hr, e]⟩
theorem PJ.enter (h : PJ n i s t) {r : Nat} (hr : r < n) {x : Int × Int} (hx : s.rd.getD r (0, 0) = x) (hi : i < 1000) : PJ n (i + 1) (s.enter r x) { t with ins := t.ins.set r (wrap64 (t.ins.getD r 0 + 1)) } := by
  have hlr := h.lr
  have hli := h.li
  have hp := h.ps r hr
  have hin := h.ins r hr
  rw [hx] at hp hin
  have hw : wrap64 (x.1 + 1) = x.1 + 1 := by unfold wrap64; omega
  have e1 : ∀ j, (t.ins.set r (wrap64 (t.ins.getD r 0 + 1))).getD j 0 = if j = r then x.1 + 1 else t.ins.getD j 0 := fun j => by rw [hin, hw]; exact getD_set _ _ _ _ _ (by omega)
  have e2 : ∀ j, (s.enter r x).rd.getD j (0, 0) = if j = r then (x.1 + 1, x.2) else s.rd.getD j (0, 0) := fun j => by
    unfold GS.enter; rw [hw]; exact getD_set _ _ _ _ _ (by omega)
  refine ⟨by simp [GS.enter, hlr], by simp [hli], fun j hj => ?_, fun j hj => ?_, fun j hj => ?_, h.wt.mono fun a b hab => ⟨hab.id, hab.len, fun j hj => ?_⟩⟩
  · rw [e1, e2]; split
    · rfl
    · exact h.ins j hj
  · rw [e2]; split
    · dsimp only; omega
    · have := h.ps j hj; omega
  · rw [e2]
    have q := h.lf j hj
    split
    · rename_i e; subst e; rw [hx] at q
      refine ⟨q.1, ?_⟩
      dsimp only
      rw [if_neg (by omega)]
      have := q.2
      split at this <;> omega
    · exact ⟨q.1, by have := q.2; omega⟩
  · have q := hab.mks j hj
    rw [e2]
    by_cases e : j = r
    · subst e
      rw [hx] at q
      simp only [if_true]
      exact ⟨q.1, q.2.1, fun _ => by omega⟩
    · simp only [if_neg e]
      exact q
theorem PJ.leave (h : PJ n i s t) {r : Nat} (hr : r < n) {x : Int × Int} (hx : s.rd.getD r (0, 0) = x) (hi : i < 1000) (h0 : x.1 ≠ 0) : PJ n i (s.leave r x) (t.leave r) := by
  have hlr := h.lr
  have hli := h.li
  have hp := h.ps r hr
  have hin := h.ins r hr
  have hlf := h.lf r hr
  rw [hx] at hp hin hlf
  rw [if_neg h0] at hlf
  have hw : wrap64 (x.1 - 1) = x.1 - 1 := by unfold wrap64; omega
  have hw2 : wrap64 (x.2 + 1) = x.2 + 1 := by unfold wrap64; omega
  have e2 : ∀ j, (s.leave r x).rd.getD j (0, 0) = if j = r then (x.1 - 1, if x.1 - 1 = 0 then x.2 + 1 else x.2) else s.rd.getD j (0, 0) := fun j => by
    unfold GS.leave; rw [hw, hw2]; exact getD_set _ _ _ _ _ (by omega)
  have et : t.leave r = ⟨t.ins.set r (x.1 - 1), if x.1 - 1 = 0 then t.l.map (unmark r) else t.l⟩ := by unfold RS.leave; rw [hin, hw]
  rw [et]
  have e1 : ∀ j, (t.ins.set r (x.1 - 1)).getD j 0 = if j = r then x.1 - 1 else t.ins.getD j 0 := fun j => getD_set _ _ _ _ _ (by omega)
  refine ⟨by simp [GS.leave, hlr], by simp [hli], fun j hj => ?_, fun j hj => ?_, fun j hj => ?_, ?_⟩
  · rw [e1, e2]; split
    · rfl
    · exact h.ins j hj
  · rw [e2]; split
    · dsimp only; omega
    · exact h.ps j hj
  · rw [e2]; split
    · dsimp only
      split <;> omega
    · exact h.lf j hj
  · dsimp only
    by_cases hz : x.1 - 1 = 0
    · rw [if_pos hz]
      refine h.wt.map fun a b hab => ⟨hab.id, by simp [unmark, hab.len], fun j hj => ?_⟩
      have q := hab.mks j hj
      rw [e2]
      have e3 : (unmark r b).who.getD j false = if j = r then false else b.who.getD j false := getD_set _ _ _ _ _ (by rw [hab.len]; exact hr)
      rw [e3]
      by_cases e : j = r
      · subst e
        rw [hx] at q
        simp only [if_true, hz]
        refine ⟨?_, by omega, fun e => by omega⟩
        rw [eq_comm, beq_eq_false_iff_ne]; omega
      · simp only [if_neg e]
        exact q
    · rw [if_neg hz]
      refine h.wt.mono fun a b hab => ⟨hab.id, hab.len, fun j hj => ?_⟩
      have q := hab.mks j hj
      rw [e2]
      by_cases e : j = r
      · subst e
        rw [hx] at q
        simp only [if_true, if_neg hz]
        exact ⟨q.1, q.2.1, fun _ => by omega⟩
      · simp only [if_neg e]
        exact q
theorem PJ.defer (h : PJ n i s t) (id : Int) (sv rv : Value) : PJ n i { s with wt := s.wt ++ [⟨id, sv, sinceOf s.rd⟩] } { t with l := t.l ++ [⟨id, rv, whoTo t.ins t.ins.length⟩] } := by
  have hlr := h.lr
  have hli := h.li
  refine ⟨h.lr, h.li, h.ins, h.ps, h.lf, h.wt.snoc ⟨rfl, by simp [whoTo, hli], fun r hr => ?_⟩⟩
  dsimp only
  have e1 : (whoTo t.ins t.ins.length).getD r false = decide (0 < t.ins.getD r 0) := by
    have : r < t.ins.length := by omega
    simp [whoTo, List.getD_eq_getElem?_getD, this]
  rw [e1, since_at (by omega), h.ins r hr]
  have hlf := h.lf r hr
  by_cases h0 : 0 < (s.rd.getD r (0, 0)).1
  · rw [if_pos h0]
    exact ⟨by rw [decide_eq_true h0, eq_comm, beq_iff_eq], Int.le_refl _, fun _ => h0⟩
  · rw [if_neg h0]
    refine ⟨?_, by omega, fun e => by omega⟩
    rw [decide_eq_false h0, eq_comm, beq_eq_false_iff_ne]; omega
theorem filter_range_congr {n : Nat} {p q : Nat → Bool} (h : ∀ r, r < n → p r = q r) : (List.range n).filter p = (List.range n).filter q :=
  List.filter_congr fun r hr => h r (List.mem_range.1 hr)
theorem Wk.blk {x : WE} {y : RE} {rd : List (Int × Int)} (h : Wk n rd x y) (hn : rd.length = n) : blkd rd x.l rd.length = trues y.who := by
  unfold blkd trues picked
  rw [h.len, hn]
  exact filter_range_congr fun r hr => (h.mks r hr).1.symm
theorem PJ.blocks (h : PJ n i s t) (id : Int) : blocksOf s id = rblocksOf t id := by
  unfold blocksOf rblocksOf
  rcases h.wt.find id (fun _ _ q => q.id) with ⟨e1, e2⟩ | ⟨x, y, e1, e2, hxy⟩
  · rw [e1, e2]
  · rw [e1, e2]
    exact hxy.blk h.lr
theorem PJ.inside (h : PJ n i s t) : inside s.rd s.rd.length = insides t.ins := by
  unfold Ytedfegbafjmkgaa.inside insides picked
  rw [h.lr, h.li]
  exact filter_range_congr fun r hr => by rw [h.ins r hr]
theorem PJ.waits (h : PJ n i s t) : s.wt.map WE.id = t.l.map RE.id := h.wt.ids fun _ _ q => q.id
theorem Wk.free {x : WE} {y : RE} {rd : List (Int × Int)} (h : Wk n rd x y) (hn : rd.length = n) : free rd x = rfree y := by
  unfold Ytedfegbafjmkgaa.free rfree
  rw [h.blk hn]
theorem PJ.poll (h : PJ n i s t) : PJ n i { s with wt := keptOf s s.wt.length } { t with l := rkept t t.l.length } ∧ outOf s s.wt.length = rout t t.l.length := by
  unfold keptOf outOf rkept rout
  rw [List.take_length, List.take_length]
  refine ⟨⟨h.lr, h.li, h.ins, h.ps, h.lf, h.wt.filter fun x y q => by rw [q.free h.lr]⟩, ?_⟩
  exact (h.wt.filter fun x y q => q.free h.lr).ids fun _ _ q => q.id
theorem PJ.none (h : PJ n i s t) : (((Ytedfegbafjmkgaa.inside s.rd s.rd.length).length : Int) == 0) = noneTo t.ins t.ins.length := by
  rw [h.inside]
  have key : (insides t.ins).length = 0 ↔ noneTo t.ins t.ins.length = true := by
    unfold insides picked noneTo
    rw [List.length_eq_zero_iff, List.filter_eq_nil_iff, List.all_eq_true]
    constructor
    · intro q j hj
      have hj' : j < n := by have := List.mem_range.1 hj; rw [h.li] at this; exact this
      have := q j hj
      have hp := h.ps j hj'
      rw [← h.ins j hj'] at hp
      have h1 : ¬ 0 < t.ins.getD j 0 := by simpa using this
      have h2 : t.ins.getD j 0 = 0 := by omega
      rw [h2]; rfl
    · intro q j hj
      have := q j hj
      have h1 : t.ins.getD j 0 = 0 := by simpa using this
      rw [h1]; simp
  by_cases e : (insides t.ins).length = 0
  · rw [key.1 e, e]; rfl
  · have : noneTo t.ins t.ins.length = false := by
      cases hc : noneTo t.ins t.ins.length
      · rfl
      · exact absurd (key.2 hc) e
    rw [this, beq_eq_false_iff_ne]; omega
theorem PJ.start {n : Nat} : PJ n 0 (GS.new n) (RS.new n) := by
  have e : ∀ r, r < n → (GS.new n).rd.getD r (0, 0) = (0, 0) := fun r hr => by simp [GS.new, List.getD_eq_getElem?_getD, hr]
  refine ⟨by simp [GS.new], by simp [RS.new], fun r hr => ?_, fun r hr => ?_, fun r hr => ?_, trivial⟩
  · rw [e r hr]; simp [RS.new, List.getD_eq_getElem?_getD, hr]
  · rw [e r hr]; simp
  · rw [e r hr]; simp
end
end Go.Proofs.Ytedfegbafjmkgaa
