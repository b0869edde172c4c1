/- Chapter 4, the document's answer: New, Enter, Leave. -/
import Derived.Test.YtedfegbafjmkgaaBlocks
namespace Go.Proofs.Ytedfegbafjmkgaa
open Go.RowKit

/-- Of what there was, the listed blocks alone may have turned, and such from lo on as hold elements of the listed types. -/
structure TFrm (ts : List TypeId) (lo : Nat) (l : List Nat) (w w' : World) : Prop where
  os : w'.os = w.os
  tape : w'.tape = w.tape
  output : w'.output = w.output
  size : w.heap.size ≤ w'.heap.size
  block : ∀ k, k < w.heap.size → k ∉ l → (lo ≤ k → ∀ cs t, w.heap[k]? = some (.cells cs t (0, 0)) → t ∉ ts) → w'.heap[k]? = w.heap[k]?
theorem TFrm.refl (ts : List TypeId) (lo : Nat) (l : List Nat) (w : World) : TFrm ts lo l w w := ⟨rfl, rfl, rfl, Nat.le_refl _, fun _ _ _ _ => rfl⟩
theorem TFrm.trans {ts : List TypeId} {lo : Nat} {l : List Nat} {a b c : World} (h : TFrm ts lo l a b) (k : TFrm ts lo l b c) : TFrm ts lo l a c :=
  ⟨k.os.trans h.os, k.tape.trans h.tape, k.output.trans h.output, Nat.le_trans h.size k.size, fun i hi hn ht => by
    have e := h.block i hi hn ht
    exact (k.block i (Nat.lt_of_lt_of_le hi h.size) hn (by rw [e]; exact ht)).trans e⟩
theorem TFrm.of_frm {ts : List TypeId} {lo : Nat} {l l' : List Nat} {w w' : World} (hF : Frm l' w w') (h : ∀ k ∈ l', k ∈ l ∨ (lo ≤ k ∧ ∃ cs t, w.heap[k]? = some (.cells cs t (0, 0)) ∧ t ∈ ts)) : TFrm ts lo l w w' :=
  ⟨hF.os, hF.tape, hF.output, hF.size, fun k hk hn ht => hF.block k hk fun hm => by
    rcases h k hm with h | ⟨hl, cs, t, hc, hts⟩
    · exact hn h
    · exact ht hl cs t hc hts⟩
theorem TFrm.of_below {ts : List TypeId} {lo : Nat} {l : List Nat} {w w' : World} (h : Below w.heap.size w w') : TFrm ts lo l w w' := .of_frm (l' := []) (.of_below h) (by simp)
theorem TFrm.below {ts : List TypeId} {lo B : Nat} {l : List Nat} {W w w' : World} (hB : Below B W w) (h : TFrm ts lo l w w') (hw : B ≤ w.heap.size) (hlo : B ≤ lo) (hl : ∀ k ∈ l, B ≤ k) : Below B W w' :=
  hB.trans ⟨h.os, h.tape, h.output, h.size, fun k hk => h.block k (by omega) (fun hm => by have := hl k hm; omega) (by omega)⟩
theorem Win.tfrm {ts : List TypeId} {lo : Nat} {l : List Nat} {w w' : World} {b0 : Nat} {e : TypeId} {size : Nat} {v : Value} {n : Nat} {xs : List Value} (h : Win w b0 e size v n xs) (hF : TFrm ts lo l w w') (he : e ∉ ts) (hl : ∀ k ∈ l, k < b0) : Win w' b0 e size v n xs := by
  refine h.kept fun k hk => ?_
  have hk1 := h.lt k hk
  refine hF.block k hk1.2 (fun hm => by have := hl k hm; omega) (fun _ cs t hc => ?_)
  rcases h.2 with ⟨e', _⟩ | ⟨f, o, cap, cur, e', _, h4, _⟩
  · rw [e'] at hk; cases hk
  · rw [e'] at hk
    obtain rfl : f = k := by simpa [Value.ownBlock] using hk
    rw [h4] at hc; cases hc; exact he
theorem Holds.same {w w' : World} {b : Nat} {cs : Array Value} (h : Holds w b cs) (e : w'.heap[b]? = w.heap[b]?) (hs : w.heap.size ≤ w'.heap.size) : Holds w' b cs :=
  ⟨fun j => (World.cell?_of_block (w := w) (a := ⟨b, j, none⟩) e).trans (h.1 j), fun j => (World.frozen?_of_block (w := w) (a := ⟨b, j, none⟩) e).trans (h.2.1 j), Nat.lt_of_lt_of_le h.lt hs⟩
theorem heapSet {w : World} {b j : Nat} {cs : Array Value} {t : TypeId} (h : w.heap[b]? = some (.cells cs t (0, 0))) (u : Value) : (w.setCell ⟨b, j, none⟩ u).heap[b]? = some (.cells (cs.setIfInBounds j u) t (0, 0)) := by
  unfold World.setCell
  simp only []
  rw [Array.getElem?_modify, if_pos rfl, h]
  rfl
theorem heapCell {w : World} {b : Nat} {cs : Array Value} {t : TypeId} (h : w.heap[b]? = some (.cells cs t (0, 0))) (j : Nat) : w.cell? ⟨b, j, none⟩ = cs[j]? := by simp [World.cell?, h]
theorem heapFree {w : World} {b : Nat} {cs : Array Value} {t : TypeId} (h : w.heap[b]? = some (.cells cs t (0, 0))) (j : Nat) : w.frozen? ⟨b, j, none⟩ = false := by simp [World.frozen?, h]
theorem heapLt {w : World} {b : Nat} {o : Obj} (h : w.heap[b]? = some o) : b < w.heap.size := (Array.getElem?_eq_some_iff.1 h).1

section
variable {w w' : World} {base g rb : Nat} {v : Value} {s : GS}
theorem Gr.tfrm {ts : List TypeId} {l : List Nat} (h : Gr w base g rb v s) (hF : TFrm ts base l w w') (h1 : 60 ∉ ts) (h2 : 3 ∉ ts) (hg : g ∉ l) (hr : rb ∉ l) (hl : ∀ k ∈ l, k < base) : Gr w' base g rb v s := by
  have gb := h.gb
  have rbb := h.rbb
  refine ⟨h.hg.same (hF.block g h.hg.lt hg (by omega)) hF.size, h.hr.same (hF.block rb h.hr.lt hr (by omega)) hF.size, h.hv.tfrm hF h1 hl, fun x hx => ?_, h.n1, h.n8, h.m16, gb, rbb, h.ne, Nat.le_trans h.bs hF.size⟩
  obtain ⟨f, o, cap, cs, e, a1, a2, a3⟩ := h.hs x hx
  refine ⟨f, o, cap, cs, e, a1, (hF.block f (heapLt a2) (fun hm => by have := hl f hm; omega) (fun _ cs' t hc => ?_)).trans a2, a3⟩
  rw [a2] at hc; cases hc; exact h2
theorem Gr.to_tfrm (h : Gr w base g rb v s) (hF : Frm (g :: rb :: v.ownBlock.toList) w w') : TFrm [60] base [g, rb] w w' :=
  .of_frm hF fun k hk => by
    rcases List.mem_cons.1 hk with rfl | hk
    · simp
    rcases List.mem_cons.1 hk with rfl | hk
    · simp
    have e : v.ownBlock = some k := by simpa using hk
    right
    refine ⟨(h.hv.lt k e).1, ?_⟩
    rcases h.hv.2 with ⟨e', _⟩ | ⟨f', o', cap', cur, e', _, h4, _⟩
    · rw [e'] at e; cases e
    · rw [e'] at e
      obtain rfl : f' = k := by simpa [Value.ownBlock] using e
      exact ⟨_, _, h4, by simp⟩
end

/-- An id that waits, in the document's answer: for whom. -/
structure RE where
  (id : Int) (v : Value) (who : List Bool)
def RE.cells (x : RE) : List Value := [.int .i64 x.id, x.v]
structure RS where
  ins : List Int
  l : List RE
def recells (l : List RE) : List Value := l.flatMap RE.cells
def bl (l : List Bool) : Array Value := (l.map Value.bool).toArray
def il (l : List Int) : Array Value := (l.map (Value.int .i64)).toArray
def WhoAt (w : World) (base n : Nat) (x : RE) : Prop := ∃ f, x.v = .slice (some ⟨f, 0, none⟩) n n ∧ base ≤ f ∧ w.heap[f]? = some (.cells (bl x.who) 4 (0, 0)) ∧ x.who.length = n
structure Rf (w : World) (base gb ib : Nat) (v : Value) (t : RS) : Prop where
  hg : Holds w gb #[.slice (some ⟨ib, 0, none⟩) t.ins.length t.ins.length, v]
  hi : Holds w ib (il t.ins)
  hv : Win w base 70 2 v t.l.length (recells t.l)
  hs : ∀ x ∈ t.l, WhoAt w base t.ins.length x
  nd : (t.l.map fun x => x.v.ownBlock).Nodup
  n1 : 1 ≤ t.ins.length
  n8 : t.ins.length ≤ 8
  m16 : t.l.length ≤ 16
  gbb : gb < base
  ibb : ib < base
  ne : gb ≠ ib
  bs : base ≤ w.heap.size
theorem recells_at {l : List RE} {i : Nat} {x : RE} (h : l[i]? = some x) : (recells l)[i * 2]? = some (.int .i64 x.id) ∧ (recells l)[i * 2 + 1]? = some x.v :=
  flat2 (fun x : RE => Value.int .i64 x.id) (fun x => x.v) l i x h
theorem recells_length (l : List RE) : (recells l).length = l.length * 2 := by
  induction l with
  | nil => rfl
  | cons y l ih => simp only [recells, RE.cells, List.flatMap_cons, List.length_append, List.length_cons, List.length_nil] at ih ⊢; omega
theorem il_at {l : List Int} {j : Nat} (hj : j < l.length) : (il l)[j]? = some (.int .i64 (l.getD j 0)) := by simp [il, List.getD_eq_getElem?_getD, hj]
theorem bl_at {l : List Bool} {j : Nat} (hj : j < l.length) : (bl l)[j]? = some (.bool (l.getD j false)) := by simp [bl, List.getD_eq_getElem?_getD, hj]
theorem il_set (l : List Int) (i : Nat) (x : Int) : (il l).setIfInBounds i (.int .i64 x) = il (l.set i x) := by simp [il, List.map_set]
theorem bl_set (l : List Bool) (i : Nat) (x : Bool) : (bl l).setIfInBounds i (.bool x) = bl (l.set i x) := by simp [bl, List.map_set]

section
variable {w w' : World} {base gb ib : Nat} {v : Value} {t : RS}
theorem Rf.tfrm {ts : List TypeId} {l : List Nat} (h : Rf w base gb ib v t) (hF : TFrm ts base l w w') (h1 : 70 ∉ ts) (h2 : 4 ∉ ts) (hg : gb ∉ l) (hr : ib ∉ l) (hl : ∀ k ∈ l, k < base) : Rf w' base gb ib v t := by
  have a := h.gbb
  have b := h.ibb
  refine ⟨h.hg.same (hF.block gb h.hg.lt hg (by omega)) hF.size, h.hi.same (hF.block ib h.hi.lt hr (by omega)) hF.size, h.hv.tfrm hF h1 hl, fun x hx => ?_, h.nd, h.n1, h.n8, h.m16, a, b, h.ne, Nat.le_trans h.bs hF.size⟩
  obtain ⟨f, e, a1, a2, a3⟩ := h.hs x hx
  refine ⟨f, e, a1, (hF.block f (heapLt a2) (fun hm => by have := hl f hm; omega) (fun _ cs' t hc => ?_)).trans a2, a3⟩
  rw [a2] at hc; cases hc; exact h2
theorem Rf.below (h : Rf w base gb ib v t) (hb : Below w.heap.size w w') : Rf w' base gb ib v t := h.tfrm (ts := []) (l := []) (.of_below hb) (by simp) (by simp) (by simp) (by simp) (by simp)
/-- One count is turned. -/
theorem Rf.turn (h : Rf w base gb ib v t) {i : Nat} (hi : i < t.ins.length) (x : Int) : Rf (w.setCell ⟨ib, i, none⟩ (.int .i64 x)) base gb ib v { t with ins := t.ins.set i x } ∧ TFrm [70, 4] base [gb, ib] w (w.setCell ⟨ib, i, none⟩ (.int .i64 x)) := by
  have hF : Frm [ib] w (w.setCell ⟨ib, i, none⟩ (.int .i64 x)) := (Frm.refl _ _).setCell (by simp) _
  have hbb := h.ibb
  refine ⟨⟨by simpa using h.hg.frm hF (by simpa using h.ne), ?_, h.hv.frm hF (fun k hk e => ?_), fun y hy => ?_, h.nd, by simpa using h.n1, by simpa using h.n8, h.m16, h.gbb, h.ibb, h.ne, by simpa using h.bs⟩, .of_frm hF (by simp)⟩
  · have := h.hi.set i (.int .i64 x) (by simpa [il] using hi)
    rw [il_set] at this
    exact this
  · have := (h.hv.lt k e).1
    simp at hk; omega
  · obtain ⟨f, e, a1, a2, a3⟩ := h.hs y hy
    refine ⟨f, by simpa using e, a1, (hF.block f (heapLt a2) (by simp; omega)).trans a2, by simpa using a3⟩
theorem nodup_at {l : List RE} (h : (l.map fun x => x.v.ownBlock).Nodup) {i j : Nat} {x y : RE} (hx : l[i]? = some x) (hy : l[j]? = some y) (e : x.v.ownBlock = y.v.ownBlock) : i = j := by
  obtain ⟨hi1, hi2⟩ := List.getElem?_eq_some_iff.1 hx
  obtain ⟨hj1, hj2⟩ := List.getElem?_eq_some_iff.1 hy
  have key := List.pairwise_iff_getElem.1 h
  rcases Nat.lt_trichotomy i j with hij | hij | hij
  · exact (key i j (by simpa using hi1) (by simpa using hj1) hij (by simp only [List.getElem_map, hi2, hj2]; exact e)).elim
  · exact hij
  · exact (key j i (by simpa using hj1) (by simpa using hi1) hij (by simp only [List.getElem_map, hi2, hj2]; exact e.symm)).elim
/-- One mark is turned. -/
theorem Rf.mark (h : Rf w base gb ib v t) {k i : Nat} {x : RE} {f : Nat} (hx : t.l[k]? = some x) (hf : x.v = .slice (some ⟨f, 0, none⟩) t.ins.length t.ins.length) (b : Bool) :
    Rf (w.setCell ⟨f, i, none⟩ (.bool b)) base gb ib v { t with l := t.l.set k { x with who := x.who.set i b } } ∧ TFrm [70, 4] base [gb, ib] w (w.setCell ⟨f, i, none⟩ (.bool b)) := by
  have hF : Frm [f] w (w.setCell ⟨f, i, none⟩ (.bool b)) := (Frm.refl _ _).setCell (by simp) _
  obtain ⟨f', e', a1, a2, a3⟩ := h.hs x (List.mem_of_getElem? hx)
  obtain rfl : f = f' := by rw [hf] at e'; cases e'; rfl
  have hgb := h.gbb
  have hibb := h.ibb
  have hk := (List.getElem?_eq_some_iff.1 hx)
  obtain ⟨hk1, hk2⟩ := hk
  have cells : recells (t.l.set k { x with who := x.who.set i b }) = recells t.l := by
    have : ∀ (l : List RE) (k : Nat) (y : RE), l[k]? = some x → y.cells = x.cells → recells (l.set k y) = recells l := by
      intro l
      induction l with
      | nil => intro k y h; simp at h
      | cons z l ih =>
        intro k y h e
        cases k with
        | zero => simp at h; subst h; simp [recells, e]
        | succ k =>
          have := ih k y (by simpa using h) e
          simp only [recells, List.set_cons_succ, List.flatMap_cons] at this ⊢
          rw [this]
    exact this _ _ _ hx rfl
  refine ⟨⟨h.hg.frm hF (by simp; omega), h.hi.frm hF (by simp; omega), ?_, fun y hy => ?_, ?_, h.n1, h.n8, by simpa using h.m16, h.gbb, h.ibb, h.ne, by simpa using h.bs⟩, .of_frm hF fun q hq => ?_⟩
  · dsimp only
    rw [cells, List.length_set]
    refine h.hv.kept fun q hq => hF.block q (h.hv.lt q hq).2 (fun hm => ?_)
    simp at hm
    subst hm
    rcases h.hv.2 with ⟨e, _⟩ | ⟨f', o', cap', cur, e, _, h4, _⟩
    · rw [e] at hq; cases hq
    · rw [e] at hq
      obtain rfl : f' = q := by simpa [Value.ownBlock] using hq
      rw [h4] at a2; cases a2
  · obtain ⟨j, hj⟩ := List.getElem?_of_mem hy
    by_cases e : j = k
    · subst e
      rw [List.getElem?_set_self hk1] at hj
      cases hj
      refine ⟨f, hf, a1, ?_, by simpa using a3⟩
      rw [← bl_set]
      exact heapSet a2 _
    · rw [List.getElem?_set_ne (Ne.symm e)] at hj
      obtain ⟨fy, ey, y1, y2, y3⟩ := h.hs y (List.mem_of_getElem? hj)
      refine ⟨fy, ey, y1, (hF.block fy (heapLt y2) (fun hm => ?_)).trans y2, y3⟩
      simp at hm
      subst hm
      exact e (nodup_at h.nd hj hx (by rw [ey, hf]))
  · have : (t.l.set k { x with who := x.who.set i b }).map (fun x => x.v.ownBlock) = t.l.map fun x => x.v.ownBlock := by
      rw [List.map_set]
      apply List.ext_getElem
      · simp
      · intro j h1 h2
        by_cases e : j = k
        · subst e; simp [hk2]
        · simp [List.getElem_set_ne (Ne.symm e)]
    rw [this]; exact h.nd
  · simp at hq
    subst hq
    exact .inr ⟨a1, _, _, a2, by simp⟩

theorem renter_no (h : Rf w base gb ib v t) {i : Int} (hi : ¬ (0 ≤ i ∧ i < t.ins.length)) : Calls Try.prog 21 #[.pointer (some ⟨gb, 0, none⟩), .int .i64 i] w fun e w' => e = .returned (.int .i64 1) ∧ w = w' := by
  have c0 : w.cell? ⟨gb, 0, none⟩ = some (.slice (some ⟨ib, 0, none⟩) t.ins.length t.ins.length) := h.hg.cell 0
  have gl := h.hg.lt
  clear h
  by_cases h0 : i < 0
  · clear hi
    go_enter Try.func21, Try.ntmps21
    go_wp2_with fail
    go_ret
    exact ⟨rfl, rfl⟩
  · have h1 : i ≥ t.ins.length := by omega
    clear hi
    go_enter Try.func21, Try.ntmps21
    go_wp2_with fail
    go_ret
    exact ⟨rfl, rfl⟩
theorem rleave_no (h : Rf w base gb ib v t) {i : Int} (hi : ¬ (0 ≤ i ∧ i < t.ins.length)) : Calls Try.prog 22 #[.pointer (some ⟨gb, 0, none⟩), .int .i64 i] w fun e w' => e = .returned (.int .i64 1) ∧ w = w' := by
  have c0 : w.cell? ⟨gb, 0, none⟩ = some (.slice (some ⟨ib, 0, none⟩) t.ins.length t.ins.length) := h.hg.cell 0
  have gl := h.hg.lt
  clear h
  by_cases h0 : i < 0
  · clear hi
    go_enter Try.func22, Try.ntmps22
    go_wp2_with fail
    go_ret
    exact ⟨rfl, rfl⟩
  · have h1 : i ≥ t.ins.length := by omega
    clear hi
    go_enter Try.func22, Try.ntmps22
    go_wp2_with fail
    go_ret
    exact ⟨rfl, rfl⟩
theorem renter_yes (h : Rf w base gb ib v t) {i : Nat} (hi : i < t.ins.length) : Calls Try.prog 21 #[.pointer (some ⟨gb, 0, none⟩), .int .i64 i] w fun e w' => e = .returned (.int .i64 0) ∧
    Rf w' base gb ib v { t with ins := t.ins.set i (wrap64 (t.ins.getD i 0 + 1)) } ∧ TFrm [70, 4] base [gb, ib] w w' := by
  have c0 : w.cell? ⟨gb, 0, none⟩ = some (.slice (some ⟨ib, 0, none⟩) t.ins.length t.ins.length) := h.hg.cell 0
  have c1 : w.cell? ⟨ib, i, none⟩ = some (.int .i64 (t.ins.getD i 0)) := (h.hi.cell i).trans (il_at hi)
  have f1 := h.hi.free
  have gl := h.hg.lt
  have H := Lib.hid h
  have hi0 : (0 : Int) ≤ (i : Int) := by omega
  have hi1 : (i : Int) < (t.ins.length : Int) := by omega
  have hi2 : ¬ (i : Int) ≥ (t.ins.length : Int) := by omega
  obtain ⟨x, hx⟩ : ∃ x, t.ins.getD i 0 = x := ⟨_, rfl⟩
  rw [hx] at c1 ⊢
  clear h hx
  go_enter Try.func21, Try.ntmps21
  go_wp2_with fail
  go_ret
  exact ⟨rfl, H.out.turn hi _⟩
theorem rleave_past (h : Rf w base gb ib v t) {i : Nat} (hi : i < t.ins.length) (h0 : t.ins.getD i 0 = 0) : Calls Try.prog 22 #[.pointer (some ⟨gb, 0, none⟩), .int .i64 i] w fun e w' => e = .returned (.int .i64 16) ∧ w = w' := by
  have c0 : w.cell? ⟨gb, 0, none⟩ = some (.slice (some ⟨ib, 0, none⟩) t.ins.length t.ins.length) := h.hg.cell 0
  have c1 : w.cell? ⟨ib, i, none⟩ = some (.int .i64 0) := by rw [← h0]; exact (h.hi.cell i).trans (il_at hi)
  have gl := h.hg.lt
  have hi0 : (0 : Int) ≤ (i : Int) := by omega
  have hi1 : (i : Int) < (t.ins.length : Int) := by omega
  have hi2 : ¬ (i : Int) ≥ (t.ins.length : Int) := by omega
  clear h h0
  go_enter Try.func22, Try.ntmps22
  go_wp2_with fail
  go_ret
  exact ⟨rfl, rfl⟩
end
end Go.Proofs.Ytedfegbafjmkgaa
