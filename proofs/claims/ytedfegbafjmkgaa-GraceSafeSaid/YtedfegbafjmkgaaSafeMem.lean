/- GraceSafe: the law's own memory beside a grace. -/
import Derived.Test.YtedfegbafjmkgaaSafeLaw
import Derived.Test.YtedfegbafjmkgaaBag
namespace Go.Proofs.Ytedfegbafjmkgaa
open Go.RowKit

section
variable {W w w' : World} {base g rb A B : Nat} {v wv : Value} {s : GS} {ins sn wh : List Nat}
theorem GrB.push_new (h : GrB W w base g rb v s) {id : Int} (hm : s.wt.length < 16) : Calls Try.prog 12 #[.pointer (some ⟨g, 0, none⟩), .int .i64 id] w fun e w' => ∃ sv v', e = .returned (.tuple #[.bool (((inside s.rd s.rd.length).length : Int) == 0), .int .i64 0]) ∧
    GrB W w' base g rb v' { s with wt := s.wt ++ [⟨id, sv, sinceOf s.rd⟩] } ∧ Frm (g :: v.ownBlock.toList) w w' ∧ (∀ k, sv.ownBlock = some k → w.heap.size ≤ k) :=
  (defer_new h.gr hm).mono fun _ _ ⟨sv, v', e, h1, h2, h3⟩ => ⟨sv, v', e, h.go h1 h2 (by
    intro k hk
    have := h.hg
    have := h.gr.gb
    rcases List.mem_cons.1 hk with rfl | hk
    · exact h.hg
    · have := (h.gr.hv.lt k (by simpa using hk)).1; omega), h2, h3⟩
/-- Another block is turned. -/
theorem Gr.other (h : Gr w base g rb v s) {l : List Nat} (hF : Frm l w w') (h1 : g ∉ l) (h2 : rb ∉ l) (h3 : ∀ k ∈ l, v.ownBlock ≠ some k) (h4 : ∀ x ∈ s.wt, ∀ k ∈ l, x.v.ownBlock ≠ some k) : Gr w' base g rb v s :=
  ⟨h.hg.frm hF h1, h.hr.frm hF h2, h.hv.frm hF h3, fun x hx => (h.hs x hx).frm hF (fun k hk hm => h4 x hx k hm hk), h.n1, h.n8, h.m16, h.gb, h.rbb, h.ne, Nat.le_trans h.bs hF.size⟩
theorem Gr.not60 (h : Gr w base g rb v s) {k : Nat} {cs : Array Value} {t : TypeId} (hc : w.heap[k]? = some (.cells cs t (0, 0))) (ht : t ≠ 60) : v.ownBlock ≠ some k := by
  intro e
  rcases h.hv.2 with ⟨e', _⟩ | ⟨f', o', cap', cur, e', _, h4, _⟩
  · rw [e'] at e; cases e
  · rw [e'] at e
    obtain rfl : f' = k := by simpa [Value.ownBlock] using e
    rw [h4] at hc; cases hc; exact ht rfl
theorem Gr.not3 (h : Gr w base g rb v s) {x : WE} (hx : x ∈ s.wt) {k : Nat} {cs : Array Value} {t : TypeId} (hc : w.heap[k]? = some (.cells cs t (0, 0))) (ht : t ≠ 3) : x.v.ownBlock ≠ some k := by
  intro e
  obtain ⟨f, o, cap, cs', e', _, h2, _⟩ := h.hs x hx
  rw [e'] at e
  obtain rfl : f = k := by simpa [Value.ownBlock] using e
  rw [h2] at hc; cases hc; exact ht rfl
structure SM (W w : World) (base g rb A B : Nat) (v wv : Value) (s : GS) (ins sn wh : List Nat) : Prop where
  b : GrB W w base g rb v s
  ha : w.heap[A]? = some (.cells (natsOf ins).toArray 27 (0, 0))
  hb : w.heap[B]? = some (.cells (natsOf sn).toArray 27 (0, 0))
  hw : Win w (B + 1) 3 1 wv wh.length (natsOf wh)
  ap : ∀ x ∈ s.wt, ∀ k, wv.ownBlock = some k → x.v.ownBlock ≠ some k
  gA : g < A
  rA : rb < A
  AB : A < B
theorem SM.go {l : List Nat} {v' : Value} {s' : GS} (h : SM W w base g rb A B v wv s ins sn wh) (hs : GrB W w' base g rb v' s') (hF : Frm l w w') (hl : ∀ k ∈ l, k ∈ g :: rb :: v.ownBlock.toList)
    (ap : ∀ x ∈ s'.wt, ∀ k, wv.ownBlock = some k → x.v.ownBlock ≠ some k) : SM W w' base g rb A B v' wv s' ins sn wh := by
  have gA := h.gA
  have rA := h.rA
  have AB := h.AB
  have F := hF.mono hl
  refine ⟨hs, (h.b.gr.same F (by omega) (by omega) h.ha (by decide)).trans h.ha, (h.b.gr.same F (by omega) (by omega) h.hb (by decide)).trans h.hb, h.hw.kept fun k hk => ?_, ap, gA, rA, AB⟩
  have hk1 := (h.hw.lt k hk).1
  rcases h.hw.2 with ⟨e, _⟩ | ⟨f, o, cap, cur, e, _, h4, _⟩
  · rw [e] at hk; cases hk
  · rw [e] at hk
    obtain rfl : f = k := by simpa [Value.ownBlock] using hk
    exact h.b.gr.same F (by omega) (by omega) h4 (by decide)
theorem SM.on (h : SM W w base g rb A B v wv s ins sn wh) (hB : Below w.heap.size w w') : SM W w' base g rb A B v wv s ins sn wh :=
  ⟨h.b.on hB, (hB.block A (Array.getElem?_eq_some_iff.1 h.ha).1).trans h.ha, (hB.block B (Array.getElem?_eq_some_iff.1 h.hb).1).trans h.hb, h.hw.below hB, h.ap, h.gA, h.rA, h.AB⟩
theorem SM.enter (h : SM W w base g rb A B v wv s ins sn wh) {i : Nat} {x : Int × Int} (hx : s.rd[i]? = some x) : Calls Try.prog 10 #[.pointer (some ⟨g, 0, none⟩), .int .i64 i] w fun e w' => e = .returned (.int .i64 0) ∧ SM W w' base g rb A B v wv (s.enter i x) ins sn wh :=
  (h.b.enter hx).mono fun _ _ ⟨e, h1, h2⟩ => ⟨e, h.go h1 h2 (by simp) h.ap⟩
theorem SM.leave (h : SM W w base g rb A B v wv s ins sn wh) {i : Nat} {x : Int × Int} (hx : s.rd[i]? = some x) (hd : x.1 ≠ 0) : Calls Try.prog 11 #[.pointer (some ⟨g, 0, none⟩), .int .i64 i] w fun e w' => e = .returned (.int .i64 0) ∧ SM W w' base g rb A B v wv (s.leave i x) ins sn wh :=
  (h.b.leave hx hd).mono fun _ _ ⟨e, h1, h2⟩ => ⟨e, h.go h1 h2 (by simp) h.ap⟩
theorem SM.push (h : SM W w base g rb A B v wv s ins sn wh) {id : Int} (hm : s.wt.length < 16) : Calls Try.prog 12 #[.pointer (some ⟨g, 0, none⟩), .int .i64 id] w fun e w' => ∃ sv v' r, e = .returned (.tuple #[.bool r, .int .i64 0]) ∧
    SM W w' base g rb A B v' wv { s with wt := s.wt ++ [⟨id, sv, sinceOf s.rd⟩] } ins sn wh :=
  (h.b.push_new hm).mono fun _ _ ⟨sv, v', e, h1, h2, h3⟩ => ⟨sv, v', _, e, h.go h1 h2 (by
    intro k hk
    rcases List.mem_cons.1 hk with rfl | hk
    · simp
    · simp only [List.mem_cons]; exact .inr (.inr hk)) (by
    intro x hx k hk
    rcases List.mem_append.1 hx with hx | hx
    · exact h.ap x hx k hk
    · rw [List.mem_singleton.1 hx]
      intro e
      have := h3 k e
      have := (h.hw.lt k hk).2
      omega)⟩
theorem SM.poll (h : SM W w base g rb A B v wv s ins sn wh) : Calls Try.prog 13 #[.pointer (some ⟨g, 0, none⟩)] w fun e X => ∃ lv ov, e = .returned ov ∧ SM W X base g rb A B lv wv { s with wt := keptOf s s.wt.length } ins sn wh ∧ Nums X ov (outOf s s.wt.length) :=
  h.b.poll.mono fun _ _ ⟨lv, ov, e, h1, h2, h3⟩ => ⟨lv, ov, e, h.go h1 h3 (by simp) (by
    intro x hx
    unfold keptOf at hx
    rw [List.take_length] at hx
    exact h.ap x (List.mem_filter.1 hx).1), h2.nums rfl⟩
theorem natsOf_set (l : List Nat) (r x : Nat) : (natsOf (l.set r x)).toArray = (natsOf l).toArray.setIfInBounds r (.int .i64 (x : Int)) := by
  simp [natsOf, List.map_set]
theorem natsOf_at {l : List Nat} {j : Nat} (hj : j < l.length) : (natsOf l)[j]? = some (.int .i64 ((l.getD j 0 : Nat) : Int)) := by
  simp [natsOf, List.getD_eq_getElem?_getD, hj]
theorem SM.cA (h : SM W w base g rb A B v wv s ins sn wh) {j : Nat} (hj : j < ins.length) : w.cell? ⟨A, j, none⟩ = some (.int .i64 ((ins.getD j 0 : Nat) : Int)) := by
  simp only [World.cell?, h.ha]
  simpa using natsOf_at hj
theorem SM.cB (h : SM W w base g rb A B v wv s ins sn wh) {j : Nat} (hj : j < sn.length) : w.cell? ⟨B, j, none⟩ = some (.int .i64 ((sn.getD j 0 : Nat) : Int)) := by
  simp only [World.cell?, h.hb]
  simpa using natsOf_at hj
theorem SM.fA (h : SM W w base g rb A B v wv s ins sn wh) (j : Nat) : w.frozen? ⟨A, j, none⟩ = false := by simp [World.frozen?, h.ha]
theorem SM.fB (h : SM W w base g rb A B v wv s ins sn wh) (j : Nat) : w.frozen? ⟨B, j, none⟩ = false := by simp [World.frozen?, h.hb]
theorem heap_set {w : World} {b j : Nat} {cs : Array Value} {t : TypeId} (h : w.heap[b]? = some (.cells cs t (0, 0))) (u : Value) : (w.setCell ⟨b, j, none⟩ u).heap[b]? = some (.cells (cs.setIfInBounds j u) t (0, 0)) := by
  have hl := (Array.getElem?_eq_some_iff.1 h).1
  have he := (Array.getElem?_eq_some_iff.1 h).2
  unfold World.setCell
  simp only []
  rw [Array.getElem?_modify, if_pos rfl, h]
  rfl
/-- One of the law's own blocks is turned. -/
theorem SM.turn (h : SM W w base g rb A B v wv s ins sn wh) {k : Nat} (hF : Frm [k] w w') (hk : A = k ∨ B = k) : GrB W w' base g rb v s ∧ Win w' (B + 1) 3 1 wv wh.length (natsOf wh) := by
  have gA := h.gA
  have rA := h.rA
  have AB := h.AB
  obtain ⟨cs, hc⟩ : ∃ cs, w.heap[k]? = some (.cells cs 27 (0, 0)) := by
    rcases hk with rfl | rfl
    · exact ⟨_, h.ha⟩
    · exact ⟨_, h.hb⟩
  have hgW := h.b.hg
  refine ⟨h.b.go (h.b.gr.other hF (by simp; omega) (by simp; omega) (by simp; exact h.b.gr.not60 hc (by decide)) (by simp; exact fun x hx => h.b.gr.not3 hx hc (by decide))) hF (by simp; omega), h.hw.frm hF (fun k' hk' e => ?_)⟩
  have := (h.hw.lt k' e).1
  simp at hk'
  omega
theorem SM.setA (h : SM W w base g rb A B v wv s ins sn wh) (r x : Nat) : SM W (w.setCell ⟨A, r, none⟩ (.int .i64 (x : Int))) base g rb A B v wv s (ins.set r x) sn wh := by
  have AB := h.AB
  have hF : Frm [A] w (w.setCell ⟨A, r, none⟩ (.int .i64 (x : Int))) := (Frm.refl _ _).setCell (by simp) _
  have t := h.turn hF (.inl rfl)
  refine ⟨t.1, ?_, (hF.block B (Array.getElem?_eq_some_iff.1 h.hb).1 (by simp; omega)).trans h.hb, t.2, h.ap, h.gA, h.rA, h.AB⟩
  rw [natsOf_set]
  exact heap_set h.ha _
theorem SM.setB (h : SM W w base g rb A B v wv s ins sn wh) (r x : Nat) : SM W (w.setCell ⟨B, r, none⟩ (.int .i64 (x : Int))) base g rb A B v wv s ins (sn.set r x) wh := by
  have AB := h.AB
  have hF : Frm [B] w (w.setCell ⟨B, r, none⟩ (.int .i64 (x : Int))) := (Frm.refl _ _).setCell (by simp) _
  have t := h.turn hF (.inr rfl)
  refine ⟨t.1, (hF.block A (Array.getElem?_eq_some_iff.1 h.ha).1 (by simp; omega)).trans h.ha, ?_, t.2, h.ap, h.gA, h.rA, h.AB⟩
  rw [natsOf_set]
  exact heap_set h.hb _
/-- One more came. -/
theorem SM.came (h : SM W w base g rb A B v wv s ins sn wh) {w1 : World} {f o' cap i : Nat} {tmp : Obj} (hown : Win w1 (B + 1) 3 1 (.slice (some ⟨f, o', none⟩) (wh.length + 1) cap) (wh.length + 1) (natsOf wh ++ [.int .i64 (i : Int)]))
    (hg : (w.alloc tmp).grownBy w1 wv.ownBlock) (hat : wv.ownBlock = some f ∨ (w.alloc tmp).heap.size ≤ f) : SM W w1 base g rb A B v (.slice (some ⟨f, o', none⟩) (wh.length + 1) cap) s ins sn (wh ++ [i]) := by
  have gA := h.gA
  have rA := h.rA
  have AB := h.AB
  have hgW := h.b.hg
  have hF : Frm wv.ownBlock.toList w w1 := ((Frm.refl _ _).alloc tmp).trans (Frm.of_grown hg (fun k hk _ => by rw [hk]; simp))
  have ob : ∀ k ∈ wv.ownBlock.toList, B + 1 ≤ k := fun k hk => (h.hw.lt k (by simpa using hk)).1
  have n60 : ∀ k ∈ wv.ownBlock.toList, v.ownBlock ≠ some k := fun k hk => by
    have e : wv.ownBlock = some k := by simpa using hk
    rcases h.hw.2 with ⟨e', _⟩ | ⟨f', o', cap', cur, e', _, h4, _⟩
    · rw [e'] at e; cases e
    · rw [e'] at e
      obtain rfl : f' = k := by simpa [Value.ownBlock] using e
      exact h.b.gr.not60 h4 (by decide)
  refine ⟨h.b.go (h.b.gr.other hF (fun hm => by have := ob g hm; omega) (fun hm => by have := ob rb hm; omega) n60 (fun x hx k hk => h.ap x hx k (by simpa using hk))) hF (fun k hk => by have := ob k hk; omega), ?_, ?_, ?_, ?_, gA, rA, AB⟩
  · exact (hF.block A (Array.getElem?_eq_some_iff.1 h.ha).1 (fun hm => by have := ob A hm; omega)).trans h.ha
  · exact (hF.block B (Array.getElem?_eq_some_iff.1 h.hb).1 (fun hm => by have := ob B hm; omega)).trans h.hb
  · simpa [natsOf] using hown
  · intro x hx k hk
    have hk' : f = k := by simpa [Value.ownBlock] using hk
    subst hk'
    rcases hat with e | e
    · exact h.ap x hx f e
    · intro e'
      have := ((h.b.gr.hs x hx).lt f e').2
      simp at e
      omega
end
end Go.Proofs.Ytedfegbafjmkgaa
