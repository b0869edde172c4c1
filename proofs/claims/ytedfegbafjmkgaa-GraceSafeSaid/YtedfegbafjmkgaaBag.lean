/- Chapter 4: readers and what waits, with lists beside them that stay. -/
import Derived.Test.YtedfegbafjmkgaaBlocks
namespace Go.Proofs.Ytedfegbafjmkgaa
open Go.RowKit

section
variable {W w w' : World} {base g rb : Nat} {v : Value} {s : GS}
/-- Of what lies there its own blocks alone are turned: a block of other elements stays. -/
theorem Gr.same (h : Gr w base g rb v s) (hF : Frm (g :: rb :: v.ownBlock.toList) w w') {k : Nat} {cs : Array Value} {t : TypeId} (hk : k ≠ g) (hk2 : k ≠ rb) (hc : w.heap[k]? = some (.cells cs t (0, 0))) (ht : t ≠ 60) : w'.heap[k]? = w.heap[k]? := by
  refine hF.block k (Array.getElem?_eq_some_iff.1 hc).1 (fun hm => ?_)
  rcases List.mem_cons.1 hm with rfl | hm
  · exact hk rfl
  rcases List.mem_cons.1 hm with rfl | hm
  · exact hk2 rfl
  have e : v.ownBlock = some k := by simpa using hm
  rcases h.hv.2 with ⟨e', _⟩ | ⟨f', o', cap', cur, e', _, h4, _⟩
  · rw [e'] at e; cases e
  · rw [e'] at e
    obtain rfl : f' = k := by simpa [Value.ownBlock] using e
    rw [h4] at hc; cases hc; exact ht rfl
/-- A list beside it. -/
def Lie (g rb : Nat) (w : World) (x : Value × TypeId × List Int) : Prop := x.2.1 ≠ 60 ∧ ∃ b0, g < b0 ∧ rb < b0 ∧ Win w b0 x.2.1 1 x.1 x.2.2.length (x.2.2.map (Value.int .i64))
theorem Lie.below {x : Value × TypeId × List Int} (h : Lie g rb w x) (hb : Below w.heap.size w w') : Lie g rb w' x := ⟨h.1, h.2.elim fun b0 q => ⟨b0, q.1, q.2.1, q.2.2.below hb⟩⟩
theorem Lie.stay {x : Value × TypeId × List Int} (h : Lie g rb w x) (hG : Gr w base g rb v s) (hF : Frm (g :: rb :: v.ownBlock.toList) w w') : Lie g rb w' x := by
  obtain ⟨hn, b0, h1, h2, h3⟩ := h
  refine ⟨hn, b0, h1, h2, h3.kept fun k hk => ?_⟩
  have hb := (h3.lt k hk).1
  rcases h3.2 with ⟨e, _⟩ | ⟨f, o, cap, cur, e, _, h4, _⟩
  · rw [e] at hk; cases hk
  · rw [e] at hk
    obtain rfl : f = k := by simpa [Value.ownBlock] using hk
    exact hG.same hF (by omega) (by omega) h4 hn
theorem Lie.nums {x : Value × TypeId × List Int} (h : Lie g rb w x) : Nums w x.1 x.2.2 := h.2.elim fun _ q => Win.nums q.2.2 rfl
theorem Lie.value {u : Value} {t : TypeId} {l : List Int} (h : Lie g rb w (u, t, l)) : ∃ p c, u = .slice p l.length c := h.2.elim fun _ q => q.2.2.value
structure GrL (W w : World) (base g rb : Nat) (v : Value) (s : GS) (L : List (Value × TypeId × List Int)) : Prop where
  b : GrB W w base g rb v s
  l : ∀ x ∈ L, Lie g rb w x
variable {L : List (Value × TypeId × List Int)}
theorem GrL.on (h : GrL W w base g rb v s L) (hB : Below w.heap.size w w') : GrL W w' base g rb v s L := ⟨h.b.on hB, fun x hx => (h.l x hx).below hB⟩
theorem GrL.alloc (h : GrL W w base g rb v s L) (o : Obj) : GrL W (w.alloc o) base g rb v s L := h.on ((Below.refl _ _).alloc (Nat.le_refl _) o)
theorem GrL.go {l : List Nat} {v' : Value} {s' : GS} (h : GrL W w base g rb v s L) (hs : GrB W w' base g rb v' s') (hF : Frm l w w') (hl : ∀ k ∈ l, k ∈ g :: rb :: v.ownBlock.toList) : GrL W w' base g rb v' s' L :=
  ⟨hs, fun x hx => (h.l x hx).stay h.b.gr (hF.mono hl)⟩
theorem GrL.enter (h : GrL W w base g rb v s L) {i : Nat} {x : Int × Int} (hx : s.rd[i]? = some x) : Calls Try.prog 10 #[.pointer (some ⟨g, 0, none⟩), .int .i64 i] w fun e w' => e = .returned (.int .i64 0) ∧ GrL W w' base g rb v (s.enter i x) L :=
  (h.b.enter hx).mono fun _ _ ⟨e, h1, h2⟩ => ⟨e, h.go h1 h2 (by simp)⟩
theorem GrL.leave (h : GrL W w base g rb v s L) {i : Nat} {x : Int × Int} (hx : s.rd[i]? = some x) (hd : x.1 ≠ 0) : Calls Try.prog 11 #[.pointer (some ⟨g, 0, none⟩), .int .i64 i] w fun e w' => e = .returned (.int .i64 0) ∧ GrL W w' base g rb v (s.leave i x) L :=
  (h.b.leave hx hd).mono fun _ _ ⟨e, h1, h2⟩ => ⟨e, h.go h1 h2 (by simp)⟩
theorem GrL.push (h : GrL W w base g rb v s L) {id : Int} (hm : s.wt.length < 16) : Calls Try.prog 12 #[.pointer (some ⟨g, 0, none⟩), .int .i64 id] w fun e w' => ∃ sv v', e = .returned (.tuple #[.bool (((inside s.rd s.rd.length).length : Int) == 0), .int .i64 0]) ∧
    GrL W w' base g rb v' { s with wt := s.wt ++ [⟨id, sv, sinceOf s.rd⟩] } L :=
  (h.b.push hm).mono fun _ _ ⟨sv, v', e, h1, h2⟩ => ⟨sv, v', e, h.go h1 h2 (by
    intro k hk
    rcases List.mem_cons.1 hk with rfl | hk
    · simp
    · simp only [List.mem_cons]; exact .inr (.inr hk))⟩
theorem GrL.poll (h : GrL W w base g rb v s L) : Calls Try.prog 13 #[.pointer (some ⟨g, 0, none⟩)] w fun e X => ∃ lv ov, e = .returned ov ∧ GrL W X base g rb lv { s with wt := keptOf s s.wt.length } ((ov, 2, outOf s s.wt.length) :: L) :=
  h.b.poll.mono fun _ _ ⟨lv, ov, e, h1, h2, h3⟩ => ⟨lv, ov, e, h1, fun x hx => by
    rcases List.mem_cons.1 hx with rfl | hx
    · exact ⟨by dsimp only; decide, _, h.b.gr.hg.lt, h.b.gr.hr.lt, h2⟩
    · exact (h.l x hx).stay h.b.gr (h3.mono (by simp))⟩
theorem natsOf_ints (l : List Nat) : natsOf l = (l.map fun (x : Nat) => (x : Int)).map (Value.int .i64) := by simp [natsOf]
def nats (l : List Nat) : List Int := l.map fun (x : Nat) => (x : Int)
theorem GrL.list (h : GrL W w base g rb v s L) {l : List Nat} {ov : Value} (hw : Win w' w.heap.size 3 1 ov l.length (natsOf l)) (hB : Below w.heap.size w w') : GrL W w' base g rb v s ((ov, 3, nats l) :: L) :=
  ⟨h.b.on hB, fun x hx => by
    rcases List.mem_cons.1 hx with rfl | hx
    · refine ⟨by dsimp only; decide, _, h.b.gr.hg.lt, h.b.gr.hr.lt, ?_⟩
      rw [natsOf_ints] at hw
      simpa [nats] using hw
    · exact (h.l x hx).below hB⟩
theorem GrL.blocks (h : GrL W w base g rb v s L) (id : Int) : Calls Try.prog 18 #[.pointer (some ⟨g, 0, none⟩), .int .i64 id] w fun e w' => ∃ ov, e = .returned ov ∧ GrL W w' base g rb v s ((ov, 3, nats (blocksOf s id)) :: L) :=
  (blocks_any h.b.gr id).mono fun _ _ ⟨ov, e, h1, h2⟩ => ⟨ov, e, h.list h1 h2⟩
theorem GrL.insides (h : GrL W w base g rb v s L) : Calls Try.prog 19 #[.pointer (some ⟨g, 0, none⟩)] w fun e w' => ∃ ov, e = .returned ov ∧ GrL W w' base g rb v s ((ov, 3, nats (inside s.rd s.rd.length)) :: L) :=
  (inside_any h.b.gr).mono fun _ _ ⟨ov, e, h1, h2⟩ => ⟨ov, e, h.list h1 h2⟩
theorem GrL.waits (h : GrL W w base g rb v s L) : Calls Try.prog 14 #[.pointer (some ⟨g, 0, none⟩)] w fun e w' => ∃ ov, e = .returned ov ∧ GrL W w' base g rb v s ((ov, 2, s.wt.map WE.id) :: L) :=
  (waiting_any h.b.gr).mono fun _ _ ⟨ov, e, h1, h2⟩ => ⟨ov, e, h.b.on h2, fun x hx => by
    rcases List.mem_cons.1 hx with rfl | hx
    · refine ⟨by dsimp only; decide, _, h.b.gr.hg.lt, h.b.gr.hr.lt, ?_⟩
      simpa [idsOf, List.map_map, Function.comp_def] using h1
    · exact (h.l x hx).below h2⟩
theorem GrL.same16 (h : GrL W w base g rb v s L) {a : Value} {l : List Int} (ha : (a, (2 : TypeId), l) ∈ L) (hl : l.length ≤ 1000) {cs : Array Value} {n c : Nat} (hc : cs = (l.map (Value.int .i64)).toArray) (hn : n = l.length) : Calls Try.prog 16 #[a, .slice (some ⟨w.heap.size, 0, none⟩) n c] (w.alloc (.cells cs 2)) fun e w' => e = .returned (.bool true) ∧ GrL W w' base g rb v s L := by
  subst hc hn
  exact (Ytedfegbafjmkgaa.same16 _ _ l _ (by omega) ((h.l _ ha).nums.alloc _) (nums_new w l 2 c)).mono fun _ _ ⟨e, b⟩ => ⟨e, (h.alloc _).on b⟩
theorem GrL.same17 (h : GrL W w base g rb v s L) {a : Value} {l : List Int} (ha : (a, (3 : TypeId), l) ∈ L) (hl : l.length ≤ 1000) {cs : Array Value} {n c : Nat} (hc : cs = (l.map (Value.int .i64)).toArray) (hn : n = l.length) : Calls Try.prog 17 #[a, .slice (some ⟨w.heap.size, 0, none⟩) n c] (w.alloc (.cells cs 3)) fun e w' => e = .returned (.bool true) ∧ GrL W w' base g rb v s L := by
  subst hc hn
  exact (Ytedfegbafjmkgaa.same17 _ _ l _ (by omega) ((h.l _ ha).nums.alloc _) (nums_new w l 3 c)).mono fun _ _ ⟨e, b⟩ => ⟨e, (h.alloc _).on b⟩
theorem GrL.known (h : GrL W w base g rb v s L) : Calls Try.prog 15 #[] w fun e w' => e = .returned (.bool true) ∧ GrL W w' base g rb v s L :=
  (known_any w).mono fun _ _ ⟨e, b⟩ => ⟨e, h.on b⟩
theorem grl_begin (n : Nat) (W w : World) (h1 : 1 ≤ n) (h2 : n ≤ 8) (hB : Below W.heap.size W w) :
    Calls Try.prog 8 #[.int .i64 n] w fun e w' => ∃ g rb, e = .returned (.tuple #[.pointer (some ⟨g, 0, none⟩), .int .i64 0]) ∧ GrL W w' (w.heap.size + 2) g rb (.slice none 0 0) (GS.new n) [] :=
  (gr_begin n W w h1 h2 hB).mono fun _ _ ⟨g, rb, e, h⟩ => ⟨g, rb, e, h, by simp⟩
end
end Go.Proofs.Ytedfegbafjmkgaa
