/- GracePlays: a grace and the document's answer side by side in memory. -/
import Derived.Test.YtedfegbafjmkgaaPlaysLaw
namespace Go.Proofs.Ytedfegbafjmkgaa
open Go.RowKit

structure Tw (W w : World) (base g rb : Nat) (v : Value) (s : GS) (gb ib : Nat) (u : Value) (t : RS) (M : List (Nat × Array Value)) (L : List (Value × TypeId × List Int)) : Prop where
  gr : Gr w base g rb v s
  rf : Rf w base gb ib u t
  bel : Below W.heap.size W w
  hg : W.heap.size ≤ g ∧ W.heap.size ≤ rb ∧ W.heap.size ≤ gb ∧ W.heap.size ≤ ib ∧ W.heap.size ≤ base
  ne : g ≠ gb ∧ g ≠ ib ∧ rb ≠ gb ∧ rb ≠ ib
  m : ∀ p ∈ M, base ≤ p.1 ∧ w.heap[p.1]? = some (.cells p.2 31 (0, 0))
  l : ∀ x ∈ L, (x.2.1 = 2 ∨ x.2.1 = 3) ∧ Win w base x.2.1 1 x.1 x.2.2.length (x.2.2.map (Value.int .i64)) ∧ x.2.2.length ≤ 1000
theorem blocksOf_length (s : GS) (id : Int) : (blocksOf s id).length ≤ s.rd.length := by
  unfold blocksOf
  split
  · exact blkd_length _ _ _
  · simp
theorem rblocksOf_length {w : World} {base gb ib : Nat} {v : Value} {t : RS} (h : Rf w base gb ib v t) (id : Int) : (rblocksOf t id).length ≤ t.ins.length := by
  unfold rblocksOf
  split
  · rename_i x hx
    obtain ⟨f, _, _, _, e⟩ := h.hs x (List.mem_of_find?_eq_some hx)
    rw [← e]
    exact picked_length _ _
  · simp
theorem rout_length (t : RS) : (rout t t.l.length).length ≤ t.l.length := by
  unfold rout
  rw [List.take_length, List.length_map]
  exact List.length_filter_le _ _
section
variable {W w w' : World} {base g rb gb ib : Nat} {v u : Value} {s : GS} {t : RS} {M : List (Nat × Array Value)} {L : List (Value × TypeId × List Int)}
theorem Tw.tfrm {ts : List TypeId} {l : List Nat} (h : Tw W w base g rb v s gb ib u t M L) (hF : TFrm ts base l w w') (ht : 31 ∉ ts ∧ 2 ∉ ts ∧ 3 ∉ ts) (hl : ∀ k ∈ l, W.heap.size ≤ k ∧ k < base) :
    Below W.heap.size W w' ∧ (∀ p ∈ M, base ≤ p.1 ∧ w'.heap[p.1]? = some (.cells p.2 31 (0, 0))) ∧ ∀ x ∈ L, (x.2.1 = 2 ∨ x.2.1 = 3) ∧ Win w' base x.2.1 1 x.1 x.2.2.length (x.2.2.map (Value.int .i64)) ∧ x.2.2.length ≤ 1000 := by
  refine ⟨TFrm.below h.bel hF h.bel.size h.hg.2.2.2.2 (fun k hk => (hl k hk).1), fun p hp => ?_, fun x hx => ?_⟩
  · obtain ⟨a, b⟩ := h.m p hp
    refine ⟨a, (hF.block p.1 (heapLt b) (fun hm => by have := (hl _ hm).2; omega) (fun _ cs t hc => ?_)).trans b⟩
    rw [b] at hc; cases hc; exact ht.1
  · obtain ⟨a, b, c⟩ := h.l x hx
    refine ⟨a, b.tfrm hF ?_ (fun k hk => (hl k hk).2), c⟩
    rcases a with e | e <;> rw [e]
    · exact ht.2.1
    · exact ht.2.2
theorem Tw.prog {v' : Value} {s' : GS} {l : List Nat} (h : Tw W w base g rb v s gb ib u t M L) (hs : Gr w' base g rb v' s') (hF : Frm l w w') (hl : ∀ k ∈ l, k ∈ g :: rb :: v.ownBlock.toList) : Tw W w' base g rb v' s' gb ib u t M L := by
  have T := h.gr.to_tfrm (hF.mono hl)
  have hgb := h.gr.gb
  have hrb := h.gr.rbb
  have q := h.tfrm T ⟨by decide, by decide, by decide⟩ (by intro k hk; have := h.hg; simp at hk; omega)
  have hne := h.ne
  exact ⟨hs, h.rf.tfrm T (by decide) (by decide) (by simp; omega) (by simp; omega) (by simp; omega), q.1, h.hg, h.ne, q.2.1, q.2.2⟩
theorem Tw.ref {u' : Value} {t' : RS} (h : Tw W w base g rb v s gb ib u t M L) (hs : Rf w' base gb ib u' t') (T : TFrm [70, 4] base [gb, ib] w w') : Tw W w' base g rb v s gb ib u' t' M L := by
  have hgb := h.rf.gbb
  have hrb := h.rf.ibb
  have q := h.tfrm T ⟨by decide, by decide, by decide⟩ (by intro k hk; have := h.hg; simp at hk; omega)
  have hne := h.ne
  exact ⟨h.gr.tfrm T (by decide) (by decide) (by simp; omega) (by simp; omega) (by simp; omega), hs, q.1, h.hg, h.ne, q.2.1, q.2.2⟩
theorem Tw.on (h : Tw W w base g rb v s gb ib u t M L) (hB : Below w.heap.size w w') : Tw W w' base g rb v s gb ib u t M L := by
  have T : TFrm [] base [] w w' := .of_below hB
  have q := h.tfrm T (by simp) (by simp)
  exact ⟨h.gr.below hB, h.rf.below hB, q.1, h.hg, h.ne, q.2.1, q.2.2⟩
theorem Tw.drew (h : Tw W w base g rb v s gb ib u t M L) : Tw W w.drew base g rb v s gb ib u t M L := h.on (Below.refl _ _).drew
theorem Tw.drop (h : Tw W w base g rb v s gb ib u t M L) : Tw W w base g rb v s gb ib u t M [] := ⟨h.gr, h.rf, h.bel, h.hg, h.ne, h.m, by simp⟩
theorem Tw.bare (h : Tw W w base g rb v s gb ib u t M L) : Tw W w base g rb v s gb ib u t [] [] := ⟨h.gr, h.rf, h.bel, h.hg, h.ne, by simp, by simp⟩
theorem Tw.bind (h : Tw W w base g rb v s gb ib u t M L) (cs : Array Value) : Tw W (w.alloc (.cells cs 31)) base g rb v s gb ib u t ((w.heap.size, cs) :: M) L := by
  have q := h.on ((Below.refl _ _).alloc (Nat.le_refl _) (.cells cs 31))
  refine ⟨q.gr, q.rf, q.bel, q.hg, q.ne, fun p hp => ?_, q.l⟩
  rcases List.mem_cons.1 hp with rfl | hp
  · exact ⟨h.gr.bs, World.alloc_heap_new _ _⟩
  · exact q.m p hp
theorem Tw.add (h : Tw W w' base g rb v s gb ib u t M L) {ov : Value} {e : TypeId} {l : List Int} {b : Nat} (he : e = 2 ∨ e = 3) (hb : base ≤ b) (hw : Win w' b e 1 ov l.length (l.map (Value.int .i64))) (hl : l.length ≤ 1000) : Tw W w' base g rb v s gb ib u t M ((ov, e, l) :: L) :=
  ⟨h.gr, h.rf, h.bel, h.hg, h.ne, h.m, fun x hx => by
    rcases List.mem_cons.1 hx with rfl | hx
    · exact ⟨he, hw.of_base hb, hl⟩
    · exact h.l x hx⟩
theorem Tw.var (h : Tw W w base g rb v s gb ib u t M L) {b : Nat} {x y z : Value} (hp : (b, #[x, y, z]) ∈ M) : w.cell? ⟨b, 0, none⟩ = some x ∧ w.cell? ⟨b, 1, none⟩ = some y ∧ w.cell? ⟨b, 2, none⟩ = some z := by
  have q := (h.m _ hp).2
  exact ⟨heapCell q 0, heapCell q 1, heapCell q 2⟩
theorem Tw.enter (h : Tw W w base g rb v s gb ib u t M L) {i : Nat} {x : Int × Int} (hx : s.rd[i]? = some x) : Calls Try.prog 10 #[.pointer (some ⟨g, 0, none⟩), .int .i64 i] w fun e w' => e = .returned (.int .i64 0) ∧ Tw W w' base g rb v (s.enter i x) gb ib u t M L :=
  (enter_yes h.gr hx).mono fun _ _ ⟨e, h1, h2⟩ => ⟨e, h.prog h1 h2 (by simp)⟩
theorem Tw.leave (h : Tw W w base g rb v s gb ib u t M L) {i : Nat} {x : Int × Int} (hx : s.rd[i]? = some x) (hd : x.1 ≠ 0) : Calls Try.prog 11 #[.pointer (some ⟨g, 0, none⟩), .int .i64 i] w fun e w' => e = .returned (.int .i64 0) ∧ Tw W w' base g rb v (s.leave i x) gb ib u t M L :=
  (leave_yes h.gr hx hd).mono fun _ _ ⟨e, h1, h2⟩ => ⟨e, h.prog h1 h2 (by simp)⟩
theorem Tw.push (h : Tw W w base g rb v s gb ib u t M L) {id : Int} (hm : s.wt.length < 16) : Calls Try.prog 12 #[.pointer (some ⟨g, 0, none⟩), .int .i64 id] w fun e w' => ∃ sv v', e = .returned (.tuple #[.bool (((inside s.rd s.rd.length).length : Int) == 0), .int .i64 0]) ∧
    Tw W w' base g rb v' { s with wt := s.wt ++ [⟨id, sv, sinceOf s.rd⟩] } gb ib u t M L :=
  (defer_yes h.gr hm).mono fun _ _ ⟨sv, v', e, h1, h2⟩ => ⟨sv, v', e, h.prog h1 h2 (by
    intro k hk
    rcases List.mem_cons.1 hk with rfl | hk
    · simp
    · simp only [List.mem_cons]; exact .inr (.inr hk))⟩
theorem Tw.poll (h : Tw W w base g rb v s gb ib u t M L) : Calls Try.prog 13 #[.pointer (some ⟨g, 0, none⟩)] w fun e w' => ∃ v' ov, e = .returned ov ∧ Tw W w' base g rb v' { s with wt := keptOf s s.wt.length } gb ib u t M ((ov, 2, outOf s s.wt.length) :: L) :=
  (poll_any h.gr).mono fun _ _ ⟨v', ov, e, h1, h2, h3⟩ => ⟨v', ov, e, (h.prog h1 h3 (by simp)).add (.inl rfl) h.gr.bs h2 (by have := poll_count s; have := h.gr.m16; omega)⟩
theorem Tw.waits (h : Tw W w base g rb v s gb ib u t M L) : Calls Try.prog 14 #[.pointer (some ⟨g, 0, none⟩)] w fun e w' => ∃ ov, e = .returned ov ∧ Tw W w' base g rb v s gb ib u t M ((ov, 2, s.wt.map WE.id) :: L) :=
  (waiting_any h.gr).mono fun _ _ ⟨ov, e, h1, h2⟩ => ⟨ov, e, (h.on h2).add (.inl rfl) h.gr.bs (by simpa [idsOf, List.map_map, Function.comp_def] using h1) (by have := h.gr.m16; simp; omega)⟩
def natz (l : List Nat) : List Int := l.map fun (x : Nat) => (x : Int)
theorem natz_row {b : Nat} {ov : Value} {l : List Nat} (h : Win w b 3 1 ov l.length (natsOf l)) : Win w b 3 1 ov (natz l).length ((natz l).map (Value.int .i64)) := by
  have e : natsOf l = (natz l).map (Value.int .i64) := by simp [natsOf, natz]
  rw [e] at h
  simpa [natz] using h
theorem Tw.insides (h : Tw W w base g rb v s gb ib u t M L) : Calls Try.prog 19 #[.pointer (some ⟨g, 0, none⟩)] w fun e w' => ∃ ov, e = .returned ov ∧ Tw W w' base g rb v s gb ib u t M ((ov, 3, natz (inside s.rd s.rd.length)) :: L) :=
  (inside_any h.gr).mono fun _ _ ⟨ov, e, h1, h2⟩ => ⟨ov, e, (h.on h2).add (.inr rfl) h.gr.bs (natz_row h1) (by have := h.gr.n8; have := inside_length s.rd s.rd.length; simp [natz]; omega)⟩
theorem Tw.blocks (h : Tw W w base g rb v s gb ib u t M L) (id : Int) : Calls Try.prog 18 #[.pointer (some ⟨g, 0, none⟩), .int .i64 id] w fun e w' => ∃ ov, e = .returned ov ∧ Tw W w' base g rb v s gb ib u t M ((ov, 3, natz (blocksOf s id)) :: L) :=
  (blocks_any h.gr id).mono fun _ _ ⟨ov, e, h1, h2⟩ => ⟨ov, e, (h.on h2).add (.inr rfl) h.gr.bs (natz_row h1) (by have := h.gr.n8; have := blocksOf_length s id; simp [natz]; omega)⟩
theorem Tw.renter (h : Tw W w base g rb v s gb ib u t M L) {i : Nat} (hi : i < t.ins.length) : Calls Try.prog 21 #[.pointer (some ⟨gb, 0, none⟩), .int .i64 i] w fun e w' => e = .returned (.int .i64 0) ∧ Tw W w' base g rb v s gb ib u { t with ins := t.ins.set i (wrap64 (t.ins.getD i 0 + 1)) } M L :=
  (renter_yes h.rf hi).mono fun _ _ ⟨e, h1, h2⟩ => ⟨e, h.ref h1 h2⟩
theorem Tw.rleave (h : Tw W w base g rb v s gb ib u t M L) {i : Nat} (hi : i < t.ins.length) (h0 : t.ins.getD i 0 ≠ 0) : Calls Try.prog 22 #[.pointer (some ⟨gb, 0, none⟩), .int .i64 i] w fun e w' => e = .returned (.int .i64 0) ∧ Tw W w' base g rb v s gb ib u (t.leave i) M L :=
  (rleave_yes h.rf hi h0).mono fun _ _ ⟨e, h1, h2⟩ => ⟨e, h.ref h1 h2⟩
theorem Tw.rpush (h : Tw W w base g rb v s gb ib u t M L) {id : Int} (hm : t.l.length < 16) : Calls Try.prog 23 #[.pointer (some ⟨gb, 0, none⟩), .int .i64 id] w fun e w' => ∃ sv u', e = .returned (.tuple #[.bool (noneTo t.ins t.ins.length), .int .i64 0]) ∧
    Tw W w' base g rb v s gb ib u' { t with l := t.l ++ [⟨id, sv, whoTo t.ins t.ins.length⟩] } M L :=
  (rdefer_yes h.rf hm).mono fun _ _ ⟨sv, u', e, h1, h2⟩ => ⟨sv, u', e, h.ref h1 h2⟩
theorem Tw.rpoll (h : Tw W w base g rb v s gb ib u t M L) : Calls Try.prog 24 #[.pointer (some ⟨gb, 0, none⟩)] w fun e w' => ∃ u' ov, e = .returned ov ∧ Tw W w' base g rb v s gb ib u' { t with l := rkept t t.l.length } M ((ov, 2, rout t t.l.length) :: L) :=
  (rpoll_any h.rf).mono fun _ _ ⟨u', ov, e, h1, h2, h3⟩ => ⟨u', ov, e, (h.ref h1 h3).add (.inl rfl) h.gr.bs h2 (by have := h.rf.m16; have := rout_length t; omega)⟩
theorem Tw.rwaits (h : Tw W w base g rb v s gb ib u t M L) : Calls Try.prog 25 #[.pointer (some ⟨gb, 0, none⟩)] w fun e w' => ∃ ov, e = .returned ov ∧ Tw W w' base g rb v s gb ib u t M ((ov, 2, t.l.map RE.id) :: L) :=
  (rwaiting_any h.rf).mono fun _ _ ⟨ov, e, h1, h2⟩ => ⟨ov, e, (h.on h2).add (.inl rfl) h.gr.bs (by simpa [ridsOf, List.map_map, Function.comp_def] using h1) (by have := h.rf.m16; simp; omega)⟩
theorem Tw.rinsides (h : Tw W w base g rb v s gb ib u t M L) : Calls Try.prog 26 #[.pointer (some ⟨gb, 0, none⟩)] w fun e w' => ∃ ov, e = .returned ov ∧ Tw W w' base g rb v s gb ib u t M ((ov, 3, natz (Ytedfegbafjmkgaa.insides t.ins)) :: L) :=
  (rinside_any h.rf).mono fun _ _ ⟨ov, e, h1, h2⟩ => ⟨ov, e, (h.on h2).add (.inr rfl) h.gr.bs (natz_row h1) (by have := h.rf.n8; rw [natz, List.length_map]; exact Nat.le_trans (picked_length _ _) (by omega))⟩
theorem Tw.rblocks (h : Tw W w base g rb v s gb ib u t M L) (id : Int) : Calls Try.prog 27 #[.pointer (some ⟨gb, 0, none⟩), .int .i64 id] w fun e w' => ∃ ov, e = .returned ov ∧ Tw W w' base g rb v s gb ib u t M ((ov, 3, natz (rblocksOf t id)) :: L) :=
  (rblocks_any h.rf id).mono fun _ _ ⟨ov, e, h1, h2⟩ => ⟨ov, e, (h.on h2).add (.inr rfl) h.gr.bs (natz_row h1) (by have := h.rf.n8; have := rblocksOf_length h.rf id; simp [natz]; omega)⟩
theorem Tw.num (h : Tw W w base g rb v s gb ib u t M L) {x : Value × TypeId × List Int} (hx : x ∈ L) : Nums w x.1 x.2.2 := Win.nums (h.l x hx).2.1 rfl
theorem Tw.same16 {a b : Value} {l : List Int} (h : Tw W w base g rb v s gb ib u t M ((b, 2, l) :: (a, 2, l) :: L)) : Calls Try.prog 16 #[a, b] w fun e w' => e = .returned (.bool true) ∧ Tw W w' base g rb v s gb ib u t M [] :=
  (Ytedfegbafjmkgaa.same16 a b l w (by have := (h.l (b, 2, l) (by simp)).2.2; dsimp only at this; omega) (h.num (x := (a, 2, l)) (by simp)) (h.num (x := (b, 2, l)) (by simp))).mono fun _ _ ⟨e, q⟩ => ⟨e, (h.on q).drop⟩
theorem Tw.same17 {a b : Value} {l : List Int} (h : Tw W w base g rb v s gb ib u t M ((b, 3, l) :: (a, 3, l) :: L)) : Calls Try.prog 17 #[a, b] w fun e w' => e = .returned (.bool true) ∧ Tw W w' base g rb v s gb ib u t M [] :=
  (Ytedfegbafjmkgaa.same17 a b l w (by have := (h.l (b, 3, l) (by simp)).2.2; dsimp only at this; omega) (h.num (x := (a, 3, l)) (by simp)) (h.num (x := (b, 3, l)) (by simp))).mono fun _ _ ⟨e, q⟩ => ⟨e, (h.on q).drop⟩
theorem Tw.known (h : Tw W w base g rb v s gb ib u t M L) : Calls Try.prog 15 #[] w fun e w' => e = .returned (.bool true) ∧ Tw W w' base g rb v s gb ib u t M L :=
  (known_any w).mono fun _ _ ⟨e, q⟩ => ⟨e, h.on q⟩
/-- Both are new. -/
theorem tw_start {n : Nat} {w1 : World} (hg : Gr w1 (W.heap.size + 2) (W.heap.size + 1) W.heap.size (.slice none 0 0) (GS.new n)) (hB : Below W.heap.size W w1) (hr : Rf w' (w1.heap.size + 2) (w1.heap.size + 1) w1.heap.size (.slice none 0 0) (RS.new n)) (hB2 : Below w1.heap.size w1 w') :
    Tw W w' (w1.heap.size + 2) (W.heap.size + 1) W.heap.size (.slice none 0 0) (GS.new n) (w1.heap.size + 1) w1.heap.size (.slice none 0 0) (RS.new n) [] [] := by
  have g1 := hg.below hB2
  have b1 := hg.bs
  have b2 := hr.bs
  refine ⟨⟨g1.hg, g1.hr, Win.nil _ _ _ _, by simp [GS.new], g1.n1, g1.n8, g1.m16, by omega, by omega, g1.ne, b2⟩, hr, hB.trans (hB2.mono hB.size), by omega, by omega, by simp, by simp⟩
end
end Go.Proofs.Ytedfegbafjmkgaa
