/- Chapter 4: what Poll's walk shares: marks of loops over functions, the rows that grow. -/
import Derived.Test.YtedfegbafjmkgaaBlk
import Derived.Maps.AppendAt
namespace Go.Proofs.Ytedfegbafjmkgaa
open Go.RowKit Go.Shelf

attribute [local go_sem] Oper.semAt_some

theorem blocking_in (n : Nat) (p : Option Addr) (z : Int) (v : Value) (w : World) :
    CallsIn Fence.wide n Try.prog 29 #[.pointer p, .agg #[.int .i64 z, v]] w fun e w' => e = .returned (.func (.func 32) #[] #[.pointer (some ⟨w.heap.size, 0, none⟩), .pointer (some ⟨w.heap.size + 1, 0, none⟩)]) ∧ w' = (w.alloc (.cells #[.pointer p] 23)).alloc (.cells #[.int .i64 z, v] 60) := by
  refine callsIn_of_wp Try.func29 rfl trivial ?_ rfl
  simp only [Try.ntmps29, List.size_toArray, List.length_cons, List.length_nil, Nat.reduceAdd, Nat.reduceSub, Array.replicate_succ, Array.replicate_zero, List.push_toArray, List.append_toArray, List.nil_append, List.cons_append]
  gi_wp2
  go_ret
  exact ⟨rfl, rfl⟩

def mk (D : Nat) : Deferred := { target := .collected D, args := #[] }
theorem leaves_marks {F : Fence} {n : Nat} {P : Program} {fn : Func} {tmps : Array Value} {R : Ending → World → Prop} {v : Value} (hres : ∀ W, (results fn tmps).run P W = .ok v W) :
    ∀ (Ds : List Nat) (W : World), Ds.Nodup → (∀ D ∈ Ds, W.heap[D]? = some (.deferred (some []))) → (∀ X, Frm Ds W X → R (.returned v) X) → LeavesInM F n P fn tmps R (Ds.map mk) .returning W
  | [], W, _, _, h => ⟨v, hres W, h W (Frm.refl _ _)⟩
  | D :: Ds, W, hn, hD, h => by
    have hn' := List.nodup_cons.1 hn
    refine ⟨by simp, .inl ⟨D, W.putObj D (.deferred none), rfl, run_takeDeferred (hD D (by simp)), leaves_marks hres Ds _ hn'.2 (fun D' hD' => ?_) (fun X hX => h X ?_)⟩⟩
    · rw [World.putObj_heap_other (fun e => hn'.1 (by subst e; exact hD'))]
      exact hD D' (by simp [hD'])
    · have g := grownBy_putObj' W D (.deferred none)
      have f : Frm (D :: Ds) W (W.putObj D (.deferred none)) := ⟨g.os, g.tape, g.output, g.size, fun k hk hk' => g.block k hk (fun e => hk' (by cases e; simp))⟩
      exact f.trans (hX.mono fun k hk => by simp [hk])
/-- Blocks that hold the rounds' deferred calls: none. -/
def Marks (lo : Nat) (W : World) (Ds : List Nat) : Prop := Ds.Nodup ∧ ∀ D ∈ Ds, lo ≤ D ∧ W.heap[D]? = some (.deferred (some []))
theorem Marks.keep {lo : Nat} {W W' : World} {Ds : List Nat} (h : Marks lo W Ds) (hk : ∀ (k : Nat) (o : Obj), W.heap[k]? = some o → o.isCells = false → W'.heap[k]? = some o) : Marks lo W' Ds :=
  ⟨h.1, fun D hD => ⟨(h.2 D hD).1, hk _ _ (h.2 D hD).2 rfl⟩⟩
theorem Marks.lt {lo : Nat} {W : World} {Ds : List Nat} (h : Marks lo W Ds) : ∀ D ∈ Ds, D < W.heap.size := fun D hD => (Array.getElem?_eq_some_iff.1 (h.2 D hD).2).1
theorem Marks.cons {lo B D : Nat} {W : World} {Ds : List Nat} (h : Marks lo W Ds) (hB : ∀ D ∈ Ds, D < B) (hD : B ≤ D) (hlo : lo ≤ B) (hd : W.heap[D]? = some (.deferred (some []))) : Marks lo W (D :: Ds) := by
  refine ⟨List.nodup_cons.2 ⟨fun hm => by have := hB D hm; omega, h.1⟩, fun D' hD' => ?_⟩
  rcases List.mem_cons.1 hD' with rfl | hD'
  · exact ⟨by omega, hd⟩
  · exact h.2 D' hD'
theorem marks_own {β : Type} {lo B : Nat} {Ds : List Nat} (hB : ∀ D ∈ Ds, D < B) : OwnFrom B (fun (_ : β) W => Marks lo W Ds) := fun _ X Y row hs hg hr =>
  ⟨hs.1, fun D hD => ⟨(hs.2 D hD).1, (hg.block D (hs.lt D hD) (fun e => by
    have := (hr D e.symm).1
    have := hB D hD
    omega)).trans (hs.2 D hD).2⟩⟩

/-- Two rows of different elements lie apart. -/
theorem rows_ne {W : World} {b b' : Nat} {e e' : TypeId} {n n' k k' : Nat} {v v' : Value} {xs ys : List Value} (h : W.ownsRow b e n v k xs) (h' : W.ownsRow b' e' n' v' k' ys) (hne : e ≠ e') : v.ownBlock = none ∨ v.ownBlock ≠ v'.ownBlock := by
  rcases h.2 with ⟨rfl, _⟩ | ⟨g, cap, cur, rfl, _, hg, _⟩
  · exact .inl rfl
  · right
    rcases h'.2 with ⟨rfl, _⟩ | ⟨g', cap', cur', rfl, _, hg', _⟩
    · simp [Value.ownBlock]
    · intro e0
      have : g = g' := by simpa [Value.ownBlock] using e0
      subst this
      rw [hg] at hg'; cases hg'; exact hne rfl
theorem row_own {β : Type} (n₀ : Nat) (e : TypeId) (size k : Nat) (v : Value) (xs : List Value) : Own (fun (_ : β) W => W.ownsRow n₀ e size v k xs) := by
  rintro s X Y row hr hg hrow
  refine hr.kept hg ?_
  rcases hr.2 with ⟨rfl, _⟩ | ⟨g, cap, cur, rfl, _, hgb, _⟩
  · exact .inl rfl
  · refine .inr fun e' => ?_
    obtain ⟨o, ho, hc⟩ := hrow g (by simpa [Value.ownBlock] using e'.symm)
    rw [hgb] at ho; cases ho; cases hc
theorem block_own {β : Type} (b : Nat) (cs : Array Value) (t : TypeId) : Own (fun (_ : β) (W : World) => W.heap[b]? = some (.cells cs t (0, 0))) := by
  rintro s X Y row hs hg hrow
  refine (hg.block b (Array.getElem?_eq_some_iff.1 hs).1 fun e => ?_).trans hs
  obtain ⟨o, ho, hc⟩ := hrow b e.symm
  rw [hs] at ho; cases ho; cases hc

/-- Poll on its way: what is left (behind its box), what is told. -/
structure PI (w W : World) (lv ov : Value) (K : List WE) (O : List Int) : Prop where
  box : Boxed W w.heap.size 52 lv
  lrow : W.ownsRow w.heap.size 60 2 lv K.length (wcells K)
  orow : W.ownsRow w.heap.size 2 1 ov O.length (O.map (Value.int .i64))
  bel : Below w.heap.size w W
theorem PI.own {β : Type} {w : World} {lv ov : Value} {K : List WE} {O : List Int} {B : Nat} (hB : w.heap.size ≤ B) : OwnFrom B (fun (_ : β) W => PI w W lv ov K O) := fun s X Y row hs hg hr =>
  ⟨(boxed_own w.heap.size 52 (fun _ : β => lv)).from B s X Y row hs.box hg hr, (row_own w.heap.size 60 2 K.length lv (wcells K)).from B s X Y row hs.lrow hg hr,
    (row_own w.heap.size 2 1 O.length ov (O.map (Value.int .i64))).from B s X Y row hs.orow hg hr, ownFrom_below (Nat.le_refl _) hB s X Y row hs.bel hg hr⟩
theorem PI.alloc {w W : World} {lv ov : Value} {K : List WE} {O : List Int} (h : PI w W lv ov K O) (o : Obj) : PI w (W.alloc o) lv ov K O :=
  ⟨h.box.alloc o, h.lrow.alloc o, h.orow.alloc o, h.bel.alloc h.bel.size o⟩
theorem wcells_snoc (K : List WE) (x : WE) : wcells (K ++ [x]) = wcells K ++ [.int .i64 x.id, x.v] := by simp [wcells, WE.cells]

/-- The closure over a copy of an id's wait gives the readers that hold it up. -/
theorem blk_stops (n : Nat) (hn : 1 ≤ n) (Bg Bw g rb f o cap : Nat) (rd : List (Int × Int)) (li : List Int) (W0 : World) (hn8 : rd.length ≤ 8)
    (hl : Bg < W0.heap.size ∧ Bw < W0.heap.size ∧ g < W0.heap.size ∧ rb < W0.heap.size ∧ f < W0.heap.size)
    (hBg : W0.cell? ⟨Bg, 0, none⟩ = some (.pointer (some ⟨g, 0, none⟩))) (hg : W0.cell? ⟨g, 0, none⟩ = some (.slice (some ⟨rb, 0, none⟩) rd.length rd.length))
    (hBw : W0.cell? ⟨Bw, 1, none⟩ = some (.slice (some ⟨f, o, none⟩) rd.length cap))
    (hr : ∀ j, j < rd.length → W0.cell? ⟨rb, j * 2, none⟩ = some (.int .i64 (rd.getD j (0, 0)).1) ∧ W0.cell? ⟨rb, j * 2 + 1, none⟩ = some (.int .i64 (rd.getD j (0, 0)).2))
    (hf : ∀ j, j < rd.length → W0.cell? ⟨f, o + j, none⟩ = some (.int .i64 (li.getD j 0))) :
    SeqStopsK Fence.wide n Try.prog 32 #[.pointer (some ⟨Bg, 0, none⟩), .pointer (some ⟨Bw, 0, none⟩)] (fun x : Nat => #[Value.int .i64 (x : Int)]) (KL [Bw, rb, f]) (fun ys => ys = blkd rd li rd.length) (fun pre => ∃ k, k ≤ rd.length ∧ pre = blkd rd li k) rd.length W0 := fun l J Jx W hW hab _ hY h0 => by
  have hs := hW.size
  refine (blk1_in n hn l Bg Bw g rb f o cap rd li J Jx W hab hY ?_ hn8 ((hW.cell (p := ⟨Bg, 0, none⟩) hl.1).trans hBg) ((hW.cell (p := ⟨g, 0, none⟩) hl.2.2.1).trans hg) ((hW.cell (p := ⟨Bw, 1, none⟩) hl.2.1).trans hBw)
    (fun j hj => ⟨(hW.cell (p := ⟨rb, j * 2, none⟩) hl.2.2.2.1).trans (hr j hj).1, (hW.cell (p := ⟨rb, j * 2 + 1, none⟩) hl.2.2.2.1).trans (hr j hj).2⟩) (fun j hj => (hW.cell (p := ⟨f, o + j, none⟩) hl.2.2.2.2).trans (hf j hj)) h0).mono ?_
  · intro k hk
    simp at hk
    rcases hk with rfl | rfl | rfl <;> omega
  · rintro e W' ⟨he, ⟨ys, rfl, hj⟩ | ⟨pre, hp, hj⟩⟩
    · exact ⟨he, .inl ⟨_, rfl, hj⟩⟩
    · exact ⟨he, .inr ⟨pre, hp, hj⟩⟩
theorem rd_at {l : List (Int × Int)} {j : Nat} (hj : j < l.length) : (rcells l)[j * 2]? = some (.int .i64 (l.getD j (0, 0)).1) ∧ (rcells l)[j * 2 + 1]? = some (.int .i64 (l.getD j (0, 0)).2) := by
  have := rcells_at (List.getElem?_eq_getElem hj)
  simpa [List.getD_eq_getElem?_getD, List.getElem?_eq_getElem hj] using this
theorem info60 : (Try.prog.info? 60).map (fun i => (i.zero, i.size, i.bytes)) = some (some (.agg #[.int .i64 0, .slice none 0 0]), 2, 32) := by kernel_rfl
theorem info2 : (Try.prog.info? 2).map (fun i => (i.zero, i.size, i.bytes)) = some (some (.int .i64 0), 1, 8) := by kernel_rfl
theorem info3 : (Try.prog.info? 3).map (fun i => (i.zero, i.size, i.bytes)) = some (some (.int .i64 0), 1, 8) := by kernel_rfl
theorem new_cells (w : World) (cs : List Value) (ty : TypeId) : ∀ j u, cs[j]? = some u → (w.alloc (.cells cs.toArray ty)).cell? ((⟨w.heap.size, 0, none⟩ : Addr).add j) = some u := by
  intro j u hu
  rw [Addr.add_mid, Nat.zero_add, World.cell?_alloc_new, ← hu]
  simp
theorem row_keeps {W W' : World} {b : Nat} {e : TypeId} {size k : Nat} {v : Value} {xs : List Value} (hr : W.ownsRow b e size v k xs) (hg : W.grownBy W' v.ownBlock) : KeepsOthers W W' := by
  refine KeepsOthers.of_grownBy hg fun j o ej hj => ?_
  rcases hr.2 with ⟨rfl, _⟩ | ⟨g, cap, cur, rfl, _, hgb, _⟩
  · simp [Value.ownBlock] at ej
  · obtain rfl : g = j := by simpa [Value.ownBlock] using ej
    rw [hgb] at hj; cases hj; rfl
theorem row_from {W : World} {b : Nat} {e : TypeId} {size k : Nat} {v : Value} {xs : List Value} (hr : W.ownsRow b e size v k xs) : ∀ j, v.ownBlock = some j → b ≤ j := by
  intro j ej
  rcases hr.2 with ⟨rfl, _⟩ | ⟨g, cap, cur, rfl, hb, _⟩
  · simp [Value.ownBlock] at ej
  · obtain rfl : g = j := by simpa [Value.ownBlock] using ej
    exact hb
theorem blkd_more {rd : List (Int × Int)} {l : List Int} {k n : Nat} (hk : k ≤ n) (h : blkd rd l k ≠ []) : blkd rd l n ≠ [] := by
  obtain ⟨j, hj⟩ := List.exists_mem_of_ne_nil _ h
  simp only [blkd, List.mem_filter, List.mem_range] at hj
  intro e
  have : j ∈ blkd rd l n := by simp only [blkd, List.mem_filter, List.mem_range]; exact ⟨by omega, hj.2⟩
  rw [e] at this
  cases this
/-- An id is told. -/
theorem PI.told {w X w1 : World} {lv ov v' : Value} {K : List WE} {O : List Int} {z : Int} {tmp : Obj} (h : PI w X lv ov K O) (hown : w1.ownsRow w.heap.size 2 1 v' (O.length + 1) (O.map (Value.int .i64) ++ [.int .i64 z])) (hg : (X.alloc tmp).grownBy w1 ov.ownBlock) : PI w w1 lv v' K (O ++ [z]) :=
  ⟨(h.box.alloc tmp).kept hg ((h.box.alloc tmp).not_row (by decide) (h.orow.alloc tmp)), (h.lrow.alloc tmp).kept hg (rows_ne (h.lrow.alloc tmp) (h.orow.alloc tmp) (by decide)), by simpa using hown,
    (h.bel.alloc h.bel.size tmp).grown hg (by have := h.bel.size; simp; omega) (fun k e => row_from h.orow k e)⟩
/-- An id is kept. -/
theorem PI.kept {w X w1 : World} {lv ov v' : Value} {K : List WE} {O : List Int} {x : WE} {tmp : Obj} (h : PI w X lv ov K O) (hg : (X.alloc tmp).grownBy w1 lv.ownBlock) (hv1 : Boxed w1 w.heap.size 52 lv)
    (hv2 : Boxed (w1.setCell ⟨w.heap.size, 0, none⟩ v') w.heap.size 52 v') (hr : (w1.setCell ⟨w.heap.size, 0, none⟩ v').ownsRow w.heap.size 60 2 v' (K.length + 1) (wcells K ++ [.int .i64 x.id, x.v])) (hb : Below w.heap.size X (w1.setCell ⟨w.heap.size, 0, none⟩ v')) : PI w (w1.setCell ⟨w.heap.size, 0, none⟩ v') v' ov (K ++ [x]) O := by
  have o1 := (h.orow.alloc tmp).kept hg (rows_ne (h.orow.alloc tmp) (h.lrow.alloc tmp) (by decide))
  exact ⟨hv2, by rw [wcells_snoc]; simpa using hr, o1.kept (grownBy_setCell' w1 _ v') (.inr (hv1.not_row (by decide) o1).symm), h.bel.trans hb⟩
end Go.Proofs.Ytedfegbafjmkgaa
