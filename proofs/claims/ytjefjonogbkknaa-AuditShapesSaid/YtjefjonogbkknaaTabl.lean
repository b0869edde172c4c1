/- A table of eight calls; what a round of the two walks knows. -/
import Derived.Test.YtjefjonogbkknaaShpLaw
import Derived.Test.YtjefjonogbkknaaQuiet
namespace Go.Proofs.Ytjefjonogbkknaa
open Go.RowKit

theorem wpList_load_mid_g {P : Program} {ops : Array Oper} {rest : List Oper} {op : Oper} {a : Act} {w : World} {Q : Exit → Act → World → Prop} (hw : Region.wanted op (yielded ops a.tmps) = true) (ty : TypeId) (x : Operand) (ho : op.op = .load ty x)
    (b o : Nat) (hx : a.eval x = .pointer (some ⟨b, o, none⟩)) (cs : List Value) (d : TypeDesc) (hc : w.rangeAt b o cs)
    (hu : P.underlying ty = some d) (hd : d.isRow = true) (hi : (P.info? ty).map (·.size) = some cs.length)
    (h : wpList P ops Q rest (a.put op.dst (.agg cs.toArray)) w) : wpList P ops Q (op :: rest) a w :=
  BigFrame.wpList_want hw fun _ hK => wp_load_mid ty x ho b o hx cs d hc hu hd hi (hK _ _ h)

def zrow : List Value := Cal.zero.cells (.slice none 0 0)
def tcells : List Value := (List.replicate 8 zrow).flatten
theorem info40 : (Try.prog.info? 40).map (fun i => (i.zero, i.size, i.bytes)) = some (some (.agg tcells.toArray), 72, 832) := by kernel_rfl
theorem zero40 (w : World) : (zeroValue 40).run Try.prog w = .ok (.agg tcells.toArray) w := by
  obtain ⟨i, hi, hz, _, _⟩ := info_parts info40
  simp [zeroValue, typeInfo, hi, hz]

/-- Block B holds eight calls; their bytes lay in w0 before it was. -/
def Tabl (w0 W : World) (B : Nat) (f : Nat → Cal) : Prop :=
  B < W.heap.size ∧ W.there B 0 72 ∧ ∀ T, T < 8 → ∃ x, Den 1 w0 x (byts (f T).ds) ∧ W.rangeAt B (T * 9) ((f T).cells x)
theorem Tabl.below {w0 W W' : World} {B : Nat} {f : Nat → Cal} (h : Tabl w0 W B f) (hb : Below W.heap.size W W') : Tabl w0 W' B f := by
  obtain ⟨h1, h2, h3⟩ := h
  refine ⟨Nat.lt_of_lt_of_le h1 hb.size, fun j hj => ?_, fun T hT => ?_⟩
  · have := h2 j hj
    rw [hb.cell (p := ⟨B, 0 + j, none⟩) h1, hb.frozen (p := ⟨B, 0 + j, none⟩) h1]
    exact this
  · obtain ⟨x, d, r⟩ := h3 T hT
    exact ⟨x, d, below_range r h1 hb⟩
theorem Tabl.new (w : World) : Tabl w (w.alloc (.cells tcells.toArray 40)) w.heap.size (fun _ => Cal.zero) := by
  have H := Holds.new w tcells.toArray 40
  have ht := H.there
  refine ⟨H.lt, ht, fun T hT => ⟨.slice none 0 0, Den.nil 1 w, fun j v hj => ?_⟩⟩
  rw [H.cell]
  have hl : j < 9 := (List.getElem?_eq_some_iff.1 hj).1
  have := flatten_get 9 (List.replicate 8 zrow) T j zrow (fun r hr => by rw [List.eq_of_mem_replicate hr]; rfl) (by rw [List.getElem?_replicate, if_pos hT]) hl
  show tcells.toArray[T * 9 + j]? = _
  rw [List.getElem?_toArray]
  exact this.trans hj
theorem Tabl.set {w0 W : World} {B : Nat} {f : Nat → Cal} (h : Tabl w0 W B f) {T : Nat} (hT : T < 8) {c : Cal} {x : Value} (hx : Den 1 w0 x (byts c.ds)) : Tabl w0 (W.setCells B (T * 9) (c.cells x)) B (updC f T c) := by
  obtain ⟨h1, h2, h3⟩ := h
  have hs : ∀ (vs : List Value) (o : Nat) (w : World), (w.setCells B o vs).heap.size = w.heap.size := by
    intro vs
    induction vs with
    | nil => intro o w; rfl
    | cons v r ih => intro o w; exact (ih (o + 1) _).trans (by simp)
  refine ⟨by rw [hs]; exact h1, fun j hj => ⟨World.isSome_setCells _ _ _ _ _ (h2 j hj).1, (frozen_setCells _ _ _ _ _).trans (h2 j hj).2⟩, fun t ht => ?_⟩
  by_cases e : t = T
  · subst e
    refine ⟨x, by simpa [updC] using hx, ?_⟩
    have := World.rangeAt_setCells_same W B (t * 9) (c.cells x) (fun j hj => by
      have hj : j < 9 := hj
      have := h2 (t * 9 + j) (by omega)
      rwa [Nat.zero_add] at this)
    simpa [updC] using this
  · obtain ⟨y, d, r⟩ := h3 t ht
    refine ⟨y, by simpa [updC, e] using d, ?_⟩
    have hu : updC f T c t = f t := by simp [updC, e]
    rw [hu]
    intro j v hj
    have hl : j < 9 := (List.getElem?_eq_some_iff.1 hj).1
    rw [World.cell?_setCells_out B (c.cells x) (T * 9) W ⟨B, t * 9 + j, none⟩ (fun _ _ => by
      show t * 9 + j < T * 9 ∨ T * 9 + 9 ≤ t * 9 + j
      omega)]
    exact r j v hj
theorem Tabl.row {w0 W : World} {B : Nat} {f : Nat → Cal} (h : Tabl w0 W B f) {T : Nat} (hT : T < 8) : ∃ x, Den 1 w0 x (byts (f T).ds) ∧ W.rangeAt B (T * 9) ((f T).cells x) := h.2.2 T hT
theorem Tabl.room {w0 W : World} {B : Nat} {f : Nat → Cal} (h : Tabl w0 W B f) {T : Nat} (hT : T < 8) : W.there B (T * 9) 9 := fun j hj => by
  have := h.2.1 (T * 9 + j) (by omega)
  rwa [Nat.zero_add] at this

/-- An event in a block of its own. -/
structure Rnd (w1 W : World) (Bq : Nat) (e : Ev) (x y z : Value) : Prop where
  bel : Below w1.heap.size w1 W
  row : Holds W Bq (e.cells x y z).toArray
  tri : Tri w1 e.c e.r x y z
theorem Rnd.below {w1 W W' : World} {Bq : Nat} {e : Ev} {x y z : Value} (h : Rnd w1 W Bq e x y z) (hb : Below W.heap.size W W') : Rnd w1 W' Bq e x y z :=
  ⟨h.bel.trans (hb.mono h.bel.size), h.row.below hb, h.tri⟩
theorem Rnd.call {w1 W : World} {Bq : Nat} {e : Ev} {x y z : Value} (h : Rnd w1 W Bq e x y z) : W.rangeAt Bq 2 (e.c.cells x) := fun j v hj => by
  have hl : j < 9 := (List.getElem?_eq_some_iff.1 hj).1
  rw [h.row.cell, ← hj]
  match j, hl with
  | 0, _ | 1, _ | 2, _ | 3, _ | 4, _ | 5, _ | 6, _ | 7, _ | 8, _ => rfl
theorem Rnd.res {w1 W : World} {Bq : Nat} {e : Ev} {x y z : Value} (h : Rnd w1 W Bq e x y z) : W.rangeAt Bq 11 (e.r.cells y z) := fun j v hj => by
  have hl : j < 11 := (List.getElem?_eq_some_iff.1 hj).1
  rw [h.row.cell, ← hj]
  match j, hl with
  | 0, _ | 1, _ | 2, _ | 3, _ | 4, _ | 5, _ | 6, _ | 7, _ | 8, _ | 9, _ | 10, _ => rfl
theorem Rnd.kind {w1 W : World} {Bq : Nat} {e : Ev} {x y z : Value} (h : Rnd w1 W Bq e x y z) : W.cell? ⟨Bq, 0, none⟩ = some (.int .i64 e.k) := h.row.cell 0
theorem Rnd.thread {w1 W : World} {Bq : Nat} {e : Ev} {x y z : Value} (h : Rnd w1 W Bq e x y z) : W.cell? ⟨Bq, 1, none⟩ = some (.int .i64 e.t) := h.row.cell 1
theorem Rnd.oper {w1 W : World} {Bq : Nat} {e : Ev} {x y z : Value} (h : Rnd w1 W Bq e x y z) : W.cell? ⟨Bq, 2, none⟩ = some (.int .i64 e.c.c0) := h.row.cell 2
end Go.Proofs.Ytjefjonogbkknaa
