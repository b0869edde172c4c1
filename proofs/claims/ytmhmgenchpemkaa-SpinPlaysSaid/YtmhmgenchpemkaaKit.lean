/- Tools that know no program: regions walked in one order; what blocks hold; which blocks a call turns. -/
import Derived.WalkKit
import Derived.BigQuiet
import Derived.KernelRfl
namespace Go.Proofs.Ytmhmgenchpemkaa
open Go.RowKit

/-- The world x, where below w's end it is as w is; else w itself. -/
noncomputable def graft (w x : World) : World := open Classical in if Below w.heap.size w x then x else w

theorem graft_below (w x : World) : Below w.heap.size w (graft w x) := by
  unfold graft; split
  · assumption
  · exact Below.refl _ _
theorem graft_of {w x : World} (h : Below w.heap.size w x) : graft w x = x := by unfold graft; rw [if_pos h]
@[go_sem] theorem graft_cell (w x : World) (b o : Nat) (h : b < w.heap.size) : (graft w x).cell? ⟨b, o, none⟩ = w.cell? ⟨b, o, none⟩ := (graft_below w x).cell (p := ⟨b, o, none⟩) h
@[go_sem] theorem graft_frozen (w x : World) (b o : Nat) (h : b < w.heap.size) : (graft w x).frozen? ⟨b, o, none⟩ = w.frozen? ⟨b, o, none⟩ := (graft_below w x).frozen (p := ⟨b, o, none⟩) h

theorem wp_region_graft {P : Program} {id : Nat} {Q : Exit → Act → World → Prop} {a : Act} {w : World} {l : List Oper} (hm : P.follows .mixedOrders = true) (hB : Region.lexB .any l.toArray = true)
    (h : wpQuiet P l.toArray (fun w' => ∃ x, w' = graft w x) (fun a' => ∀ w', Below w.heap.size w w' → Q .normal a' w') l a) : (Code.region id l.toArray true).wp P Q a w := by
  refine wp_region_quiet (C := fun w' => ∃ x, w' = graft w x) hm hB ⟨w.drew, (graft_of (Below.refl _ _).drew).symm⟩ ?_
  have e : (fun a' => ∀ w', (∃ x, w' = graft w x) → Q .normal a' w') = (fun a' => ∀ w', Below w.heap.size w w' → Q .normal a' w') := by
    funext a'
    refine propext ⟨fun h w' hb => h w' ⟨w', (graft_of hb).symm⟩, ?_⟩
    rintro h w' ⟨x, rfl⟩
    exact h _ (graft_below w x)
  rw [e]
  simpa using h

theorem wpList_of_quiet {P : Program} {ops : Array Oper} {C : World → Prop} {Q : Act → Prop} {Q' : Exit → Act → World → Prop} (hQ : ∀ a w, C w → Q a → Q' .normal a w) :
    ∀ (l : List Oper) (a : Act) (w : World), C w → wpQuiet P ops C Q l a → wpList P ops Q' l a w
  | [], _, _, hw, h => hQ _ _ hw h
  | o :: rest, a, w, hw, h => by
    unfold wpQuiet at h
    unfold wpList
    split
    · rename_i hh; rw [if_pos hh] at h
      exact .inl (Oper.wp_of_quiet hw (fun a' w' hw' h' => wpList_of_quiet hQ rest a' w' hw' h') h)
    · rename_i hh; rw [if_neg hh] at h
      exact wpList_of_quiet hQ rest _ w hw h

/-- The same for a region that keeps the text's order. -/
theorem wp_region_graft_seq {P : Program} {id : Nat} {Q : Exit → Act → World → Prop} {a : Act} {w : World} {l : List Oper}
    (h : wpQuiet P l.toArray (fun w' => ∃ x, w' = graft w x) (fun a' => ∀ w', Below w.heap.size w w' → Q .normal a' w') l a) : (Code.region id l.toArray false).wp P Q a w := by
  refine wp_region_lit (wpList_of_quiet (C := fun w' => ∃ x, w' = graft w x) (fun a' w' hw' hq => ?_) l a w ⟨w, (graft_of (Below.refl _ _)).symm⟩ h)
  obtain ⟨x, rfl⟩ := hw'
  exact hq _ (graft_below w x)

/-- A callee that makes new memory alone, in a world of the class. -/
theorem calls_graft {P : Program} {f : FuncId} {args : Array Value} {w x : World} {v : Value}
    (h : Calls P f args (graft w x) fun e w' => e = .returned v ∧ Below (graft w x).heap.size (graft w x) w') : Calls P f args (graft w x) fun e w'' => e = .returned v ∧ ∃ y, w'' = graft w y :=
  h.mono fun _ w' ⟨he, hb⟩ => ⟨he, w', (graft_of ((graft_below w x).trans (hb.mono (graft_below w x).size))).symm⟩

/-- What a block holds, cell by cell, and that it may be written. -/
def Holds (w : World) (b : Nat) (cs : Array Value) : Prop := (∀ j, w.cell? ⟨b, j, none⟩ = cs[j]?) ∧ (∀ j, w.frozen? ⟨b, j, none⟩ = false) ∧ b < w.heap.size

theorem Holds.below {w w' : World} {b : Nat} {cs : Array Value} (h : Holds w b cs) (hb : Below w.heap.size w w') : Holds w' b cs :=
  ⟨fun j => (hb.cell (p := ⟨b, j, none⟩) h.2.2).trans (h.1 j), fun j => (hb.frozen (p := ⟨b, j, none⟩) h.2.2).trans (h.2.1 j), Nat.lt_of_lt_of_le h.2.2 hb.size⟩
theorem Holds.new (w : World) (cs : Array Value) (t : TypeId) : Holds (w.alloc (.cells cs t)) w.heap.size cs :=
  ⟨fun _ => World.cell?_alloc_new _ _ _ _, fun _ => World.frozen?_alloc_new _ _ _ _, by simp⟩
theorem Holds.alloc {w : World} {b : Nat} {cs : Array Value} (h : Holds w b cs) (o : Obj) : Holds (w.alloc o) b cs :=
  h.below ((Below.refl _ _).alloc (Nat.le_refl _) o)
theorem Holds.set {w : World} {b : Nat} {cs : Array Value} (h : Holds w b cs) (i : Nat) (v : Value) (hi : i < cs.size) : Holds (w.setCell ⟨b, i, none⟩ v) b (cs.setIfInBounds i v) := by
  refine ⟨fun j => ?_, fun j => by rw [World.frozen?_setCell]; exact h.2.1 j, by simpa using h.2.2⟩
  by_cases e : i = j
  · subst e
    rw [World.cell?_setCell_same (u := cs[i]) w _ _ (by rw [h.1 i]; simp [hi])]
    simp [hi]
  · rw [World.cell?_setCell_other _ _ _ _ (by intro hh; cases hh; exact e rfl), h.1 j, Array.getElem?_setIfInBounds_ne e]
theorem Holds.other {w : World} {b : Nat} {cs : Array Value} (h : Holds w b cs) {a : Addr} (ha : a.block ≠ b) (v : Value) : Holds (w.setCell a v) b cs :=
  ⟨fun j => by rw [World.cell?_setCell_other _ _ _ _ (by intro hh; exact ha (by rw [hh]))]; exact h.1 j, fun j => by rw [World.frozen?_setCell]; exact h.2.1 j, by simpa using h.2.2⟩
theorem Holds.lt {w : World} {b : Nat} {cs : Array Value} (h : Holds w b cs) : b < w.heap.size := h.2.2
theorem Holds.cell {w : World} {b : Nat} {cs : Array Value} (h : Holds w b cs) (j : Nat) : w.cell? ⟨b, j, none⟩ = cs[j]? := h.1 j
theorem Holds.free {w : World} {b : Nat} {cs : Array Value} (h : Holds w b cs) (j : Nat) : w.frozen? ⟨b, j, none⟩ = false := h.2.1 j

/-- Of what there was, the listed blocks alone may have turned. -/
structure Frm (l : List Nat) (w w' : World) : Prop where
  os : w'.os = w.os
  tape : w'.tape = w.tape
  output : w'.output = w.output
  size : w.heap.size ≤ w'.heap.size
  block : ∀ k, k < w.heap.size → k ∉ l → w'.heap[k]? = w.heap[k]?

theorem Frm.refl (l : List Nat) (w : World) : Frm l w w := ⟨rfl, rfl, rfl, Nat.le_refl _, fun _ _ _ => rfl⟩
theorem Frm.trans {l : List Nat} {a b c : World} (h : Frm l a b) (k : Frm l b c) : Frm l a c :=
  ⟨k.os.trans h.os, k.tape.trans h.tape, k.output.trans h.output, Nat.le_trans h.size k.size, fun i hi hn => (k.block i (Nat.lt_of_lt_of_le hi h.size) hn).trans (h.block i hi hn)⟩
theorem Frm.mono {l l' : List Nat} {w w' : World} (h : Frm l w w') (hl : ∀ k ∈ l, k ∈ l') : Frm l' w w' :=
  ⟨h.os, h.tape, h.output, h.size, fun k hk hn => h.block k hk (fun hm => hn (hl k hm))⟩
theorem Frm.of_below {l : List Nat} {w w' : World} (h : Below w.heap.size w w') : Frm l w w' := ⟨h.os, h.tape, h.output, h.size, fun k hk _ => h.block k hk⟩
theorem Frm.nil_below {w w' : World} (h : Frm [] w w') : Below w.heap.size w w' := ⟨h.os, h.tape, h.output, h.size, fun k hk => h.block k hk (by simp)⟩
theorem Frm.drew {l : List Nat} {a w : World} (h : Frm l a w) : Frm l a w.drew := ⟨h.os, h.tape, h.output, h.size, h.block⟩
theorem Frm.alloc {l : List Nat} {a w : World} (h : Frm l a w) (o : Obj) : Frm l a (w.alloc o) := h.trans (.of_below ((Below.refl _ _).alloc (Nat.le_refl _) o))
theorem Frm.setCell {l : List Nat} {a w : World} (h : Frm l a w) {p : Addr} (hp : p.block ∈ l) (v : Value) : Frm l a (w.setCell p v) :=
  h.trans ⟨rfl, rfl, rfl, by simp, fun k _ hn => Below.heap_setCell _ _ _ _ (fun e => hn (e ▸ hp))⟩
/-- The listed blocks lie at or beyond B: below B nothing has turned. -/
theorem Frm.below {l : List Nat} {w w' : World} {B : Nat} (h : Frm l w w') (hB : B ≤ w.heap.size) (hl : ∀ k ∈ l, B ≤ k) : Below B w w' :=
  ⟨h.os, h.tape, h.output, h.size, fun k hk => h.block k (by omega) (fun hm => by have := hl k hm; omega)⟩
theorem Frm.of_belowB {l : List Nat} {w w' : World} {B : Nat} (h : Below B w w') (hl : ∀ k, B ≤ k → k < w.heap.size → k ∈ l) : Frm l w w' :=
  ⟨h.os, h.tape, h.output, h.size, fun k hk hn => h.block k (by rcases Nat.lt_or_ge k B with h' | h'; exact h'; exact absurd (hl k h' hk) hn)⟩
theorem Holds.frm {l : List Nat} {w w' : World} {b : Nat} {cs : Array Value} (h : Holds w b cs) (hf : Frm l w w') (hn : b ∉ l) : Holds w' b cs :=
  ⟨fun j => (World.cell?_of_block (w := w) (a := ⟨b, j, none⟩) (hf.block b h.lt hn)).trans (h.1 j), fun j => (World.frozen?_of_block (w := w) (a := ⟨b, j, none⟩) (hf.block b h.lt hn)).trans (h.2.1 j), Nat.lt_of_lt_of_le h.lt hf.size⟩
theorem Holds.drew {w : World} {b : Nat} {cs : Array Value} (h : Holds w b cs) : Holds w.drew b cs := h
theorem Frm.of_grown {l : List Nat} {w w' : World} {row : Option Nat} (hg : w.grownBy w' row) (hr : ∀ k, row = some k → k < w.heap.size → k ∈ l) : Frm l w w' :=
  ⟨hg.os, hg.tape, hg.output, hg.size, fun k hk hn => hg.block k hk (fun e => hn (hr k e.symm hk))⟩
end Go.Proofs.Ytmhmgenchpemkaa
