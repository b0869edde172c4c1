/- Tools that know no program: regions walked in one order; what blocks hold; which blocks a call turns. -/
import Derived.WalkKit
import Derived.BigQuiet
import Derived.KernelRfl
import Derived.Deep.Draws
import Derived.ArgAppend
import Derived.Deep.AppendLies
import Derived.Deep.RegionHeld3
namespace Go.Proofs.YtfjghemojnhmbaaGreat
open Go.RowKit

/-- The world x, where below w's end it is as w is; else w itself. -/
noncomputable def graft (w x : World) : World := open Classical in if Below w.heap.size w x then x else w

theorem graft_below (w x : World) : Below w.heap.size w (graft w x) := by
  unfold graft; split
  · assumption
  · exact Below.refl _ _
theorem graft_of {w x : World} (h : Below w.heap.size w x) : graft w x = x := by unfold graft; rw [if_pos h]
@[go_sem] theorem graft_cell (w x : World) (b o : Nat) (h : b < w.heap.size) : (graft w x).cell? ⟨b, o, none⟩ = w.cell? ⟨b, o, none⟩ := (graft_below w x).cell (p := ⟨b, o, none⟩) h
@[go_sem] theorem graft_frozen (w x : World) (b o : Nat) (h : b < w.heap.size) : (graft w x).frozen? ⟨b, o, none⟩ = w.frozen? ⟨b, o, none⟩ := (graft_below w x).frozen (p := ⟨b, o, none⟩) h

theorem wp_region_graft {P : Program} {id : Nat} {Q : Exit → Act → World → Prop} {a : Act} {w : World} {l : List Oper} (hm : P.follows .mixedOrders = true) (hB : Region.lexB .any l.toArray = true)
    (h : wpQuiet P l.toArray (fun w' => ∃ x, w' = graft w x) (fun a' => ∀ w', Below w.heap.size w w' → Q .normal a' w') l a) : (Code.region id l.toArray true).wp P Q a w := by
  refine wp_region_quiet (C := fun w' => ∃ x, w' = graft w x) hm hB ⟨w.drew, (graft_of (Below.refl _ _).drew).symm⟩ ?_
  have e : (fun a' => ∀ w', (∃ x, w' = graft w x) → Q .normal a' w') = (fun a' => ∀ w', Below w.heap.size w w' → Q .normal a' w') := by
    funext a'
    refine propext ⟨fun h w' hb => h w' ⟨w', (graft_of hb).symm⟩, ?_⟩
    rintro h w' ⟨x, rfl⟩
    exact h _ (graft_below w x)
  rw [e]
  simpa using h

theorem wpList_of_quiet {P : Program} {ops : Array Oper} {C : World → Prop} {Q : Act → Prop} {Q' : Exit → Act → World → Prop} (hQ : ∀ a w, C w → Q a → Q' .normal a w) :
    ∀ (l : List Oper) (a : Act) (w : World), C w → wpQuiet P ops C Q l a → wpList P ops Q' l a w
  | [], _, _, hw, h => hQ _ _ hw h
  | o :: rest, a, w, hw, h => by
    unfold wpQuiet at h
    unfold wpList
    split
    · rename_i hh; rw [if_pos hh] at h
      exact .inl (Oper.wp_of_quiet hw (fun a' w' hw' h' => wpList_of_quiet hQ rest a' w' hw' h') h)
    · rename_i hh; rw [if_neg hh] at h
      exact wpList_of_quiet hQ rest _ w hw h

/-- The same for a region that keeps the text's order. -/
theorem wp_region_graft_seq {P : Program} {id : Nat} {Q : Exit → Act → World → Prop} {a : Act} {w : World} {l : List Oper}
    (h : wpQuiet P l.toArray (fun w' => ∃ x, w' = graft w x) (fun a' => ∀ w', Below w.heap.size w w' → Q .normal a' w') l a) : (Code.region id l.toArray false).wp P Q a w := by
  refine wp_region_lit (wpList_of_quiet (C := fun w' => ∃ x, w' = graft w x) (fun a' w' hw' hq => ?_) l a w ⟨w, (graft_of (Below.refl _ _)).symm⟩ h)
  obtain ⟨x, rfl⟩ := hw'
  exact hq _ (graft_below w x)

/-- A callee that makes new memory alone, in a world of the class. -/
theorem calls_graft {P : Program} {f : FuncId} {args : Array Value} {w x : World} {v : Value}
    (h : Calls P f args (graft w x) fun e w' => e = .returned v ∧ Below (graft w x).heap.size (graft w x) w') : Calls P f args (graft w x) fun e w'' => e = .returned v ∧ ∃ y, w'' = graft w y :=
  h.mono fun _ w' ⟨he, hb⟩ => ⟨he, w', (graft_of ((graft_below w x).trans (hb.mono (graft_below w x).size))).symm⟩

/-- What a block holds, cell by cell, and that it may be written. -/
def Holds (w : World) (b : Nat) (cs : Array Value) : Prop := (∀ j, w.cell? ⟨b, j, none⟩ = cs[j]?) ∧ (∀ j, w.frozen? ⟨b, j, none⟩ = false) ∧ b < w.heap.size

theorem Holds.below {w w' : World} {b : Nat} {cs : Array Value} (h : Holds w b cs) (hb : Below w.heap.size w w') : Holds w' b cs :=
  ⟨fun j => (hb.cell (p := ⟨b, j, none⟩) h.2.2).trans (h.1 j), fun j => (hb.frozen (p := ⟨b, j, none⟩) h.2.2).trans (h.2.1 j), Nat.lt_of_lt_of_le h.2.2 hb.size⟩
theorem Holds.new (w : World) (cs : Array Value) (t : TypeId) : Holds (w.alloc (.cells cs t)) w.heap.size cs :=
  ⟨fun _ => World.cell?_alloc_new _ _ _ _, fun _ => World.frozen?_alloc_new _ _ _ _, by simp⟩
theorem Holds.alloc {w : World} {b : Nat} {cs : Array Value} (h : Holds w b cs) (o : Obj) : Holds (w.alloc o) b cs :=
  h.below ((Below.refl _ _).alloc (Nat.le_refl _) o)
theorem Holds.set {w : World} {b : Nat} {cs : Array Value} (h : Holds w b cs) (i : Nat) (v : Value) (hi : i < cs.size) : Holds (w.setCell ⟨b, i, none⟩ v) b (cs.setIfInBounds i v) := by
  refine ⟨fun j => ?_, fun j => by rw [World.frozen?_setCell]; exact h.2.1 j, by simpa using h.2.2⟩
  by_cases e : i = j
  · subst e
    rw [World.cell?_setCell_same (u := cs[i]) w _ _ (by rw [h.1 i]; simp [hi])]
    simp [hi]
  · rw [World.cell?_setCell_other _ _ _ _ (by intro hh; cases hh; exact e rfl), h.1 j, Array.getElem?_setIfInBounds_ne e]
theorem Holds.other {w : World} {b : Nat} {cs : Array Value} (h : Holds w b cs) {a : Addr} (ha : a.block ≠ b) (v : Value) : Holds (w.setCell a v) b cs :=
  ⟨fun j => by rw [World.cell?_setCell_other _ _ _ _ (by intro hh; exact ha (by rw [hh]))]; exact h.1 j, fun j => by rw [World.frozen?_setCell]; exact h.2.1 j, by simpa using h.2.2⟩
theorem Holds.lt {w : World} {b : Nat} {cs : Array Value} (h : Holds w b cs) : b < w.heap.size := h.2.2
theorem Holds.cell {w : World} {b : Nat} {cs : Array Value} (h : Holds w b cs) (j : Nat) : w.cell? ⟨b, j, none⟩ = cs[j]? := h.1 j
theorem Holds.free {w : World} {b : Nat} {cs : Array Value} (h : Holds w b cs) (j : Nat) : w.frozen? ⟨b, j, none⟩ = false := h.2.1 j

/-- Of what there was, the listed blocks alone may have turned. -/
structure Frm (l : List Nat) (w w' : World) : Prop where
  os : w'.os = w.os
  tape : w'.tape = w.tape
  output : w'.output = w.output
  size : w.heap.size ≤ w'.heap.size
  block : ∀ k, k < w.heap.size → k ∉ l → w'.heap[k]? = w.heap[k]?

theorem Frm.refl (l : List Nat) (w : World) : Frm l w w := ⟨rfl, rfl, rfl, Nat.le_refl _, fun _ _ _ => rfl⟩
theorem Frm.trans {l : List Nat} {a b c : World} (h : Frm l a b) (k : Frm l b c) : Frm l a c :=
  ⟨k.os.trans h.os, k.tape.trans h.tape, k.output.trans h.output, Nat.le_trans h.size k.size, fun i hi hn => (k.block i (Nat.lt_of_lt_of_le hi h.size) hn).trans (h.block i hi hn)⟩
theorem Frm.mono {l l' : List Nat} {w w' : World} (h : Frm l w w') (hl : ∀ k ∈ l, k ∈ l') : Frm l' w w' :=
  ⟨h.os, h.tape, h.output, h.size, fun k hk hn => h.block k hk (fun hm => hn (hl k hm))⟩
theorem Frm.of_below {l : List Nat} {w w' : World} (h : Below w.heap.size w w') : Frm l w w' := ⟨h.os, h.tape, h.output, h.size, fun k hk _ => h.block k hk⟩
theorem Frm.nil_below {w w' : World} (h : Frm [] w w') : Below w.heap.size w w' := ⟨h.os, h.tape, h.output, h.size, fun k hk => h.block k hk (by simp)⟩
theorem Frm.drew {l : List Nat} {a w : World} (h : Frm l a w) : Frm l a w.drew := ⟨h.os, h.tape, h.output, h.size, h.block⟩
theorem Frm.alloc {l : List Nat} {a w : World} (h : Frm l a w) (o : Obj) : Frm l a (w.alloc o) := h.trans (.of_below ((Below.refl _ _).alloc (Nat.le_refl _) o))
theorem Frm.setCell {l : List Nat} {a w : World} (h : Frm l a w) {p : Addr} (hp : p.block ∈ l) (v : Value) : Frm l a (w.setCell p v) :=
  h.trans ⟨rfl, rfl, rfl, by simp, fun k _ hn => Below.heap_setCell _ _ _ _ (fun e => hn (e ▸ hp))⟩
/-- The listed blocks lie at or beyond B: below B nothing has turned. -/
theorem Frm.below {l : List Nat} {w w' : World} {B : Nat} (h : Frm l w w') (hB : B ≤ w.heap.size) (hl : ∀ k ∈ l, B ≤ k) : Below B w w' :=
  ⟨h.os, h.tape, h.output, h.size, fun k hk => h.block k (by omega) (fun hm => by have := hl k hm; omega)⟩
theorem Frm.of_belowB {l : List Nat} {w w' : World} {B : Nat} (h : Below B w w') (hl : ∀ k, B ≤ k → k < w.heap.size → k ∈ l) : Frm l w w' :=
  ⟨h.os, h.tape, h.output, h.size, fun k hk hn => h.block k (by rcases Nat.lt_or_ge k B with h' | h'; exact h'; exact absurd (hl k h' hk) hn)⟩
theorem Holds.frm {l : List Nat} {w w' : World} {b : Nat} {cs : Array Value} (h : Holds w b cs) (hf : Frm l w w') (hn : b ∉ l) : Holds w' b cs :=
  ⟨fun j => (World.cell?_of_block (w := w) (a := ⟨b, j, none⟩) (hf.block b h.lt hn)).trans (h.1 j), fun j => (World.frozen?_of_block (w := w) (a := ⟨b, j, none⟩) (hf.block b h.lt hn)).trans (h.2.1 j), Nat.lt_of_lt_of_le h.lt hf.size⟩
theorem Holds.drew {w : World} {b : Nat} {cs : Array Value} (h : Holds w b cs) : Holds w.drew b cs := h
theorem Frm.of_grown {l : List Nat} {w w' : World} {row : Option Nat} (hg : w.grownBy w' row) (hr : ∀ k, row = some k → k < w.heap.size → k ∈ l) : Frm l w w' :=
  ⟨hg.os, hg.tape, hg.output, hg.size, fun k hk hn => hg.block k hk (fun e => hn (hr k e.symm hk))⟩
theorem below_drewN {B : Nat} {a w : World} (h : Below B a w) (n : Nat) : Below B a (w.drewN n) := h.trans ⟨rfl, rfl, rfl, Nat.le_refl _, fun _ _ => rfl⟩
theorem Frm.drewN {l : List Nat} {a w : World} (h : Frm l a w) (n : Nat) : Frm l a (w.drewN n) := ⟨h.os, h.tape, h.output, h.size, h.block⟩
theorem Holds.drewN {w : World} {b : Nat} {cs : Array Value} (h : Holds w b cs) (n : Nat) : Holds (w.drewN n) b cs := h
/-- 'x & 1' is 'x % 2'. -/
theorem and1 (x : Int) : bits .and .i64 x 1 = x % 2 := by
  show IntKind.i64.wrap ((BitVec.ofInt 64 x &&& BitVec.ofInt 64 1).toNat : Int) = _
  rw [BitVec.toNat_and, BitVec.toNat_ofInt, show (BitVec.ofInt 64 1).toNat = 2 ^ 1 - 1 from rfl, Nat.and_two_pow_sub_one_eq_mod, IntKind.wrap_i64]
  omega
end Go.Proofs.YtfjghemojnhmbaaGreat
/- Slices that are cut at their head and appended to again: what such a slice value holds, and the laws of append on it. -/
namespace Go.Proofs.YtfjghemojnhmbaaGreat
open Go.RowKit

/-- The slice value v, of n elements of type e ('size' cells each), holds the cells xs, at whatever place of a block from 'base' on. -/
def Win (w : World) (base : Nat) (e : TypeId) (size : Nat) (v : Value) (n : Nat) (xs : List Value) : Prop :=
  xs.length = n * size ∧ ((v = .slice none 0 0 ∧ n = 0) ∨
    ∃ f o cap cur, v = .slice (some ⟨f, o, none⟩) n cap ∧ base ≤ f ∧ w.heap[f]? = some (.cells cur e (0, 0)) ∧ n ≤ cap ∧ cap ≤ maxLen ∧ o + cap * size ≤ cur.size ∧ ∀ j, j < n * size → cur[o + j]? = xs[j]?)

theorem Win.nil (w : World) (base : Nat) (e : TypeId) (size : Nat) : Win w base e size (.slice none 0 0) 0 [] := ⟨by simp, .inl ⟨rfl, rfl⟩⟩
theorem Win.of_own {w : World} {base : Nat} {e : TypeId} {size : Nat} {v : Value} {n : Nat} {xs : List Value} (h : w.ownsRow base e size v n xs) : Win w base e size v n xs := by
  obtain ⟨h1, h2 | ⟨g, cap, cur, h3, h4, h5, h6, h7, h8, h9⟩⟩ := h
  · exact ⟨h1, .inl h2⟩
  · refine ⟨h1, .inr ⟨g, 0, cap, cur, h3, h4, h5, h6, h7, by omega, fun j hj => ?_⟩⟩
    rw [← h9, List.getElem?_take_of_lt hj]; simp
theorem Win.of_base {w : World} {base base' : Nat} {e : TypeId} {size : Nat} {v : Value} {n : Nat} {xs : List Value} (h : Win w base' e size v n xs) (hb : base ≤ base') : Win w base e size v n xs := by
  obtain ⟨h1, h2 | ⟨f, o, cap, cur, h3, h4, h5⟩⟩ := h
  · exact ⟨h1, .inl h2⟩
  · exact ⟨h1, .inr ⟨f, o, cap, cur, h3, by omega, h5⟩⟩
theorem Win.kept {w w' : World} {base : Nat} {e : TypeId} {size : Nat} {v : Value} {n : Nat} {xs : List Value} (h : Win w base e size v n xs) (hk : ∀ k, v.ownBlock = some k → w'.heap[k]? = w.heap[k]?) : Win w' base e size v n xs := by
  obtain ⟨h1, h2 | ⟨f, o, cap, cur, h3, h4, h5, h6⟩⟩ := h
  · exact ⟨h1, .inl h2⟩
  · exact ⟨h1, .inr ⟨f, o, cap, cur, h3, h4, by rw [hk f (by rw [h3]; rfl)]; exact h5, h6⟩⟩
theorem Win.lt {w : World} {base : Nat} {e : TypeId} {size : Nat} {v : Value} {n : Nat} {xs : List Value} (h : Win w base e size v n xs) : ∀ k, v.ownBlock = some k → base ≤ k ∧ k < w.heap.size := by
  intro k hk
  obtain ⟨h1, h2 | ⟨f, o, cap, cur, h3, h4, h5, h6⟩⟩ := h
  · rw [h2.1] at hk; cases hk
  · rw [h3] at hk; cases hk
    exact ⟨h4, (Array.getElem?_eq_some_iff.1 h5).1⟩
theorem Win.below {w w' : World} {base : Nat} {e : TypeId} {size : Nat} {v : Value} {n : Nat} {xs : List Value} (h : Win w base e size v n xs) (hb : Below w.heap.size w w') : Win w' base e size v n xs :=
  h.kept fun k hk => hb.block k (h.lt k hk).2
theorem Win.frm {w w' : World} {base : Nat} {e : TypeId} {size : Nat} {v : Value} {n : Nat} {xs : List Value} {l : List Nat} (h : Win w base e size v n xs) (hf : Frm l w w') (hn : ∀ k ∈ l, v.ownBlock ≠ some k) : Win w' base e size v n xs :=
  h.kept fun k hk => hf.block k (h.lt k hk).2 (fun hm => hn k hm hk)
theorem Win.alloc {w : World} {base : Nat} {e : TypeId} {size : Nat} {v : Value} {n : Nat} {xs : List Value} (h : Win w base e size v n xs) (o : Obj) : Win (w.alloc o) base e size v n xs :=
  h.below ((Below.refl _ _).alloc (Nat.le_refl _) o)
theorem Win.drew {w : World} {base : Nat} {e : TypeId} {size : Nat} {v : Value} {n : Nat} {xs : List Value} (h : Win w base e size v n xs) : Win w.drew base e size v n xs := h

/-- What its cells are. -/
theorem Win.cells {w : World} {base : Nat} {e : TypeId} {size f o cap n : Nat} {xs : List Value} (h : Win w base e size (.slice (some ⟨f, o, none⟩) n cap) n xs) : ∀ j, j < n * size → w.cell? ⟨f, o + j, none⟩ = xs[j]? := by
  obtain ⟨h1, h2 | ⟨f', o', cap', cur, h3, h4, h5, h6, h7, h8, h9⟩⟩ := h
  · cases h2.1
  · cases h3
    intro j hj
    simp only [World.cell?, h5]
    exact h9 j hj
theorem Win.free {w : World} {base : Nat} {e : TypeId} {size f o cap n : Nat} {xs : List Value} (h : Win w base e size (.slice (some ⟨f, o, none⟩) n cap) n xs) (j : Nat) : w.frozen? ⟨f, j, none⟩ = false := by
  obtain ⟨h1, h2 | ⟨f', o', cap', cur, h3, h4, h5, h6⟩⟩ := h
  · cases h2.1
  · cases h3
    simp [World.frozen?, h5]
theorem Win.bound {w : World} {base : Nat} {e : TypeId} {size f o cap n : Nat} {xs : List Value} (h : Win w base e size (.slice (some ⟨f, o, none⟩) n cap) n xs) : n ≤ cap ∧ cap ≤ maxLen := by
  obtain ⟨h1, h2 | ⟨f', o', cap', cur, h3, h4, h5, h6, h7, h8⟩⟩ := h
  · cases h2.1
  · cases h3
    exact ⟨h6, h7⟩
theorem Win.form {w : World} {base : Nat} {e : TypeId} {size : Nat} {v : Value} {n : Nat} {xs : List Value} (h : Win w base e size v n xs) (hn : 0 < n) : ∃ f o cap, v = .slice (some ⟨f, o, none⟩) n cap := by
  obtain ⟨h1, h2 | ⟨f, o, cap, cur, h3, h4⟩⟩ := h
  · omega
  · exact ⟨f, o, cap, h3⟩
theorem Win.value {w : World} {base : Nat} {e : TypeId} {size : Nat} {v : Value} {n : Nat} {xs : List Value} (h : Win w base e size v n xs) : ∃ a cap, v = .slice a n cap := by
  obtain ⟨h1, h2 | ⟨f, o, cap, cur, h3, h4⟩⟩ := h
  · exact ⟨none, 0, by rw [h2.1, h2.2]⟩
  · exact ⟨_, cap, h3⟩
/-- Cut at its head: behind its first k elements (k below the capacity). -/
theorem Win.cut {w : World} {base : Nat} {e : TypeId} {size f o cap n : Nat} {xs : List Value} (h : Win w base e size (.slice (some ⟨f, o, none⟩) n cap) n xs) (k : Nat) (hk : k ≤ n) :
    Win w base e size (.slice (some ⟨f, o + k * size, none⟩) (n - k) (cap - k)) (n - k) (xs.drop (k * size)) := by
  obtain ⟨h1, h2 | ⟨f', o', cap', cur, h3, h4, h5, h6, h7, h8, h9⟩⟩ := h
  · cases h2.1
  · cases h3
    have e1 : (n - k) * size = n * size - k * size := Nat.sub_mul _ _ _
    have e2 : (cap - k) * size = cap * size - k * size := Nat.sub_mul _ _ _
    have e3 : k * size ≤ n * size := Nat.mul_le_mul_right _ hk
    have e4 : n * size ≤ cap * size := Nat.mul_le_mul_right _ h6
    refine ⟨by rw [List.length_drop, h1, e1], .inr ⟨f, o + k * size, cap - k, cur, rfl, h4, h5, by omega, by omega, by omega, fun j hj => ?_⟩⟩
    rw [List.getElem?_drop, ← h9 (k * size + j) (by omega), Nat.add_assoc]
/-- .. where nothing is left, its address stays as it was. -/
theorem Win.cutAll {w : World} {base : Nat} {e : TypeId} {size f o cap n : Nat} {xs : List Value} (h : Win w base e size (.slice (some ⟨f, o, none⟩) n cap) n xs) : Win w base e size (.slice (some ⟨f, o, none⟩) 0 0) 0 [] := by
  obtain ⟨h1, h2 | ⟨f', o', cap', cur, h3, h4, h5, h6, h7, h8, h9⟩⟩ := h
  · cases h2.1
  · cases h3
    exact ⟨by simp, .inr ⟨f, o, 0, cur, rfl, h4, h5, by omega, by omega, by omega, fun j hj => by omega⟩⟩

theorem setCells_heap (f : Nat) (e : TypeId) : ∀ (news : List Value) (p : Nat) (w : World) (cur : Array Value), w.heap[f]? = some (.cells cur e (0, 0)) →
    ∃ cur', (w.setCells f p news).heap[f]? = some (.cells cur' e (0, 0)) ∧ cur'.size = cur.size ∧ (∀ j, j < p → cur'[j]? = cur[j]?) ∧ (∀ j, j < news.length → p + j < cur.size → cur'[p + j]? = news[j]?)
  | [], p, w, cur, h => ⟨cur, h, rfl, fun _ _ => rfl, fun j hj => by simp at hj⟩
  | v :: r, p, w, cur, h => by
    have h0 : (w.setCell ⟨f, p, none⟩ v).heap[f]? = some (.cells (cur.setIfInBounds p v) e (0, 0)) := by
      simp [World.setCell, Array.getElem?_modify, h]
    obtain ⟨cur', h1, h2, h3, h4⟩ := setCells_heap f e r (p + 1) _ _ h0
    refine ⟨cur', h1, by simpa using h2, fun j hj => ?_, fun j hj hp => ?_⟩
    · rw [h3 j (by omega), Array.getElem?_setIfInBounds_ne (by omega)]
    · cases j with
      | zero => rw [Nat.add_zero, h3 p (by omega)]; simp at hp ⊢; simp [hp]
      | succ j => rw [show p + (j + 1) = p + 1 + j from by omega, h4 j (by simp at hj; omega) (by simp; omega)]; simp
theorem setCells_grown (f : Nat) : ∀ (news : List Value) (p : Nat) (w : World), w.grownBy (w.setCells f p news) (some f)
  | [], _, w => World.grownBy.refl w _
  | v :: r, p, w => by
    have := setCells_grown f r (p + 1) (w.setCell ⟨f, p, none⟩ v)
    exact ⟨this.os, this.tape, this.output, by have := this.size; rw [World.size_setCell] at this; exact this, fun k hk hne => (this.block k (by simpa using hk) hne).trans (Below.heap_setCell _ _ _ _ (fun e => hne (by rw [e])))⟩

theorem run_append_win {P : Program} (w : World) (base : Nat) (t ty e : TypeId) (i : TypeInfo) (z : Value) (size bytes : Nat) (ht : P.underlying t = some (.slice e)) (hi : P.info? e = some i) (hz : i.zero = some z)
    (hsize : i.size = size) (hby : i.bytes = bytes) (hzs : z.cells.size = size) (hsz : 0 < size) (v : Value) (n : Nat) (xs : List Value) (hown : Win w base e size v n xs)
    (ad : Addr) (m c : Nat) (news : List Value) (hl : news.length = m * size) (hnews : ∀ j u, news[j]? = some u → w.cell? (ad.add j) = some u) (h1 : ∀ u ∈ news, u.oneCell' = true)
    (h63 : n + m ≤ maxLen) (hbytes : (n + m) * bytes ≤ 140737488355328) (hbase : base ≤ w.heap.size) :
    ∃ v' w', (Builtin.append_ #[t, t] ty #[v, .slice (some ad) m c]).run P w = .ok v' w' ∧ Win w' base e size v' (n + m) (xs ++ news) ∧ w.grownBy w' v.ownBlock ∧ (0 < m → ∃ f o cap, v' = .slice (some ⟨f, o, none⟩) (n + m) cap ∧ (v.ownBlock = some f ∨ w.heap.size ≤ f)) := by
  subst hsize
  obtain ⟨hx, ⟨rfl, rfl⟩ | ⟨f, o, cap, cur, rfl, hf, hh, hnc, hcm, hcs, hat⟩⟩ := hown
  · obtain rfl : xs = [] := List.eq_nil_of_length_eq_zero (by simpa using hx)
    obtain ⟨v', w', hr, r1, r2, r3⟩ := run_append_own (P := P) w w.heap.size t ty e i z i.size bytes ht hi hz rfl hby hzs hsz (.slice none 0 0) 0 [] (World.ownsRow_nil _ _ _ _) ad m c news hl hnews h1 h63 hbytes (Nat.le_refl _)
    refine ⟨v', w', hr, (Win.of_own r1).of_base hbase, r2, fun hm => ?_⟩
    obtain ⟨_, q | ⟨g, cap, cur, q, hg, hgh, _⟩⟩ := r1
    · omega
    · exact ⟨g, 0, cap, q, .inr hg⟩
  · by_cases hroom : n + m ≤ cap
    · have hcell : ∀ j, j < news.length → (w.cell? ⟨f, o + n * i.size + j, none⟩).isSome = true := by
        intro j hj
        have : n * i.size + m * i.size ≤ cap * i.size := by rw [← Nat.add_mul]; exact Nat.mul_le_mul_right _ hroom
        simp only [World.cell?, hh]
        simp; omega
      have hfr : ∀ j, j < news.length → w.frozen? ⟨f, o + n * i.size + j, none⟩ = false := fun j _ => by simp [World.frozen?, hh]
      have hr := run_append_room_cells (P := P) w t ty e i ht hi f o n cap ad m c news hl hnews h1 hroom hcell hfr
      refine ⟨_, _, hr, ⟨by rw [List.length_append, hx, hl, Nat.add_mul], .inr ?_⟩, setCells_grown f news _ w, fun _ => ⟨f, o, cap, rfl, .inl rfl⟩⟩
      obtain ⟨cur', q1, q2, q3, q4⟩ := setCells_heap f e news (o + n * i.size) w cur hh
      refine ⟨f, o, cap, cur', rfl, hf, q1, hroom, hcm, by omega, fun j hj => ?_⟩
      have hle : (n + m) * i.size ≤ cap * i.size := Nat.mul_le_mul_right _ hroom
      rw [Nat.add_mul] at hj hle
      by_cases hjn : j < n * i.size
      · rw [q3 _ (by omega), hat j hjn, List.getElem?_append_left (by omega)]
      · have := q4 (j - n * i.size) (by omega) (by omega)
        rw [show o + n * i.size + (j - n * i.size) = o + j from by omega] at this
        rw [this, List.getElem?_append_right (by omega), hx]
    · have holds : ∀ j u, xs[j]? = some u → w.cell? ((⟨f, o, none⟩ : Addr).add j) = some u := by
        intro j u hj
        have hjl : j < n * i.size := by rw [← hx]; exact (List.getElem?_eq_some_iff.1 hj).1
        have e1 : (⟨f, o, none⟩ : Addr).add j = ⟨f, o + j, none⟩ := by unfold Addr.add; split <;> simp_all
        rw [e1]
        simp only [World.cell?, hh]
        exact (hat j hjl).trans hj
      obtain ⟨v', w', hr, r1, r2⟩ := run_append_arg_grows (P := P) w t ty e i z i.size bytes ht hi hz rfl hby hzs hsz ⟨f, o, none⟩ n cap xs hx holds ad m c news hl hnews (by omega) h63 hbytes
      refine ⟨v', w', hr, (Win.of_own r1).of_base hbase, ⟨r2.os, r2.tape, r2.output, r2.size, fun k hk _ => r2.block k hk (by simp)⟩, fun hm => ?_⟩
      obtain ⟨_, q | ⟨g, cap', cur', q, hg, _⟩⟩ := r1
      · omega
      · exact ⟨g, 0, cap', q, .inr hg⟩

section
variable {P : Program} (w : World) {ops : Array Oper} {rest : List Oper} {o : Oper} {a : Act} {K : Act → World → Prop} {Q : Exit → Act → World → Prop} {E : Prop}
theorem wp_append_win (s x : Operand) (t : TypeId) (ho : o.op = .call { callee := .builtin .append, args := #[s, x], argTypes := #[t, t] })
    (base : Nat) (e : TypeId) (i : TypeInfo) (z : Value) (size bytes : Nat) (ht : P.underlying t = some (.slice e)) (hi : P.info? e = some i) (hz : i.zero = some z) (hsize : i.size = size) (hby : i.bytes = bytes) (hzs : z.cells.size = size) (hsz : 0 < size)
    (v : Value) (n : Nat) (xs : List Value) (hs : a.eval s = v) (hown : Win w base e size v n xs)
    (ad : Addr) (m c : Nat) (news : List Value) (hx : a.eval x = .slice (some ad) m c) (hl : news.length = m * size) (hnews : ∀ j u, news[j]? = some u → w.cell? (ad.add j) = some u) (h1 : ∀ u ∈ news, u.oneCell' = true)
    (hm : 0 < m) (h63 : n + m ≤ maxLen) (hbytes : (n + m) * bytes ≤ 140737488355328) (hbase : base ≤ w.heap.size)
    (h : ∀ f o' cap w', Win w' base e size (.slice (some ⟨f, o', none⟩) (n + m) cap) (n + m) (xs ++ news) → w.grownBy w' v.ownBlock → (v.ownBlock = some f ∨ w.heap.size ≤ f) → K (a.put o.dst (.slice (some ⟨f, o', none⟩) (n + m) cap)) w') : o.wp P a w K Q := by
  obtain ⟨v', w', hr, h2, h3, h4⟩ := run_append_win (P := P) w base t o.type e i z size bytes ht hi hz hsize hby hzs hsz v n xs hown ad m c news hl hnews h1 h63 hbytes hbase
  obtain ⟨f, o', cap, rfl, hf⟩ := h4 hm
  unfold Oper.wp execOp
  simp only [ho, resolve, invoke, builtin, Sem.run_bind, Sem.run_pure, Result.andThen_ok, List.map_toArray, List.map_cons, List.map_nil, hs, hx, hr]
  exact h f o' cap w' h2 h3 hf

/-- .. for the walk. -/
theorem wpList_append_win (hgd : o.guard = none) (s x : Operand) (t : TypeId) (ho : o.op = .call { callee := .builtin .append, args := #[s, x], argTypes := #[t, t] })
    (base : Nat) (e : TypeId) (i : TypeInfo) (z : Value) (size bytes : Nat) (ht : P.underlying t = some (.slice e)) (hi : P.info? e = some i) (hz : i.zero = some z) (hsize : i.size = size) (hby : i.bytes = bytes) (hzs : z.cells.size = size) (hsz : 0 < size)
    (v : Value) (n : Nat) (xs : List Value) (hs : a.eval s = v) (hown : Win w base e size v n xs)
    (ad : Addr) (m c : Nat) (news : List Value) (hx : a.eval x = .slice (some ad) m c) (hl : news.length = m * size) (hnews : ∀ j u, news[j]? = some u → w.cell? (ad.add j) = some u) (h1 : ∀ u ∈ news, u.oneCell' = true)
    (hm : 0 < m) (h63 : n + m ≤ maxLen) (hbytes : (n + m) * bytes ≤ 140737488355328) (hbase : base ≤ w.heap.size)
    (h : ∀ f o' cap w', Win w' base e size (.slice (some ⟨f, o', none⟩) (n + m) cap) (n + m) (xs ++ news) → w.grownBy w' v.ownBlock → (v.ownBlock = some f ∨ w.heap.size ≤ f) → wpList P ops Q rest (a.put o.dst (.slice (some ⟨f, o', none⟩) (n + m) cap)) w') : wpList P ops Q (o :: rest) a w :=
  wpList_plain hgd fun _ hK => wp_append_win w s x t ho base e i z size bytes ht hi hz hsize hby hzs hsz v n xs hs hown ad m c news hx hl hnews h1 hm h63 hbytes hbase fun f o' cap w' h2 h3 h4 => hK _ _ (h f o' cap w' h2 h3 h4)

/-- .. as one step of a region that draws its order. -/
theorem step_append_win (hgd : o.guard = none) (s x : Operand) (t : TypeId) (ho : o.op = .call { callee := .builtin .append, args := #[s, x], argTypes := #[t, t] })
    (base : Nat) (e : TypeId) (i : TypeInfo) (z : Value) (size bytes : Nat) (ht : P.underlying t = some (.slice e)) (hi : P.info? e = some i) (hz : i.zero = some z) (hsize : i.size = size) (hby : i.bytes = bytes) (hzs : z.cells.size = size) (hsz : 0 < size)
    (v : Value) (n : Nat) (xs : List Value) (hs : a.eval s = v) (hown : Win w base e size v n xs)
    (ad : Addr) (m c : Nat) (news : List Value) (hx : a.eval x = .slice (some ad) m c) (hl : news.length = m * size) (hnews : ∀ j u, news[j]? = some u → w.cell? (ad.add j) = some u) (h1 : ∀ u ∈ news, u.oneCell' = true)
    (hm : 0 < m) (h63 : n + m ≤ maxLen) (hbytes : (n + m) * bytes ≤ 140737488355328) (hbase : base ≤ w.heap.size)
    (h : ∀ f o' cap w', Win w' base e size (.slice (some ⟨f, o', none⟩) (n + m) cap) (n + m) (xs ++ news) → w.grownBy w' v.ownBlock → (v.ownBlock = some f ∨ w.heap.size ≤ f) → K (a.put o.dst (.slice (some ⟨f, o', none⟩) (n + m) cap)) w') :
    if Region.wanted o (yielded ops a.tmps) = true then Oper.wp P o a w K Q else E := by
  have hw : Region.wanted o (yielded ops a.tmps) = true := by simp [Region.wanted, hgd]
  rw [if_pos hw]
  exact wp_append_win w s x t ho base e i z size bytes ht hi hz hsize hby hzs hsz v n xs hs hown ad m c news hx hl hnews h1 hm h63 hbytes hbase h
end
end Go.Proofs.YtfjghemojnhmbaaGreat
/- Memory that a model owns: frames by owner and by element type; rows of bytes that stay rows of bytes whoever writes a byte. -/
namespace Go.Proofs.YtfjghemojnhmbaaGreat
open Go.RowKit

/-- Of what there was, blocks of the owner S whose elements are of these types alone may have turned; they keep type and length. -/
structure Fr (S : Nat → Prop) (T : List TypeId) (w w' : World) : Prop where
  os : w'.os = w.os
  tape : w'.tape = w.tape
  output : w'.output = w.output
  size : w.heap.size ≤ w'.heap.size
  block : ∀ k, k < w.heap.size → w'.heap[k]? = w.heap[k]? ∨ (S k ∧ ∃ e cur cur', e ∈ T ∧ w.heap[k]? = some (.cells cur e (0, 0)) ∧ w'.heap[k]? = some (.cells cur' e (0, 0)) ∧ cur'.size = cur.size)

theorem Fr.refl (S : Nat → Prop) (T : List TypeId) (w : World) : Fr S T w w := ⟨rfl, rfl, rfl, Nat.le_refl _, fun _ _ => .inl rfl⟩
theorem Fr.trans {S S' : Nat → Prop} {T : List TypeId} {a b c : World} (h : Fr S T a b) (k : Fr S' T b c) (hs : ∀ i, S' i → S i ∨ a.heap.size ≤ i) : Fr S T a c := by
  refine ⟨k.os.trans h.os, k.tape.trans h.tape, k.output.trans h.output, Nat.le_trans h.size k.size, fun i hi => ?_⟩
  rcases k.block i (Nat.lt_of_lt_of_le hi h.size) with e | ⟨s, e, c1, c2, m, h1, h2, h3⟩
  · rcases h.block i hi with e' | ⟨s', e', d1, d2, m', g1, g2, g3⟩
    · exact .inl (e.trans e')
    · exact .inr ⟨s', e', d1, d2, m', g1, e.trans g2, g3⟩
  · have s0 : S i := (hs i s).resolve_right (by omega)
    rcases h.block i hi with e' | ⟨s', e', d1, d2, m', g1, g2, g3⟩
    · exact .inr ⟨s0, e, c1, c2, m, e'.symm.trans h1, h2, h3⟩
    · rw [g2] at h1
      cases h1
      exact .inr ⟨s0, _, d1, c2, m', g1, h2, h3.trans g3⟩
theorem Fr.mono {S S' : Nat → Prop} {T T' : List TypeId} {w w' : World} (h : Fr S T w w') (hs : ∀ k, S k → S' k ∨ w.heap.size ≤ k) (ht : ∀ e ∈ T, e ∈ T') : Fr S' T' w w' :=
  ⟨h.os, h.tape, h.output, h.size, fun k hk => by
    rcases h.block k hk with e | ⟨s, e, c1, c2, m, r⟩
    · exact .inl e
    · exact .inr ⟨(hs k s).resolve_right (by omega), e, c1, c2, ht e m, r⟩⟩
theorem Fr.of_below {S : Nat → Prop} {T : List TypeId} {w w' : World} (h : Below w.heap.size w w') : Fr S T w w' := ⟨h.os, h.tape, h.output, h.size, fun k hk => .inl (h.block k hk)⟩
theorem Fr.alloc {S : Nat → Prop} {T : List TypeId} {a w : World} (h : Fr S T a w) (o : Obj) : Fr S T a (w.alloc o) :=
  h.trans (S' := S) (.of_below ((Below.refl _ _).alloc (Nat.le_refl _) o)) fun _ hi => .inl hi
theorem Fr.drew {S : Nat → Prop} {T : List TypeId} {a w : World} (h : Fr S T a w) : Fr S T a w.drew := ⟨h.os, h.tape, h.output, h.size, h.block⟩
theorem Fr.one {S : Nat → Prop} {T : List TypeId} {w : World} {b i : Nat} {cur : Array Value} {e : TypeId} (hb : w.heap[b]? = some (.cells cur e (0, 0))) (hs : S b) (he : e ∈ T) (v : Value) : Fr S T w (w.setCell ⟨b, i, none⟩ v) := by
  refine ⟨rfl, rfl, rfl, by simp, fun k hk => ?_⟩
  by_cases hkp : b = k
  · subst hkp
    refine .inr ⟨hs, e, cur, cur.setIfInBounds i v, he, hb, ?_, by simp⟩
    simp [World.setCell, Array.getElem?_modify, hb]
  · exact .inl (Below.heap_setCell _ _ _ _ (fun e => hkp e.symm))
theorem Fr.setCell {S : Nat → Prop} {T : List TypeId} {a w : World} {b i : Nat} {cur : Array Value} {e : TypeId} (h : Fr S T a w) (hb : w.heap[b]? = some (.cells cur e (0, 0))) (hs : S b ∨ a.heap.size ≤ b) (he : e ∈ T) (v : Value) : Fr S T a (w.setCell ⟨b, i, none⟩ v) :=
  h.trans (S' := fun k => S k ∨ a.heap.size ≤ k) (Fr.one hb hs he v) fun _ hi => hi
/-- A block of a type that is not listed, or of another owner, stays. -/
theorem Fr.keepT {S : Nat → Prop} {T : List TypeId} {w w' : World} (h : Fr S T w w') {k : Nat} {cur : Array Value} {e : TypeId} {z : Nat × Nat} (hb : w.heap[k]? = some (.cells cur e z)) (he : e ∉ T) : w'.heap[k]? = some (.cells cur e z) := by
  rcases h.block k (Array.getElem?_eq_some_iff.1 hb).1 with q | ⟨s, e', c1, c2, m, h1, _⟩
  · exact q.trans hb
  · rw [hb] at h1; cases h1; exact absurd m he
theorem Fr.keepS {S : Nat → Prop} {T : List TypeId} {w w' : World} (h : Fr S T w w') {k : Nat} (hk : k < w.heap.size) (hs : ¬ S k) : w'.heap[k]? = w.heap[k]? :=
  (h.block k hk).elim id fun q => absurd q.1 hs
/-- Whatever it is, a block keeps its element type and its length. -/
theorem Fr.kind {S : Nat → Prop} {T : List TypeId} {w w' : World} (h : Fr S T w w') {k : Nat} {cur : Array Value} {e : TypeId} (hb : w.heap[k]? = some (.cells cur e (0, 0))) : ∃ cur', w'.heap[k]? = some (.cells cur' e (0, 0)) ∧ cur'.size = cur.size := by
  rcases h.block k (Array.getElem?_eq_some_iff.1 hb).1 with q | ⟨s, e', c1, c2, m, h1, h2, h3⟩
  · exact ⟨cur, q.trans hb, rfl⟩
  · rw [hb] at h1; cases h1; exact ⟨c2, h2, h3⟩

/-- A block that holds these cells, of this element type, and may be written. -/
def Blk (w : World) (b : Nat) (e : TypeId) (cs : Array Value) : Prop := w.heap[b]? = some (.cells cs e (0, 0))
theorem Blk.lt {w : World} {b : Nat} {e : TypeId} {cs : Array Value} (h : Blk w b e cs) : b < w.heap.size := (Array.getElem?_eq_some_iff.1 h).1
theorem Blk.cell {w : World} {b : Nat} {e : TypeId} {cs : Array Value} (h : Blk w b e cs) (j : Nat) : w.cell? ⟨b, j, none⟩ = cs[j]? := by unfold Blk at h; simp [World.cell?, h]
theorem Blk.free {w : World} {b : Nat} {e : TypeId} {cs : Array Value} (h : Blk w b e cs) (j : Nat) : w.frozen? ⟨b, j, none⟩ = false := by unfold Blk at h; simp [World.frozen?, h]
theorem Blk.holds {w : World} {b : Nat} {e : TypeId} {cs : Array Value} (h : Blk w b e cs) : Holds w b cs := ⟨h.cell, h.free, h.lt⟩
theorem Blk.new (w : World) (cs : Array Value) (e : TypeId) : Blk (w.alloc (.cells cs e)) w.heap.size e cs := by
  unfold Blk World.alloc
  simp
theorem Blk.below {w w' : World} {b : Nat} {e : TypeId} {cs : Array Value} (h : Blk w b e cs) (hb : Below w.heap.size w w') : Blk w' b e cs := (hb.block b h.lt).trans h
theorem Blk.drew {w : World} {b : Nat} {e : TypeId} {cs : Array Value} (h : Blk w b e cs) : Blk w.drew b e cs := h
theorem Blk.alloc {w : World} {b : Nat} {e : TypeId} {cs : Array Value} (h : Blk w b e cs) (o : Obj) : Blk (w.alloc o) b e cs := h.below ((Below.refl _ _).alloc (Nat.le_refl _) o)
theorem Blk.set {w : World} {b : Nat} {e : TypeId} {cs : Array Value} (h : Blk w b e cs) (i : Nat) (v : Value) : Blk (w.setCell ⟨b, i, none⟩ v) b e (cs.setIfInBounds i v) := by
  unfold Blk at h ⊢
  simp [World.setCell, Array.getElem?_modify, h]
theorem Blk.other {w : World} {b : Nat} {e : TypeId} {cs : Array Value} (h : Blk w b e cs) {a : Addr} (ha : a.block ≠ b) (v : Value) : Blk (w.setCell a v) b e cs :=
  (Below.heap_setCell _ _ _ _ (fun q => ha q.symm)).trans h
theorem Blk.fr {S : Nat → Prop} {T : List TypeId} {w w' : World} {b : Nat} {e : TypeId} {cs : Array Value} (h : Blk w b e cs) (hf : Fr S T w w') (he : e ∉ T) : Blk w' b e cs := hf.keepT h he
/-- Blocks of two types are two. -/
theorem Blk.ne {w : World} {b b' : Nat} {e e' : TypeId} {cs cs' : Array Value} (h : Blk w b e cs) (h' : Blk w b' e' cs') (he : e ≠ e') : b ≠ b' := by
  rintro rfl
  unfold Blk at h h'
  rw [h] at h'
  cases h'
  exact he rfl
end Go.Proofs.YtfjghemojnhmbaaGreat
/- Rows of bytes, and files, that stay such whoever writes a byte. -/
namespace Go.Proofs.YtfjghemojnhmbaaGreat
open Go.RowKit

def IsByte (v : Value) : Prop := ∃ n : Int, v = .int .u8 n ∧ 0 ≤ n ∧ n < 256
theorem IsByte.zero : IsByte (.int .u8 0) := ⟨0, rfl, by decide, by decide⟩
theorem IsByte.one {v : Value} (h : IsByte v) : v.oneCell' = true := by obtain ⟨n, rfl, _⟩ := h; rfl

/-- What was a byte is a byte. -/
def KB (w w' : World) : Prop := ∀ k cur, Blk w k 5 cur → ∃ cur', Blk w' k 5 cur' ∧ cur'.size = cur.size ∧ ∀ (j : Nat) (x : Value), cur[j]? = some x → IsByte x → ∃ y, cur'[j]? = some y ∧ IsByte y
theorem KB.refl (w : World) : KB w w := fun _ cur h => ⟨cur, h, rfl, fun _ x hx hb => ⟨x, hx, hb⟩⟩
theorem KB.trans {a b c : World} (h : KB a b) (k : KB b c) : KB a c := by
  intro i cur hb
  obtain ⟨c1, h1, h2, h3⟩ := h i cur hb
  obtain ⟨c2, g1, g2, g3⟩ := k i c1 h1
  exact ⟨c2, g1, g2.trans h2, fun j x hx hx' => by obtain ⟨y, hy, hy'⟩ := h3 j x hx hx'; exact g3 j y hy hy'⟩
theorem KB.of_below {w w' : World} (h : Below w.heap.size w w') : KB w w' := fun _ cur hb => ⟨cur, hb.below h, rfl, fun _ x hx hx' => ⟨x, hx, hx'⟩⟩
theorem KB.of_fr {S : Nat → Prop} {T : List TypeId} {w w' : World} (h : Fr S T w w') (h5 : 5 ∉ T) : KB w w' := fun _ cur hb => ⟨cur, hb.fr h h5, rfl, fun _ x hx hx' => ⟨x, hx, hx'⟩⟩
theorem KB.set (w : World) (f i : Nat) {v : Value} (hv : IsByte v) : KB w (w.setCell ⟨f, i, none⟩ v) := by
  intro k cur hb
  by_cases hk : f = k
  · subst hk
    refine ⟨_, hb.set i v, by simp, fun j x hx hx' => ?_⟩
    by_cases hj : i = j
    · subst hj
      refine ⟨v, ?_, hv⟩
      have := (Array.getElem?_eq_some_iff.1 hx).1
      simp [this]
    · exact ⟨x, by rw [Array.getElem?_setIfInBounds_ne hj]; exact hx, hx'⟩
  · exact ⟨cur, hb.other (by simpa using hk) v, rfl, fun _ x hx hx' => ⟨x, hx, hx'⟩⟩
theorem KB.other {w : World} {f i : Nat} {e : TypeId} {cs : Array Value} (h : Blk w f e cs) (he : e ≠ 5) (v : Value) : KB w (w.setCell ⟨f, i, none⟩ v) :=
  fun _ cur hb => ⟨cur, hb.other (by simpa using h.ne hb he) v, rfl, fun _ x hx hx' => ⟨x, hx, hx'⟩⟩

/-- A slice of bytes, in a block of the owner's. -/
def ByteV (S : Nat → Prop) (w : World) (v : Value) (n : Nat) : Prop := (v = .slice none 0 0 ∧ n = 0) ∨
  ∃ f o cap cur, v = .slice (some ⟨f, o, none⟩) n cap ∧ S f ∧ Blk w f 5 cur ∧ n ≤ cap ∧ cap ≤ maxLen ∧ o + cap ≤ cur.size ∧ ∀ j, j < n → ∃ x, cur[o + j]? = some x ∧ IsByte x
theorem ByteV.nil (S : Nat → Prop) (w : World) : ByteV S w (.slice none 0 0) 0 := .inl ⟨rfl, rfl⟩
theorem ByteV.kp {S S' : Nat → Prop} {w w' : World} {v : Value} {n : Nat} (h : ByteV S w v n) (k : KB w w') (hs : ∀ k, S k → S' k) : ByteV S' w' v n := by
  rcases h with h | ⟨f, o, cap, cur, h1, h2, h3, h4, h5, h6, h7⟩
  · exact .inl h
  · obtain ⟨c', g1, g2, g3⟩ := k f cur h3
    exact .inr ⟨f, o, cap, c', h1, hs f h2, g1, h4, h5, by omega, fun j hj => by obtain ⟨x, hx, hx'⟩ := h7 j hj; exact g3 _ x hx hx'⟩
/-- .. with what it holds. -/
theorem ByteV.win {S : Nat → Prop} {w : World} {v : Value} {n : Nat} (h : ByteV S w v n) : ∃ xs, Win w 0 5 1 v n xs ∧ (∀ x ∈ xs, IsByte x) ∧ ∀ k, v.ownBlock = some k → S k := by
  rcases h with ⟨rfl, rfl⟩ | ⟨f, o, cap, cur, rfl, h2, h3, h4, h5, h6, h7⟩
  · exact ⟨[], Win.nil _ _ _ _, by simp, fun k hk => by cases hk⟩
  · refine ⟨(cur.toList.drop o).take n, ⟨?_, .inr ⟨f, o, cap, cur, rfl, Nat.zero_le _, h3, h4, h5, by omega, fun j hj => ?_⟩⟩, ?_, fun k hk => by cases hk; exact h2⟩
    · simp; omega
    · rw [List.getElem?_take_of_lt (by omega), List.getElem?_drop]; simp
    · intro x hx
      obtain ⟨j, hj, e⟩ := List.getElem_of_mem hx
      simp at hj
      obtain ⟨y, hy, hy'⟩ := h7 j (by omega)
      have : ((cur.toList.drop o).take n)[j]? = some y := by
        rw [List.getElem?_take_of_lt (by omega), List.getElem?_drop]; simpa using hy
      rw [List.getElem?_eq_getElem (by simp; omega), e] at this
      cases this
      exact hy'
theorem ByteV.value {S : Nat → Prop} {w : World} {v : Value} {n : Nat} (h : ByteV S w v n) : ∃ a cap, v = .slice a n cap := by
  rcases h with ⟨rfl, rfl⟩ | ⟨f, o, cap, cur, rfl, _⟩
  · exact ⟨none, 0, rfl⟩
  · exact ⟨_, _, rfl⟩
/-- Its cells. -/
theorem ByteV.cell {S : Nat → Prop} {w : World} {v : Value} {n i : Nat} (h : ByteV S w v n) (hi : i < n) : ∃ f o cap b cur, v = .slice (some ⟨f, o, none⟩) n cap ∧ w.cell? ⟨f, o + i, none⟩ = some (.int .u8 b) ∧ 0 ≤ b ∧ b < 256 ∧ w.frozen? ⟨f, o + i, none⟩ = false ∧ S f ∧ Blk w f 5 cur := by
  rcases h with ⟨rfl, rfl⟩ | ⟨f, o, cap, cur, rfl, h2, h3, h4, h5, h6, h7⟩
  · omega
  · obtain ⟨x, hx, b, rfl, hb⟩ := h7 i hi
    exact ⟨f, o, cap, b, cur, rfl, (h3.cell _).trans hx, hb.1, hb.2, h3.free _, h2, h3⟩

/-- A file: bytes and which blocks it has. -/
def FileOk (S : Nat → Prop) (w : World) (f : Nat) : Prop := ∃ cur v n, Blk w f 195 cur ∧ S f ∧ cur.size = 65 ∧ cur[0]? = some v ∧ ByteV S w v n ∧ n ≤ 1024 ∧ ∀ j, 1 ≤ j → j < 65 → ∃ b, cur[j]? = some (.bool b)
/-- Bytes stay bytes, files stay files. -/
def KF (S S' : Nat → Prop) (w w' : World) : Prop := KB w w' ∧ ∀ f, FileOk S w f → FileOk S' w' f
theorem KF.refl (S : Nat → Prop) (w : World) : KF S S w w := ⟨KB.refl w, fun _ h => h⟩
theorem KF.trans {S S' S'' : Nat → Prop} {a b c : World} (h : KF S S' a b) (k : KF S' S'' b c) : KF S S'' a c := ⟨h.1.trans k.1, fun f hf => k.2 f (h.2 f hf)⟩
theorem FileOk.kb {S S' : Nat → Prop} {w w' : World} {f : Nat} (h : FileOk S w f) (k : KB w w') (hs : ∀ k, S k → S' k) (hk : ∀ cur, Blk w f 195 cur → Blk w' f 195 cur) : FileOk S' w' f := by
  obtain ⟨cur, v, n, h1, h2, h3, h4, h5, h6⟩ := h
  exact ⟨cur, v, n, hk cur h1, hs f h2, h3, h4, h5.kp k hs, h6⟩
theorem KF.of_below {S S' : Nat → Prop} {w w' : World} (h : Below w.heap.size w w') (hs : ∀ k, S k → S' k) : KF S S' w w' :=
  ⟨KB.of_below h, fun _ hf => hf.kb (KB.of_below h) hs fun _ hb => hb.below h⟩
theorem KF.of_fr {S S' : Nat → Prop} {T : List TypeId} {w w' : World} (h : Fr S T w w') (h5 : 5 ∉ T) (h195 : 195 ∉ T) (hs : ∀ k, S k → S' k) : KF S S' w w' :=
  ⟨KB.of_fr h h5, fun _ hf => hf.kb (KB.of_fr h h5) hs fun _ hb => hb.fr h h195⟩
theorem KF.byte (S : Nat → Prop) {w : World} {f i : Nat} {cs : Array Value} (h : Blk w f 5 cs) {v : Value} (hv : IsByte v) : KF S S w (w.setCell ⟨f, i, none⟩ v) :=
  ⟨KB.set w f i hv, fun _ hf => hf.kb (KB.set w f i hv) (fun _ h => h) fun _ hb => hb.other (by simpa using h.ne hb (by decide)) v⟩
theorem KF.other (S : Nat → Prop) {w : World} {f i : Nat} {e : TypeId} {cs : Array Value} (h : Blk w f e cs) (h5 : e ≠ 5) (h195 : e ≠ 195) (v : Value) : KF S S w (w.setCell ⟨f, i, none⟩ v) :=
  ⟨KB.other h h5 v, fun _ hf => hf.kb (KB.other h h5 v) (fun _ h => h) fun _ hb => hb.other (by simpa using h.ne hb h195) v⟩
/-- A block of a file is taken or let go. -/
theorem KF.has (S : Nat → Prop) {w : World} {f i : Nat} {cs : Array Value} (h : Blk w f 195 cs) (hi : 1 ≤ i) (b : Bool) : KF S S w (w.setCell ⟨f, i, none⟩ (.bool b)) := by
  have kb := KB.other (i := i) h (by decide) (.bool b)
  refine ⟨kb, fun g hg => ?_⟩
  by_cases hgf : f = g
  · subst hgf
    obtain ⟨cur, v, n, h1, h2, h3, h4, h5, h6, h7⟩ := hg
    refine ⟨_, v, n, h1.set i (.bool b), h2, by simp [h3], by rw [Array.getElem?_setIfInBounds_ne (by omega)]; exact h4, h5.kp kb (fun _ h => h), h6, fun j hj1 hj2 => ?_⟩
    by_cases hij : i = j
    · subst hij; exact ⟨b, by simp [h3, hj2]⟩
    · rw [Array.getElem?_setIfInBounds_ne hij]; exact h7 j hj1 hj2
  · exact hg.kb kb (fun _ h => h) fun _ hb => hb.other (by simpa using hgf) _
/-- A file's bytes are others. -/
theorem KF.bytes (S : Nat → Prop) {w : World} {f : Nat} {cs : Array Value} (h : Blk w f 195 cs) {v : Value} {n : Nat} (hv : ByteV S w v n) (hn : n ≤ 1024) : KF S S w (w.setCell ⟨f, 0, none⟩ v) := by
  have kb := KB.other (i := 0) h (by decide) v
  refine ⟨kb, fun g hg => ?_⟩
  by_cases hgf : f = g
  · subst hgf
    obtain ⟨cur, v', n', h1, h2, h3, h4, h5, h6, h7⟩ := hg
    refine ⟨_, v, n, h1.set 0 v, h2, by simp [h3], by simp [h3], hv.kp kb (fun _ h => h), hn, fun j hj1 hj2 => ?_⟩
    rw [Array.getElem?_setIfInBounds_ne (by omega)]; exact h7 j hj1 hj2
  · exact hg.kb kb (fun _ h => h) fun _ hb => hb.other (by simpa using hgf) _
end Go.Proofs.YtfjghemojnhmbaaGreat
/- Append that says which cells have turned: the row's own next ones, or none that was there. -/
namespace Go.Proofs.YtfjghemojnhmbaaGreat
open Go.RowKit

/-- How memory stands behind an append: in the slice's own row, or in a new one. -/
def AppTo (w w' : World) (v : Value) (f : Nat) (news : List Value) : Prop := (v.ownBlock = some f ∧ ∃ p, w' = w.setCells f p news) ∨ (w.heap.size ≤ f ∧ Below w.heap.size w w')

theorem run_append_two {P : Program} (w : World) (base : Nat) (t ty e : TypeId) (i : TypeInfo) (z : Value) (size bytes : Nat) (ht : P.underlying t = some (.slice e)) (hi : P.info? e = some i) (hz : i.zero = some z)
    (hsize : i.size = size) (hby : i.bytes = bytes) (hzs : z.cells.size = size) (hsz : 0 < size) (v : Value) (n : Nat) (xs : List Value) (hown : Win w base e size v n xs)
    (ad : Addr) (m c : Nat) (news : List Value) (hl : news.length = m * size) (hnews : ∀ j u, news[j]? = some u → w.cell? (ad.add j) = some u) (h1 : ∀ u ∈ news, u.oneCell' = true)
    (hm : 0 < m) (h63 : n + m ≤ maxLen) (hbytes : (n + m) * bytes ≤ 140737488355328) (hbase : base ≤ w.heap.size) :
    ∃ f o cap w', (Builtin.append_ #[t, t] ty #[v, .slice (some ad) m c]).run P w = .ok (.slice (some ⟨f, o, none⟩) (n + m) cap) w' ∧ Win w' base e size (.slice (some ⟨f, o, none⟩) (n + m) cap) (n + m) (xs ++ news) ∧ AppTo w w' v f news := by
  subst hsize
  obtain ⟨hx, ⟨rfl, rfl⟩ | ⟨f, o, cap, cur, rfl, hf, hh, hnc, hcm, hcs, hat⟩⟩ := hown
  · obtain rfl : xs = [] := List.eq_nil_of_length_eq_zero (by simpa using hx)
    obtain ⟨v', w', hr, r1, r2, r3⟩ := run_append_own (P := P) w w.heap.size t ty e i z i.size bytes ht hi hz rfl hby hzs hsz (.slice none 0 0) 0 [] (World.ownsRow_nil _ _ _ _) ad m c news hl hnews h1 h63 hbytes (Nat.le_refl _)
    obtain ⟨_, q | ⟨g, cap, cur, q, hg, hgh, _⟩⟩ := id r1
    · omega
    · subst q
      exact ⟨g, 0, cap, w', hr, (Win.of_own r1).of_base hbase, .inr ⟨hg, ⟨r2.os, r2.tape, r2.output, r2.size, fun k hk => r2.block k hk (by simp [Value.ownBlock])⟩⟩⟩
  · by_cases hroom : n + m ≤ cap
    · have hcell : ∀ j, j < news.length → (w.cell? ⟨f, o + n * i.size + j, none⟩).isSome = true := by
        intro j hj
        have : n * i.size + m * i.size ≤ cap * i.size := by rw [← Nat.add_mul]; exact Nat.mul_le_mul_right _ hroom
        simp only [World.cell?, hh]
        simp; omega
      have hfr : ∀ j, j < news.length → w.frozen? ⟨f, o + n * i.size + j, none⟩ = false := fun j _ => by simp [World.frozen?, hh]
      have hr := run_append_room_cells (P := P) w t ty e i ht hi f o n cap ad m c news hl hnews h1 hroom hcell hfr
      refine ⟨f, o, cap, _, hr, ⟨by rw [List.length_append, hx, hl, Nat.add_mul], .inr ?_⟩, .inl ⟨rfl, _, rfl⟩⟩
      obtain ⟨cur', q1, q2, q3, q4⟩ := setCells_heap f e news (o + n * i.size) w cur hh
      refine ⟨f, o, cap, cur', rfl, hf, q1, hroom, hcm, by omega, fun j hj => ?_⟩
      have hle : (n + m) * i.size ≤ cap * i.size := Nat.mul_le_mul_right _ hroom
      rw [Nat.add_mul] at hj hle
      by_cases hjn : j < n * i.size
      · rw [q3 _ (by omega), hat j hjn, List.getElem?_append_left (by omega)]
      · have := q4 (j - n * i.size) (by omega) (by omega)
        rw [show o + n * i.size + (j - n * i.size) = o + j from by omega] at this
        rw [this, List.getElem?_append_right (by omega), hx]
    · have holds : ∀ j u, xs[j]? = some u → w.cell? ((⟨f, o, none⟩ : Addr).add j) = some u := by
        intro j u hj
        have hjl : j < n * i.size := by rw [← hx]; exact (List.getElem?_eq_some_iff.1 hj).1
        have e1 : (⟨f, o, none⟩ : Addr).add j = ⟨f, o + j, none⟩ := by unfold Addr.add; split <;> simp_all
        rw [e1]
        simp only [World.cell?, hh]
        exact (hat j hjl).trans hj
      obtain ⟨v', w', hr, r1, r2⟩ := run_append_arg_grows (P := P) w t ty e i z i.size bytes ht hi hz rfl hby hzs hsz ⟨f, o, none⟩ n cap xs hx holds ad m c news hl hnews (by omega) h63 hbytes
      obtain ⟨_, q | ⟨g, cap', cur', q, hg, _⟩⟩ := id r1
      · omega
      · subst q
        exact ⟨g, 0, cap', w', hr, (Win.of_own r1).of_base hbase, .inr ⟨hg, ⟨r2.os, r2.tape, r2.output, r2.size, fun k hk => r2.block k hk (by simp)⟩⟩⟩

section
variable {P : Program} (w : World) {ops : Array Oper} {rest : List Oper} {o : Oper} {a : Act} {K : Act → World → Prop} {Q : Exit → Act → World → Prop} {E : Prop}
theorem wp_append_two (s x : Operand) (t : TypeId) (ho : o.op = .call { callee := .builtin .append, args := #[s, x], argTypes := #[t, t] })
    (base : Nat) (e : TypeId) (i : TypeInfo) (z : Value) (size bytes : Nat) (ht : P.underlying t = some (.slice e)) (hi : P.info? e = some i) (hz : i.zero = some z) (hsize : i.size = size) (hby : i.bytes = bytes) (hzs : z.cells.size = size) (hsz : 0 < size)
    (v : Value) (n : Nat) (xs : List Value) (hs : a.eval s = v) (hown : Win w base e size v n xs)
    (ad : Addr) (m c : Nat) (news : List Value) (hx : a.eval x = .slice (some ad) m c) (hl : news.length = m * size) (hnews : ∀ j u, news[j]? = some u → w.cell? (ad.add j) = some u) (h1 : ∀ u ∈ news, u.oneCell' = true)
    (hm : 0 < m) (h63 : n + m ≤ maxLen) (hbytes : (n + m) * bytes ≤ 140737488355328) (hbase : base ≤ w.heap.size)
    (h : ∀ f o' cap w', Win w' base e size (.slice (some ⟨f, o', none⟩) (n + m) cap) (n + m) (xs ++ news) → AppTo w w' v f news → K (a.put o.dst (.slice (some ⟨f, o', none⟩) (n + m) cap)) w') : o.wp P a w K Q := by
  obtain ⟨f, o', cap, w', hr, h2, h3⟩ := run_append_two (P := P) w base t o.type e i z size bytes ht hi hz hsize hby hzs hsz v n xs hown ad m c news hl hnews h1 hm h63 hbytes hbase
  unfold Oper.wp execOp
  simp only [ho, resolve, invoke, builtin, Sem.run_bind, Sem.run_pure, Result.andThen_ok, List.map_toArray, List.map_cons, List.map_nil, hs, hx, hr]
  exact h f o' cap w' h2 h3
theorem wpList_append_two (hgd : o.guard = none) (s x : Operand) (t : TypeId) (ho : o.op = .call { callee := .builtin .append, args := #[s, x], argTypes := #[t, t] })
    (base : Nat) (e : TypeId) (i : TypeInfo) (z : Value) (size bytes : Nat) (ht : P.underlying t = some (.slice e)) (hi : P.info? e = some i) (hz : i.zero = some z) (hsize : i.size = size) (hby : i.bytes = bytes) (hzs : z.cells.size = size) (hsz : 0 < size)
    (v : Value) (n : Nat) (xs : List Value) (hs : a.eval s = v) (hown : Win w base e size v n xs)
    (ad : Addr) (m c : Nat) (news : List Value) (hx : a.eval x = .slice (some ad) m c) (hl : news.length = m * size) (hnews : ∀ j u, news[j]? = some u → w.cell? (ad.add j) = some u) (h1 : ∀ u ∈ news, u.oneCell' = true)
    (hm : 0 < m) (h63 : n + m ≤ maxLen) (hbytes : (n + m) * bytes ≤ 140737488355328) (hbase : base ≤ w.heap.size)
    (h : ∀ f o' cap w', Win w' base e size (.slice (some ⟨f, o', none⟩) (n + m) cap) (n + m) (xs ++ news) → AppTo w w' v f news → wpList P ops Q rest (a.put o.dst (.slice (some ⟨f, o', none⟩) (n + m) cap)) w') : wpList P ops Q (o :: rest) a w :=
  wpList_plain hgd fun _ hK => wp_append_two w s x t ho base e i z size bytes ht hi hz hsize hby hzs hsz v n xs hs hown ad m c news hx hl hnews h1 hm h63 hbytes hbase fun f o' cap w' h2 h3 => hK _ _ (h f o' cap w' h2 h3)
theorem step_append_two (hgd : o.guard = none) (s x : Operand) (t : TypeId) (ho : o.op = .call { callee := .builtin .append, args := #[s, x], argTypes := #[t, t] })
    (base : Nat) (e : TypeId) (i : TypeInfo) (z : Value) (size bytes : Nat) (ht : P.underlying t = some (.slice e)) (hi : P.info? e = some i) (hz : i.zero = some z) (hsize : i.size = size) (hby : i.bytes = bytes) (hzs : z.cells.size = size) (hsz : 0 < size)
    (v : Value) (n : Nat) (xs : List Value) (hs : a.eval s = v) (hown : Win w base e size v n xs)
    (ad : Addr) (m c : Nat) (news : List Value) (hx : a.eval x = .slice (some ad) m c) (hl : news.length = m * size) (hnews : ∀ j u, news[j]? = some u → w.cell? (ad.add j) = some u) (h1 : ∀ u ∈ news, u.oneCell' = true)
    (hm : 0 < m) (h63 : n + m ≤ maxLen) (hbytes : (n + m) * bytes ≤ 140737488355328) (hbase : base ≤ w.heap.size)
    (h : ∀ f o' cap w', Win w' base e size (.slice (some ⟨f, o', none⟩) (n + m) cap) (n + m) (xs ++ news) → AppTo w w' v f news → K (a.put o.dst (.slice (some ⟨f, o', none⟩) (n + m) cap)) w') :
    if Region.wanted o (yielded ops a.tmps) = true then Oper.wp P o a w K Q else E := by
  have hw : Region.wanted o (yielded ops a.tmps) = true := by simp [Region.wanted, hgd]
  rw [if_pos hw]
  exact wp_append_two w s x t ho base e i z size bytes ht hi hz hsize hby hzs hsz v n xs hs hown ad m c news hx hl hnews h1 hm h63 hbytes hbase h
end

/-- A whole run of cells set, in one block. -/
theorem Fr.setCells {S : Nat → Prop} {T : List TypeId} {e : TypeId} (he : e ∈ T) : ∀ (news : List Value) (f p : Nat) (w : World) (cur : Array Value), w.heap[f]? = some (.cells cur e (0, 0)) → S f → Fr S T w (w.setCells f p news)
  | [], _, _, w, _, _, _ => Fr.refl S T w
  | v :: r, f, p, w, cur, h, hs => by
    have h0 : Blk (w.setCell ⟨f, p, none⟩ v) f e (cur.setIfInBounds p v) := Blk.set h p v
    exact (Fr.one h hs he v).trans (Fr.setCells he r f (p + 1) _ _ h0 hs) fun _ hi => .inl hi
theorem KF.setBytes (S : Nat → Prop) : ∀ (news : List Value) (f p : Nat) (w : World) (cur : Array Value), Blk w f 5 cur → (∀ u ∈ news, IsByte u) → KF S S w (w.setCells f p news)
  | [], _, _, w, _, _, _ => KF.refl S w
  | v :: r, f, p, w, cur, h, hb => (KF.byte S h (hb v (by simp))).trans (KF.setBytes S r f (p + 1) _ _ (h.set p v) fun u hu => hb u (by simp [hu]))
theorem KF.setOther (S : Nat → Prop) {e : TypeId} (h5 : e ≠ 5) (h195 : e ≠ 195) : ∀ (news : List Value) (f p : Nat) (w : World) (cur : Array Value), Blk w f e cur → KF S S w (w.setCells f p news)
  | [], _, _, w, _, _ => KF.refl S w
  | v :: r, f, p, _w, _cur, h => (KF.other S h h5 h195 v).trans (KF.setOther S h5 h195 r f (p + 1) _ _ (h.set p v))
end Go.Proofs.YtfjghemojnhmbaaGreat
