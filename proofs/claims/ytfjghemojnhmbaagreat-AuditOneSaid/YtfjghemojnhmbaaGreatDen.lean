/- What a slice of bytes or strings holds, wherever it lies; calls, results, events and operations as plain data. -/
import Derived.Laws.BytesArg
import Derived.Lib.SliceRun
import Derived.Laws.OwnMore
import Derived.Test.YtfjghemojnhmbaaGreatWkE
namespace Go.Proofs.YtfjghemojnhmbaaGreat
open Go.RowKit

/-- The slice v holds the one-cell values vs; an element takes so many bytes. -/
def Den (by_ : Nat) (w : World) (v : Value) (vs : List Value) : Prop :=
  ∃ p n c, v = .slice p n c ∧ vs.length = n ∧ n ≤ c ∧ c ≤ maxLen ∧ n * by_ ≤ 140737488351232 ∧ (p = none → n = 0 ∧ c = 0) ∧
    (0 < n → ∃ b o, p = some ⟨b, o, none⟩ ∧ b < w.heap.size ∧ ∀ i, i < n → w.cell? ⟨b, o + i, none⟩ = vs[i]?)
/-- No element of v lies in the block B. -/
def Off (v : Value) (B : Nat) : Prop := ∀ a n c, v = .slice (some a) (n + 1) c → a.block ≠ B
/-- The elements of v, if it has any, lie at or beyond B. -/
def From (B : Nat) (v : Value) : Prop := ∀ a n c, v = .slice (some a) (n + 1) c → B ≤ a.block

theorem From.off {B k : Nat} {v : Value} (h : From B v) (hk : k < B) : Off v k := fun a n c e => by have := h a n c e; omega
theorem Den.off {by_ : Nat} {w : World} {v : Value} {vs : List Value} (h : Den by_ w v vs) {B : Nat} (hB : w.heap.size ≤ B) : Off v B := by
  rintro a n c rfl
  obtain ⟨p, m, d, e, _, _, _, _, _, hat⟩ := h
  cases e
  obtain ⟨b, o, e, hb, _⟩ := hat (by omega)
  cases e
  show b ≠ B
  omega
theorem Den.frm {by_ : Nat} {w w' : World} {v : Value} {vs : List Value} {l : List Nat} (h : Den by_ w v vs) (hf : Frm l w w') (ho : ∀ k ∈ l, Off v k) : Den by_ w' v vs := by
  obtain ⟨p, n, c, rfl, h1, h2, h3, h4, h5, hat⟩ := h
  refine ⟨p, n, c, rfl, h1, h2, h3, h4, h5, fun hn => ?_⟩
  obtain ⟨b, o, rfl, hb, hc⟩ := hat hn
  obtain ⟨m, rfl⟩ : ∃ m, n = m + 1 := ⟨n - 1, by omega⟩
  have hb' : b ∉ l := fun hm => ho b hm _ _ _ rfl rfl
  exact ⟨b, o, rfl, Nat.lt_of_lt_of_le hb hf.size, fun i hi => (World.cell?_of_block (a := ⟨b, o + i, none⟩) (hf.block b hb hb')).trans (hc i hi)⟩
theorem Den.below {by_ : Nat} {w w' : World} {v : Value} {vs : List Value} (h : Den by_ w v vs) (hb : Below w.heap.size w w') : Den by_ w' v vs := h.frm (l := []) (.of_below hb) (by simp)
theorem Den.nil (by_ : Nat) (w : World) : Den by_ w (.slice none 0 0) [] := ⟨none, 0, 0, rfl, rfl, Nat.le_refl _, by unfold maxLen; omega, by omega, fun _ => ⟨rfl, rfl⟩, fun h => absurd h (by omega)⟩
theorem Den.value {by_ : Nat} {w : World} {v : Value} {vs : List Value} (h : Den by_ w v vs) : ∃ p c, v = .slice p vs.length c := by
  obtain ⟨p, n, c, rfl, rfl, _⟩ := h
  exact ⟨p, c, rfl⟩
theorem Den.at {by_ : Nat} {w : World} {p : Option Addr} {n c : Nat} {vs : List Value} (h : Den by_ w (.slice p n c) vs) (hn : 0 < n) : ∃ b o, p = some ⟨b, o, none⟩ ∧ ∀ i, i < n → w.cell? ⟨b, o + i, none⟩ = vs[i]? := by
  obtain ⟨p', n', c', e, h1, _, _, _, _, hat⟩ := h
  cases e
  obtain ⟨b, o, e, _, hc⟩ := hat hn
  exact ⟨b, o, e, hc⟩
theorem Den.len {by_ : Nat} {w : World} {p : Option Addr} {n c : Nat} {vs : List Value} (h : Den by_ w (.slice p n c) vs) : vs.length = n := by
  obtain ⟨p', n', c', e, h1, _⟩ := h
  cases e
  exact h1
theorem Den.most {by_ : Nat} {w : World} {p : Option Addr} {n c : Nat} {vs : List Value} (h : Den by_ w (.slice p n c) vs) : n * by_ ≤ 140737488351232 ∧ n ≤ maxLen := by
  obtain ⟨p', n', c', e, h1, h2, h3, h4, _⟩ := h
  cases e
  exact ⟨h4, by omega⟩

def byts (xs : List Int) : List Value := xs.map (.int .u8)
/-- 'string(b)'. -/
theorem Den.convert {by_ : Nat} {w : World} {p : Option Addr} {n c : Nat} {xs : List Int} (h : Den by_ w (.slice p n c) (byts xs)) {P : Program} (src e : TypeId) (hs : P.underlying src = some (.slice e)) (he : P.underlying e = some (.int .u8)) (dst : TypeId) (hd : P.underlying dst = some .string) :
    (Go.convert src dst (.slice p n c)).run P w = .ok (.string (strOfNums xs)) w := by
  have hl := h.len
  rw [byts, List.length_map] at hl
  rcases Nat.eq_zero_or_pos n with hn | hn
  · subst hn
    obtain rfl : xs = [] := List.eq_nil_of_length_eq_zero hl
    rw [run_convert_bytes_string w src dst e p 0 c hs he hd]
    cases p with
    | none => simp [Conv.bytesToString, strOfNums]; rfl
    | some a =>
      have := run_bytesToString (P := P) w a 0 c [] (by simpa using run_loadCells_list (P := P) w a [] (by simp))
      rw [this]
      rfl
  · obtain ⟨b, o, rfl, hc⟩ := h.at hn
    refine run_convert_bytes_arg (P := P) w src e hs he b o n c xs hl (fun i hi => ?_) dst hd
    rw [hc i hi]
    simp [byts, List.getD_eq_getElem?_getD, List.getElem?_eq_getElem (show i < xs.length by omega)]

structure Cal where
  (c0 c3 c4 c5 c6 c7 : Int) (c1 c2 : ByteArray) (ds : List Int)
structure Res where
  (w n s0 s1 s2 s3 s4 s5 s6 : Int) (ds : List Int) (ss : List ByteArray)
structure Ev where
  (k t : Int) (c : Cal) (r : Res)
structure OpI where
  (t f o : Int) (c : Cal) (r : Res)
def Res.zero : Res := ⟨0, 0, 0, 0, 0, 0, 0, 0, 0, [], []⟩
def Cal.cells (c : Cal) (x : Value) : List Value := [.int .i64 c.c0, .string c.c1, .string c.c2, .int .i64 c.c3, .int .i64 c.c4, .int .i64 c.c5, .int .i64 c.c6, .int .i64 c.c7, x]
def Res.cells (r : Res) (y z : Value) : List Value := [.int .i64 r.w, .int .i64 r.n, y, z, .int .i64 r.s0, .int .i64 r.s1, .int .i64 r.s2, .int .i64 r.s3, .int .i64 r.s4, .int .i64 r.s5, .int .i64 r.s6]
def Ev.cells (e : Ev) (x y z : Value) : List Value := [.int .i64 e.k, .int .i64 e.t, .int .i64 e.c.c0, .string e.c.c1, .string e.c.c2, .int .i64 e.c.c3, .int .i64 e.c.c4, .int .i64 e.c.c5, .int .i64 e.c.c6, .int .i64 e.c.c7, x,
  .int .i64 e.r.w, .int .i64 e.r.n, y, z, .int .i64 e.r.s0, .int .i64 e.r.s1, .int .i64 e.r.s2, .int .i64 e.r.s3, .int .i64 e.r.s4, .int .i64 e.r.s5, .int .i64 e.r.s6]
def OpI.cells (e : OpI) (x y z : Value) : List Value := [.int .i64 e.t, .int .i64 e.c.c0, .string e.c.c1, .string e.c.c2, .int .i64 e.c.c3, .int .i64 e.c.c4, .int .i64 e.c.c5, .int .i64 e.c.c6, .int .i64 e.c.c7, x,
  .int .i64 e.r.w, .int .i64 e.r.n, y, z, .int .i64 e.r.s0, .int .i64 e.r.s1, .int .i64 e.r.s2, .int .i64 e.r.s3, .int .i64 e.r.s4, .int .i64 e.r.s5, .int .i64 e.r.s6, .int .i64 e.f, .int .i64 e.o]

/-- The three slices of an event, or of an operation. -/
def Tri (w : World) (c : Cal) (r : Res) (x y z : Value) : Prop := Den 1 w x (byts c.ds) ∧ Den 1 w y (byts r.ds) ∧ Den 16 w z (strs r.ss)
theorem Tri.frm {w w' : World} {c : Cal} {r : Res} {x y z : Value} {l : List Nat} (h : Tri w c r x y z) (hf : Frm l w w') (ho : ∀ k ∈ l, Off x k ∧ Off y k ∧ Off z k) : Tri w' c r x y z :=
  ⟨h.1.frm hf (fun k hk => (ho k hk).1), h.2.1.frm hf (fun k hk => (ho k hk).2.1), h.2.2.frm hf (fun k hk => (ho k hk).2.2)⟩
theorem Tri.below {w w' : World} {c : Cal} {r : Res} {x y z : Value} (h : Tri w c r x y z) (hb : Below w.heap.size w w') : Tri w' c r x y z := ⟨h.1.below hb, h.2.1.below hb, h.2.2.below hb⟩

/-- The events that came in. -/
def Evs (w : World) (a : Option Addr) (E : List Ev) : Prop :=
  E.length = 0 ∨ ∃ b off, a = some ⟨b, off, none⟩ ∧ b < w.heap.size ∧ ∀ (i : Nat) (e : Ev), E[i]? = some e → ∃ x y z : Value, Tri w e.c e.r x y z ∧ w.rangeAt b (off + i * 22) (e.cells x y z)
theorem Evs.below {w w' : World} {a : Option Addr} {E : List Ev} (h : Evs w a E) (hb : Below w.heap.size w w') : Evs w' a E := by
  rcases h with h | ⟨b, off, rfl, hlt, hat⟩
  · exact .inl h
  · refine .inr ⟨b, off, rfl, Nat.lt_of_lt_of_le hlt hb.size, fun i e he => ?_⟩
    obtain ⟨x, y, z, ht, hc⟩ := hat i e he
    exact ⟨x, y, z, ht.below hb, fun j v hj => (hb.cell (p := ⟨b, off + i * 22 + j, none⟩) hlt).trans (hc j v hj)⟩

/-- The rows of a slice of operations; their slices lie neither in its block nor in the block bo. -/
def OutsR (w : World) (base bo : Nat) (ty : TypeId) (v : Value) (l : List OpI) (rows : List (List Value)) : Prop :=
  rows.length = l.length ∧ Win w base ty 23 v l.length rows.flatten ∧
    ∀ (k : Nat) (o : OpI) (row : List Value), l[k]? = some o → rows[k]? = some row → ∃ x y z : Value, row = o.cells x y z ∧ Tri w o.c o.r x y z ∧ ∀ B, B = bo ∨ v.ownBlock = some B → Off x B ∧ Off y B ∧ Off z B
def Outs (w : World) (base bo : Nat) (ty : TypeId) (v : Value) (l : List OpI) : Prop := ∃ rows, OutsR w base bo ty v l rows
theorem Outs.nil (w : World) (base bo : Nat) (ty : TypeId) : Outs w base bo ty (.slice none 0 0) [] := ⟨[], rfl, Win.nil _ _ _ _, by simp⟩
theorem Outs.frm {w w' : World} {base bo : Nat} {ty : TypeId} {v : Value} {l : List OpI} {L : List Nat} (h : Outs w base bo ty v l) (hf : Frm L w w') (hn : ∀ k ∈ L, k = bo ∧ v.ownBlock ≠ some k) : Outs w' base bo ty v l := by
  obtain ⟨rows, h1, h2, h3⟩ := h
  refine ⟨rows, h1, h2.frm hf (fun k hk => (hn k hk).2), fun k o row h4 h5 => ?_⟩
  obtain ⟨x, y, z, e, t, q⟩ := h3 k o row h4 h5
  exact ⟨x, y, z, e, t.frm hf (fun k hk => q k (.inl (hn k hk).1)), q⟩
theorem Outs.below {w w' : World} {base bo : Nat} {ty : TypeId} {v : Value} {l : List OpI} (h : Outs w base bo ty v l) (hb : Below w.heap.size w w') : Outs w' base bo ty v l :=
  h.frm (L := []) (.of_below hb) (by simp)
theorem OutsR.below {w w' : World} {base bo : Nat} {ty : TypeId} {v : Value} {l : List OpI} {rows : List (List Value)} (h : OutsR w base bo ty v l rows) (hb : Below w.heap.size w w') : OutsR w' base bo ty v l rows := by
  obtain ⟨h1, h2, h3⟩ := h
  refine ⟨h1, h2.below hb, fun k o row h4 h5 => ?_⟩
  obtain ⟨x, y, z, e, t, q⟩ := h3 k o row h4 h5
  exact ⟨x, y, z, e, t.below hb, q⟩
theorem Outs.value {w : World} {base bo : Nat} {ty : TypeId} {v : Value} {l : List OpI} (h : Outs w base bo ty v l) : ∃ a cap, v = .slice a l.length cap := by
  obtain ⟨_, _, h2, _⟩ := h
  exact h2.value
theorem Outs.lt {w : World} {base bo : Nat} {ty : TypeId} {v : Value} {l : List OpI} (h : Outs w base bo ty v l) : ∀ k, v.ownBlock = some k → base ≤ k ∧ k < w.heap.size := by
  obtain ⟨_, _, h2, _⟩ := h
  exact h2.lt

theorem flatten_get {α : Type} (m : Nat) : ∀ (L : List (List α)) (k j : Nat) (row : List α), (∀ r ∈ L, r.length = m) → L[k]? = some row → j < m → L.flatten[k * m + j]? = row[j]?
  | [], k, j, row, _, h, _ => by simp at h
  | r :: L, 0, j, row, hm, h, hj => by
    simp at h
    subst h
    have := hm r (by simp)
    rw [List.flatten_cons, Nat.zero_mul, Nat.zero_add, List.getElem?_append_left (by omega)]
  | r :: L, k + 1, j, row, hm, h, hj => by
    have h0 := hm r (by simp)
    rw [List.flatten_cons, List.getElem?_append_right (by rw [h0, Nat.succ_mul]; omega), h0, show (k + 1) * m + j - m = k * m + j from by rw [Nat.succ_mul]; omega]
    exact flatten_get m L k j row (fun r hr => hm r (by simp [hr])) (by simpa using h) hj
theorem flatten_set {α : Type} (m : Nat) (u : α) : ∀ (L : List (List α)) (k j : Nat) (row : List α), (∀ r ∈ L, r.length = m) → L[k]? = some row → j < m → L.flatten.set (k * m + j) u = (L.set k (row.set j u)).flatten
  | [], k, j, row, _, h, _ => by simp at h
  | r :: L, 0, j, row, hm, h, hj => by
    simp at h
    subst h
    have := hm r (by simp)
    rw [List.flatten_cons, Nat.zero_mul, Nat.zero_add, List.set_append_left _ _ (by omega), List.set_cons_zero, List.flatten_cons]
  | r :: L, k + 1, j, row, hm, h, hj => by
    have h0 := hm r (by simp)
    rw [List.flatten_cons, List.set_append_right _ _ (by rw [h0, Nat.succ_mul]; omega), h0, show (k + 1) * m + j - m = k * m + j from by rw [Nat.succ_mul]; omega,
      flatten_set m u L k j row (fun r hr => hm r (by simp [hr])) (by simpa using h) hj, List.set_cons_succ, List.flatten_cons]

theorem OpI.cells_len (o : OpI) (x y z : Value) : (o.cells x y z).length = 23 := rfl
/-- The cells of row k. -/
theorem Outs.row {w : World} {base bo : Nat} {ty : TypeId} {f o cap n : Nat} {l : List OpI} (h : Outs w base bo ty (.slice (some ⟨f, o, none⟩) n cap) l) {k : Nat} {q : OpI} (hk : l[k]? = some q) :
    ∃ x y z, Tri w q.c q.r x y z ∧ (Off x f ∧ Off y f ∧ Off z f) ∧ w.rangeAt f (o + k * 23) (q.cells x y z) := by
  obtain ⟨rows, h1, h2, h3⟩ := h
  have hn : n = l.length := by have := h2.value; obtain ⟨a, c, e⟩ := this; cases e; rfl
  subst hn
  have hkl : k < l.length := (List.getElem?_eq_some_iff.1 hk).1
  have hr : rows[k]? = some rows[k] := List.getElem?_eq_getElem (by omega)
  obtain ⟨x, y, z, e, t, ho⟩ := h3 k q _ hk hr
  refine ⟨x, y, z, t, ho f (.inr rfl), fun j v hv => ?_⟩
  have hj : j < 23 := (List.getElem?_eq_some_iff.1 hv).1
  have hall : ∀ r ∈ rows, r.length = 23 := by
    intro r hm
    obtain ⟨i, hi, rfl⟩ := List.getElem_of_mem hm
    obtain ⟨_, _, _, e, _⟩ := h3 i (l[i]'(by omega)) _ (List.getElem?_eq_getElem _) (List.getElem?_eq_getElem hi)
    rw [e]; rfl
  rw [Nat.add_assoc, h2.cells (k * 23 + j) (by omega), flatten_get 23 rows k j _ hall hr hj, e, hv]
/-- A row is appended. -/
theorem OutsR.push {w w' : World} {base bo : Nat} {ty : TypeId} {v : Value} {f o cap : Nat} {l : List OpI} {rows : List (List Value)} (h : OutsR w base bo ty v l rows) {q : OpI} {x y z : Value} (ht : Tri w q.c q.r x y z)
    (hx : ∀ B, B = bo ∨ v.ownBlock = some B → Off x B ∧ Off y B ∧ Off z B) (hg : w.grownBy w' v.ownBlock) (hf : v.ownBlock = some f ∨ w.heap.size ≤ f)
    (hw' : Win w' base ty 23 (.slice (some ⟨f, o, none⟩) (l.length + 1) cap) (l.length + 1) (rows.flatten ++ q.cells x y z)) :
    Outs w' base bo ty (.slice (some ⟨f, o, none⟩) (l.length + 1) cap) (l ++ [q]) := by
  obtain ⟨h1, h2, h3⟩ := h
  have F : Frm (v.ownBlock.toList) w w' := Frm.of_grown hg (fun k hk _ => by simp [hk])
  refine ⟨rows ++ [q.cells x y z], by simp [h1], by simpa using hw', fun k r row hk hr => ?_⟩
  have fin : ∀ {c : Cal} {r : Res} {x y z : Value}, Tri w c r x y z → (∀ B, B = bo ∨ v.ownBlock = some B → Off x B ∧ Off y B ∧ Off z B) → Tri w' c r x y z ∧ ∀ B, B = bo ∨ (Value.slice (some (⟨f, o, none⟩ : Addr)) (l.length + 1) cap).ownBlock = some B → Off x B ∧ Off y B ∧ Off z B := by
    intro c r x y z t ho
    refine ⟨t.frm F (fun k hk => ho k (.inr (by simpa using hk))), fun B hB => ?_⟩
    rcases hB with hB | hB
    · exact ho B (.inl hB)
    obtain rfl : f = B := by simpa [Value.ownBlock] using hB
    rcases hf with hf | hf
    · exact ho f (.inr hf)
    · exact ⟨t.1.off hf, t.2.1.off hf, t.2.2.off hf⟩
  by_cases hkl : k < l.length
  · rw [List.getElem?_append_left hkl] at hk
    rw [List.getElem?_append_left (by omega)] at hr
    obtain ⟨x, y, z, e, t, ho⟩ := h3 k r row hk hr
    exact ⟨x, y, z, e, fin t ho⟩
  · have hlt := (List.getElem?_eq_some_iff.1 hk).1
    simp at hlt
    obtain rfl : k = l.length := by omega
    rw [List.getElem?_append_right (by omega)] at hk hr
    simp at hk
    simp [h1] at hr
    subst hk hr
    exact ⟨x, y, z, rfl, fin ht hx⟩
end Go.Proofs.YtfjghemojnhmbaaGreat
/- Clones of slices of bytes and of strings; a result's copy. -/
namespace Go.Proofs.YtfjghemojnhmbaaGreat
open Go.RowKit

theorem nil26 (w : World) (a : Option Addr) (n c n' c' : Nat) : (binOp .eql 35 (.slice a n c) (.slice none n' c')).run Tryz.prog w = .ok (.bool a.isNone) w := Lib.run_eql_slice_nil w _ _ a n c n' c' Tryz.underlying35
theorem nil29 (w : World) (a : Option Addr) (n c n' c' : Nat) : (binOp .eql 36 (.slice a n c) (.slice none n' c')).run Tryz.prog w = .ok (.bool a.isNone) w := Lib.run_eql_slice_nil w _ _ a n c n' c' Tryz.underlying36

theorem own_den {w : World} {base : Nat} {e : TypeId} {v : Value} {n by_ : Nat} {vs : List Value} (h : w.ownsRow base e 1 v n vs) (hb : n * by_ ≤ 140737488351232) : Den by_ w v vs ∧ From base v := by
  have hc := @World.ownsRow.cells _ _ _ _ _ _ _ h
  obtain ⟨hx, ⟨rfl, rfl⟩ | ⟨g, cap, cur, rfl, hf, hh, hnc, hcm, hcs, hat⟩⟩ := h
  · obtain rfl : vs = [] := List.eq_nil_of_length_eq_zero (by simpa using hx)
    exact ⟨Den.nil _ _, fun a n c e => by cases e⟩
  · have hg : g < w.heap.size := by
      rcases Nat.lt_or_ge g w.heap.size with h | h
      · exact h
      · rw [Array.getElem?_eq_none h] at hh; cases hh
    refine ⟨⟨_, _, _, rfl, by omega, hnc, hcm, hb, by simp, fun hn => ⟨g, 0, rfl, hg, fun i hi => ?_⟩⟩, fun a n c e => by cases e; exact hf⟩
    have hiv : vs[i]? = some (vs[i]'(by omega)) := List.getElem?_eq_getElem (by omega)
    have := hc (g := g) rfl i _ hiv
    rw [hiv, ← this]
    simp only [Addr.add, Nat.zero_add]
    split <;> simp_all

theorem Den.news {by_ : Nat} {w : World} {ad : Addr} {n c : Nat} {vs : List Value} (h : Den by_ w (.slice (some ad) n c) vs) : ∀ j u, vs[j]? = some u → w.cell? (ad.add j) = some u := by
  intro j u hu
  have hl := h.len
  have hj : j < n := by rw [← hl]; exact (List.getElem?_eq_some_iff.1 hu).1
  obtain ⟨b, o, e, hc⟩ := h.at (by omega)
  cases e
  rw [← hu, ← hc j hj]
  unfold Addr.add
  split <;> simp_all
theorem byts_one (xs : List Int) : ∀ u ∈ byts xs, u.oneCell' = true := by
  intro u hu
  obtain ⟨x, _, rfl⟩ := List.mem_map.1 hu
  rfl
theorem strs_one (xs : List ByteArray) : ∀ u ∈ strs xs, u.oneCell' = true := by
  intro u hu
  obtain ⟨x, _, rfl⟩ := List.mem_map.1 hu
  rfl
theorem own_empty (w : World) (base : Nat) (e : TypeId) (hb : base ≤ w.heap.size) : (w.alloc (.cells #[] e)).ownsRow base e 1 (.slice (some ⟨w.heap.size, 0, none⟩) 0 0) 0 [] :=
  World.ownsRow_lit (size := 1) w #[] 0 hb (by unfold maxLen; omega) rfl

theorem clone_bytes {w : World} {v : Value} {xs : List Int} (h : Den 1 w v (byts xs)) : Calls Tryz.prog 32 #[v] w fun e w' => ∃ v', e = .returned v' ∧ Den 1 w' v' (byts xs) ∧ From w.heap.size v' ∧ Below w.heap.size w w' := by
  obtain ⟨ie, hi, hz0, hz1, hz2⟩ := info_parts info5
  obtain ⟨p, n, c, rfl, hl, hnc, hc, hby, hp, hat⟩ := id h
  have hm := h.most
  have q := nil26
  go_enter Tryz.func32, Tryz.ntmps32
  cases p with
  | none =>
    obtain ⟨rfl, rfl⟩ := hp rfl
    obtain ⟨p', n', c', e, hl', _⟩ := id h
    cases e
    rw [List.eq_nil_of_length_eq_zero hl'] at h ⊢
    go_wp2_with fail
    go_ret
    exact ⟨.slice none 0 0, rfl, h, (fun _ _ _ e => by cases e), Below.refl _ _⟩
  | some ad =>
    have hA : Den 1 (w.alloc (.cells #[] 5)) (.slice (some ad) n c) (byts xs) := h.below ((Below.refl _ _).alloc (Nat.le_refl _) _)
    have hO := own_empty w w.heap.size 5 (Nat.le_refl _)
    clear hat hp
    go_wp2_with (at_builtin; refine wpList_append_own _ rfl (.tmp 5) (.tmp 6) 35 rfl w.heap.size 5 ie _ 1 1 Tryz.underlying35 hi hz0 hz1 hz2 rfl (by decide) (.slice (some ⟨w.heap.size, 0, none⟩) 0 0) 0 [] rfl hO ad n c (byts xs) rfl (by rw [Nat.mul_one]; exact hA.len) hA.news (byts_one xs) (by omega) (by omega) (by simp) ?_; rintro v' w' hown hgrow _)
    go_ret
    obtain ⟨d1, d2⟩ := own_den (by_ := 1) hown (by omega)
    exact ⟨v', rfl, by simpa using d1, d2, (((Below.refl _ _).alloc (Nat.le_refl _) _).trans (Frm.below (l := [w.heap.size]) (Frm.of_grown hgrow (fun k hk _ => by simpa [Value.ownBlock, eq_comm] using hk)) (by simp) (by simp)))⟩
theorem clone_strs {w : World} {v : Value} {xs : List ByteArray} (h : Den 16 w v (strs xs)) : Calls Tryz.prog 57 #[v] w fun e w' => ∃ v', e = .returned v' ∧ Den 16 w' v' (strs xs) ∧ From w.heap.size v' ∧ Below w.heap.size w w' := by
  obtain ⟨ie, hi, hz0, hz1, hz2⟩ := info_parts info9
  obtain ⟨p, n, c, rfl, hl, hnc, hc, hby, hp, hat⟩ := id h
  have hm := h.most
  have q := nil29
  go_enter Tryz.func57, Tryz.ntmps57
  cases p with
  | none =>
    obtain ⟨rfl, rfl⟩ := hp rfl
    obtain ⟨p', n', c', e, hl', _⟩ := id h
    cases e
    rw [List.eq_nil_of_length_eq_zero hl'] at h ⊢
    go_wp2_with fail
    go_ret
    exact ⟨.slice none 0 0, rfl, h, (fun _ _ _ e => by cases e), Below.refl _ _⟩
  | some ad =>
    have hA : Den 16 (w.alloc (.cells #[] 9)) (.slice (some ad) n c) (strs xs) := h.below ((Below.refl _ _).alloc (Nat.le_refl _) _)
    have hO := own_empty w w.heap.size 9 (Nat.le_refl _)
    clear hat hp
    go_wp2_with (at_builtin; refine wpList_append_own _ rfl (.tmp 5) (.tmp 6) 36 rfl w.heap.size 9 ie _ 1 16 Tryz.underlying36 hi hz0 hz1 hz2 rfl (by decide) (.slice (some ⟨w.heap.size, 0, none⟩) 0 0) 0 [] rfl hO ad n c (strs xs) rfl (by rw [Nat.mul_one]; exact hA.len) hA.news (strs_one xs) (by omega) (by omega) (by simp) ?_; rintro v' w' hown hgrow _)
    go_ret
    obtain ⟨d1, d2⟩ := own_den (by_ := 16) hown (by omega)
    exact ⟨v', rfl, by simpa using d1, d2, (((Below.refl _ _).alloc (Nat.le_refl _) _).trans (Frm.below (l := [w.heap.size]) (Frm.of_grown hgrow (fun k hk _ => by simpa [Value.ownBlock, eq_comm] using hk)) (by simp) (by simp)))⟩
end Go.Proofs.YtfjghemojnhmbaaGreat
/- What events are read as: plain Lean. -/
namespace Go.Proofs.YtfjghemojnhmbaaGreat
open Go.RowKit

def updN (f : Nat → Nat) (t v : Nat) : Nat → Nat := fun x => if x = t then v else f x
structure St where
  l : List OpI
  op : Nat → Nat
def St.new : St := ⟨[], fun _ => 0⟩
def okE (s : St) (e : Ev) : Bool := decide ((e.k = 1 ∨ e.k = 2) ∧ 0 ≤ e.t ∧ e.t < 8 ∧ (e.k = 1 ↔ s.op e.t.toNat = 0))
def opened (e : Ev) (i : Nat) : OpI := ⟨e.t, i, -1, e.c, Res.zero⟩
def closed (o : OpI) (e : Ev) (i : Nat) : OpI := ⟨o.t, o.f, i, o.c, e.r⟩
def stepE (s : St) (i : Nat) (e : Ev) : St :=
  if e.k = 1 then ⟨s.l ++ [opened e i], updN s.op e.t.toNat (s.l.length + 1)⟩
  else ⟨s.l.modify (s.op e.t.toNat - 1) (closed · e i), updN s.op e.t.toNat 0⟩
def runE : List Ev → Nat → St → Except Nat St
  | [], _, s => .ok s
  | e :: r, i, s => if e.k = 3 then runE r (i + 1) s else if okE s e then runE r (i + 1) (stepE s i e) else .error i
def listOf : Except Nat St → List OpI
  | .ok s => s.l
  | .error _ => []
def whyOf : Except Nat St → Int
  | .ok _ => 0
  | .error _ => 12
def atOf : Except Nat St → Int
  | .ok _ => 0
  | .error i => i
def ops (E : List Ev) : Except Nat St := runE E 0 St.new

theorem runE_drop {E : List Ev} {i : Nat} {e : Ev} (h : E[i]? = some e) (s : St) : runE (E.drop i) i s = if e.k = 3 then runE (E.drop (i + 1)) (i + 1) s else if okE s e then runE (E.drop (i + 1)) (i + 1) (stepE s i e) else .error i := by
  obtain ⟨hi, he⟩ := List.getElem?_eq_some_iff.1 h
  rw [List.drop_eq_getElem_cons hi, he]
  rfl
theorem stepE_len (s : St) (i : Nat) (e : Ev) : (stepE s i e).l.length ≤ s.l.length + 1 := by
  unfold stepE
  split <;> simp
/-- What is open is there. -/
def St.fine (s : St) : Prop := ∀ t, s.op t ≤ s.l.length
theorem St.fine_new : St.new.fine := fun _ => Nat.le_refl _
theorem St.fine_step {s : St} (h : s.fine) (i : Nat) (e : Ev) : (stepE s i e).fine := by
  intro t
  have := h t
  unfold stepE
  split
  · simp only [updN, List.length_append, List.length_singleton]
    split <;> omega
  · simp only [updN, List.length_modify]
    split <;> omega
end Go.Proofs.YtfjghemojnhmbaaGreat
