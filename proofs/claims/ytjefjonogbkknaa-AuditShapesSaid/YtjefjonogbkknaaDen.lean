/- What a slice of bytes or strings holds, wherever it lies; calls, results, events and operations as plain data. -/
import Derived.Test.YtjefjonogbkknaaWin
import Derived.Laws.BytesArg
import Derived.Lib.SliceRun
import Derived.Deep.MidRow
import Derived.Lib.Hide
namespace Go.Proofs.Ytjefjonogbkknaa
open Go.RowKit

/-- The slice v holds the one-cell values vs; an element takes so many bytes. -/
def Den (by_ : Nat) (w : World) (v : Value) (vs : List Value) : Prop :=
  ∃ p n c, v = .slice p n c ∧ vs.length = n ∧ n ≤ c ∧ c ≤ maxLen ∧ n * by_ ≤ 140737488351232 ∧ (p = none → n = 0 ∧ c = 0) ∧
    (0 < n → ∃ b o, p = some ⟨b, o, none⟩ ∧ b < w.heap.size ∧ ∀ i, i < n → w.cell? ⟨b, o + i, none⟩ = vs[i]?)
/-- No element of v lies in the block B. -/
def Off (v : Value) (B : Nat) : Prop := ∀ a n c, v = .slice (some a) (n + 1) c → a.block ≠ B
/-- The elements of v, if it has any, lie at or beyond B. -/
def From (B : Nat) (v : Value) : Prop := ∀ a n c, v = .slice (some a) (n + 1) c → B ≤ a.block

theorem From.off {B k : Nat} {v : Value} (h : From B v) (hk : k < B) : Off v k := fun a n c e => by have := h a n c e; omega
theorem Den.off {by_ : Nat} {w : World} {v : Value} {vs : List Value} (h : Den by_ w v vs) {B : Nat} (hB : w.heap.size ≤ B) : Off v B := by
  rintro a n c rfl
  obtain ⟨p, m, d, e, _, _, _, _, _, hat⟩ := h
  cases e
  obtain ⟨b, o, e, hb, _⟩ := hat (by omega)
  cases e
  show b ≠ B
  omega
theorem Den.frm {by_ : Nat} {w w' : World} {v : Value} {vs : List Value} {l : List Nat} (h : Den by_ w v vs) (hf : Frm l w w') (ho : ∀ k ∈ l, Off v k) : Den by_ w' v vs := by
  obtain ⟨p, n, c, rfl, h1, h2, h3, h4, h5, hat⟩ := h
  refine ⟨p, n, c, rfl, h1, h2, h3, h4, h5, fun hn => ?_⟩
  obtain ⟨b, o, rfl, hb, hc⟩ := hat hn
  obtain ⟨m, rfl⟩ : ∃ m, n = m + 1 := ⟨n - 1, by omega⟩
  have hb' : b ∉ l := fun hm => ho b hm _ _ _ rfl rfl
  exact ⟨b, o, rfl, Nat.lt_of_lt_of_le hb hf.size, fun i hi => (World.cell?_of_block (a := ⟨b, o + i, none⟩) (hf.block b hb hb')).trans (hc i hi)⟩
theorem Den.below {by_ : Nat} {w w' : World} {v : Value} {vs : List Value} (h : Den by_ w v vs) (hb : Below w.heap.size w w') : Den by_ w' v vs := h.frm (l := []) (.of_below hb) (by simp)
theorem Den.nil (by_ : Nat) (w : World) : Den by_ w (.slice none 0 0) [] := ⟨none, 0, 0, rfl, rfl, Nat.le_refl _, by unfold maxLen; omega, by omega, fun _ => ⟨rfl, rfl⟩, fun h => absurd h (by omega)⟩
theorem Den.value {by_ : Nat} {w : World} {v : Value} {vs : List Value} (h : Den by_ w v vs) : ∃ p c, v = .slice p vs.length c := by
  obtain ⟨p, n, c, rfl, rfl, _⟩ := h
  exact ⟨p, c, rfl⟩
theorem Den.at {by_ : Nat} {w : World} {p : Option Addr} {n c : Nat} {vs : List Value} (h : Den by_ w (.slice p n c) vs) (hn : 0 < n) : ∃ b o, p = some ⟨b, o, none⟩ ∧ ∀ i, i < n → w.cell? ⟨b, o + i, none⟩ = vs[i]? := by
  obtain ⟨p', n', c', e, h1, _, _, _, _, hat⟩ := h
  cases e
  obtain ⟨b, o, e, _, hc⟩ := hat hn
  exact ⟨b, o, e, hc⟩
theorem Den.len {by_ : Nat} {w : World} {p : Option Addr} {n c : Nat} {vs : List Value} (h : Den by_ w (.slice p n c) vs) : vs.length = n := by
  obtain ⟨p', n', c', e, h1, _⟩ := h
  cases e
  exact h1
theorem Den.most {by_ : Nat} {w : World} {p : Option Addr} {n c : Nat} {vs : List Value} (h : Den by_ w (.slice p n c) vs) : n * by_ ≤ 140737488351232 ∧ n ≤ maxLen := by
  obtain ⟨p', n', c', e, h1, h2, h3, h4, _⟩ := h
  cases e
  exact ⟨h4, by omega⟩

def byts (xs : List Int) : List Value := xs.map (.int .u8)
def strs (xs : List ByteArray) : List Value := xs.map .string

/-- 'string(b)'. -/
theorem Den.convert {by_ : Nat} {w : World} {p : Option Addr} {n c : Nat} {xs : List Int} (h : Den by_ w (.slice p n c) (byts xs)) {P : Program} (src e : TypeId) (hs : P.underlying src = some (.slice e)) (he : P.underlying e = some (.int .u8)) (dst : TypeId) (hd : P.underlying dst = some .string) :
    (Go.convert src dst (.slice p n c)).run P w = .ok (.string (strOfNums xs)) w := by
  have hl := h.len
  rw [byts, List.length_map] at hl
  rcases Nat.eq_zero_or_pos n with hn | hn
  · subst hn
    obtain rfl : xs = [] := List.eq_nil_of_length_eq_zero hl
    rw [run_convert_bytes_string w src dst e p 0 c hs he hd]
    cases p with
    | none => simp [Conv.bytesToString, strOfNums]; rfl
    | some a =>
      have := run_bytesToString (P := P) w a 0 c [] (by simpa using run_loadCells_list (P := P) w a [] (by simp))
      rw [this]
      rfl
  · obtain ⟨b, o, rfl, hc⟩ := h.at hn
    refine run_convert_bytes_arg (P := P) w src e hs he b o n c xs hl (fun i hi => ?_) dst hd
    rw [hc i hi]
    simp [byts, List.getD_eq_getElem?_getD, List.getElem?_eq_getElem (show i < xs.length by omega)]

structure Cal where
  (c0 c3 c4 c5 c6 c7 : Int) (c1 c2 : ByteArray) (ds : List Int)
structure Res where
  (w n s0 s1 s2 s3 s4 s5 s6 : Int) (ds : List Int) (ss : List ByteArray)
structure Ev where
  (k t : Int) (c : Cal) (r : Res)
structure OpI where
  (t f o : Int) (c : Cal) (r : Res)
def Res.zero : Res := ⟨0, 0, 0, 0, 0, 0, 0, 0, 0, [], []⟩
def Cal.cells (c : Cal) (x : Value) : List Value := [.int .i64 c.c0, .string c.c1, .string c.c2, .int .i64 c.c3, .int .i64 c.c4, .int .i64 c.c5, .int .i64 c.c6, .int .i64 c.c7, x]
def Res.cells (r : Res) (y z : Value) : List Value := [.int .i64 r.w, .int .i64 r.n, y, z, .int .i64 r.s0, .int .i64 r.s1, .int .i64 r.s2, .int .i64 r.s3, .int .i64 r.s4, .int .i64 r.s5, .int .i64 r.s6]
def Ev.cells (e : Ev) (x y z : Value) : List Value := [.int .i64 e.k, .int .i64 e.t, .int .i64 e.c.c0, .string e.c.c1, .string e.c.c2, .int .i64 e.c.c3, .int .i64 e.c.c4, .int .i64 e.c.c5, .int .i64 e.c.c6, .int .i64 e.c.c7, x,
  .int .i64 e.r.w, .int .i64 e.r.n, y, z, .int .i64 e.r.s0, .int .i64 e.r.s1, .int .i64 e.r.s2, .int .i64 e.r.s3, .int .i64 e.r.s4, .int .i64 e.r.s5, .int .i64 e.r.s6]
def OpI.cells (e : OpI) (x y z : Value) : List Value := [.int .i64 e.t, .int .i64 e.c.c0, .string e.c.c1, .string e.c.c2, .int .i64 e.c.c3, .int .i64 e.c.c4, .int .i64 e.c.c5, .int .i64 e.c.c6, .int .i64 e.c.c7, x,
  .int .i64 e.r.w, .int .i64 e.r.n, y, z, .int .i64 e.r.s0, .int .i64 e.r.s1, .int .i64 e.r.s2, .int .i64 e.r.s3, .int .i64 e.r.s4, .int .i64 e.r.s5, .int .i64 e.r.s6, .int .i64 e.f, .int .i64 e.o]

/-- The three slices of an event, or of an operation. -/
def Tri (w : World) (c : Cal) (r : Res) (x y z : Value) : Prop := Den 1 w x (byts c.ds) ∧ Den 1 w y (byts r.ds) ∧ Den 16 w z (strs r.ss)
theorem Tri.frm {w w' : World} {c : Cal} {r : Res} {x y z : Value} {l : List Nat} (h : Tri w c r x y z) (hf : Frm l w w') (ho : ∀ k ∈ l, Off x k ∧ Off y k ∧ Off z k) : Tri w' c r x y z :=
  ⟨h.1.frm hf (fun k hk => (ho k hk).1), h.2.1.frm hf (fun k hk => (ho k hk).2.1), h.2.2.frm hf (fun k hk => (ho k hk).2.2)⟩
theorem Tri.below {w w' : World} {c : Cal} {r : Res} {x y z : Value} (h : Tri w c r x y z) (hb : Below w.heap.size w w') : Tri w' c r x y z := ⟨h.1.below hb, h.2.1.below hb, h.2.2.below hb⟩

/-- The events that came in. -/
def Evs (w : World) (a : Option Addr) (E : List Ev) : Prop :=
  E.length = 0 ∨ ∃ b off, a = some ⟨b, off, none⟩ ∧ b < w.heap.size ∧ ∀ (i : Nat) (e : Ev), E[i]? = some e → ∃ x y z : Value, Tri w e.c e.r x y z ∧ w.rangeAt b (off + i * 22) (e.cells x y z)
theorem Evs.below {w w' : World} {a : Option Addr} {E : List Ev} (h : Evs w a E) (hb : Below w.heap.size w w') : Evs w' a E := by
  rcases h with h | ⟨b, off, rfl, hlt, hat⟩
  · exact .inl h
  · refine .inr ⟨b, off, rfl, Nat.lt_of_lt_of_le hlt hb.size, fun i e he => ?_⟩
    obtain ⟨x, y, z, ht, hc⟩ := hat i e he
    exact ⟨x, y, z, ht.below hb, fun j v hj => (hb.cell (p := ⟨b, off + i * 22 + j, none⟩) hlt).trans (hc j v hj)⟩

/-- The rows of a slice of operations; their slices lie neither in its block nor in the block bo. -/
def OutsR (w : World) (base bo : Nat) (ty : TypeId) (v : Value) (l : List OpI) (rows : List (List Value)) : Prop :=
  rows.length = l.length ∧ Win w base ty 23 v l.length rows.flatten ∧
    ∀ (k : Nat) (o : OpI) (row : List Value), l[k]? = some o → rows[k]? = some row → ∃ x y z : Value, row = o.cells x y z ∧ Tri w o.c o.r x y z ∧ ∀ B, B = bo ∨ v.ownBlock = some B → Off x B ∧ Off y B ∧ Off z B
def Outs (w : World) (base bo : Nat) (ty : TypeId) (v : Value) (l : List OpI) : Prop := ∃ rows, OutsR w base bo ty v l rows
theorem Outs.nil (w : World) (base bo : Nat) (ty : TypeId) : Outs w base bo ty (.slice none 0 0) [] := ⟨[], rfl, Win.nil _ _ _ _, by simp⟩
theorem Outs.frm {w w' : World} {base bo : Nat} {ty : TypeId} {v : Value} {l : List OpI} {L : List Nat} (h : Outs w base bo ty v l) (hf : Frm L w w') (hn : ∀ k ∈ L, k = bo ∧ v.ownBlock ≠ some k) : Outs w' base bo ty v l := by
  obtain ⟨rows, h1, h2, h3⟩ := h
  refine ⟨rows, h1, h2.frm hf (fun k hk => (hn k hk).2), fun k o row h4 h5 => ?_⟩
  obtain ⟨x, y, z, e, t, q⟩ := h3 k o row h4 h5
  exact ⟨x, y, z, e, t.frm hf (fun k hk => q k (.inl (hn k hk).1)), q⟩
theorem Outs.below {w w' : World} {base bo : Nat} {ty : TypeId} {v : Value} {l : List OpI} (h : Outs w base bo ty v l) (hb : Below w.heap.size w w') : Outs w' base bo ty v l :=
  h.frm (L := []) (.of_below hb) (by simp)
theorem OutsR.below {w w' : World} {base bo : Nat} {ty : TypeId} {v : Value} {l : List OpI} {rows : List (List Value)} (h : OutsR w base bo ty v l rows) (hb : Below w.heap.size w w') : OutsR w' base bo ty v l rows := by
  obtain ⟨h1, h2, h3⟩ := h
  refine ⟨h1, h2.below hb, fun k o row h4 h5 => ?_⟩
  obtain ⟨x, y, z, e, t, q⟩ := h3 k o row h4 h5
  exact ⟨x, y, z, e, t.below hb, q⟩
theorem Outs.value {w : World} {base bo : Nat} {ty : TypeId} {v : Value} {l : List OpI} (h : Outs w base bo ty v l) : ∃ a cap, v = .slice a l.length cap := by
  obtain ⟨_, _, h2, _⟩ := h
  exact h2.value
theorem Outs.lt {w : World} {base bo : Nat} {ty : TypeId} {v : Value} {l : List OpI} (h : Outs w base bo ty v l) : ∀ k, v.ownBlock = some k → base ≤ k ∧ k < w.heap.size := by
  obtain ⟨_, _, h2, _⟩ := h
  exact h2.lt

theorem flatten_get {α : Type} (m : Nat) : ∀ (L : List (List α)) (k j : Nat) (row : List α), (∀ r ∈ L, r.length = m) → L[k]? = some row → j < m → L.flatten[k * m + j]? = row[j]?
  | [], k, j, row, _, h, _ => by simp at h
  | r :: L, 0, j, row, hm, h, hj => by
    simp at h
    subst h
    have := hm r (by simp)
    rw [List.flatten_cons, Nat.zero_mul, Nat.zero_add, List.getElem?_append_left (by omega)]
  | r :: L, k + 1, j, row, hm, h, hj => by
    have h0 := hm r (by simp)
    rw [List.flatten_cons, List.getElem?_append_right (by rw [h0, Nat.succ_mul]; omega), h0, show (k + 1) * m + j - m = k * m + j from by rw [Nat.succ_mul]; omega]
    exact flatten_get m L k j row (fun r hr => hm r (by simp [hr])) (by simpa using h) hj
theorem flatten_set {α : Type} (m : Nat) (u : α) : ∀ (L : List (List α)) (k j : Nat) (row : List α), (∀ r ∈ L, r.length = m) → L[k]? = some row → j < m → L.flatten.set (k * m + j) u = (L.set k (row.set j u)).flatten
  | [], k, j, row, _, h, _ => by simp at h
  | r :: L, 0, j, row, hm, h, hj => by
    simp at h
    subst h
    have := hm r (by simp)
    rw [List.flatten_cons, Nat.zero_mul, Nat.zero_add, List.set_append_left _ _ (by omega), List.set_cons_zero, List.flatten_cons]
  | r :: L, k + 1, j, row, hm, h, hj => by
    have h0 := hm r (by simp)
    rw [List.flatten_cons, List.set_append_right _ _ (by rw [h0, Nat.succ_mul]; omega), h0, show (k + 1) * m + j - m = k * m + j from by rw [Nat.succ_mul]; omega,
      flatten_set m u L k j row (fun r hr => hm r (by simp [hr])) (by simpa using h) hj, List.set_cons_succ, List.flatten_cons]

theorem OpI.cells_len (o : OpI) (x y z : Value) : (o.cells x y z).length = 23 := rfl
/-- The cells of row k. -/
theorem Outs.row {w : World} {base bo : Nat} {ty : TypeId} {f o cap n : Nat} {l : List OpI} (h : Outs w base bo ty (.slice (some ⟨f, o, none⟩) n cap) l) {k : Nat} {q : OpI} (hk : l[k]? = some q) :
    ∃ x y z, Tri w q.c q.r x y z ∧ (Off x f ∧ Off y f ∧ Off z f) ∧ w.rangeAt f (o + k * 23) (q.cells x y z) := by
  obtain ⟨rows, h1, h2, h3⟩ := h
  have hn : n = l.length := by have := h2.value; obtain ⟨a, c, e⟩ := this; cases e; rfl
  subst hn
  have hkl : k < l.length := (List.getElem?_eq_some_iff.1 hk).1
  have hr : rows[k]? = some rows[k] := List.getElem?_eq_getElem (by omega)
  obtain ⟨x, y, z, e, t, ho⟩ := h3 k q _ hk hr
  refine ⟨x, y, z, t, ho f (.inr rfl), fun j v hv => ?_⟩
  have hj : j < 23 := (List.getElem?_eq_some_iff.1 hv).1
  have hall : ∀ r ∈ rows, r.length = 23 := by
    intro r hm
    obtain ⟨i, hi, rfl⟩ := List.getElem_of_mem hm
    obtain ⟨_, _, _, e, _⟩ := h3 i (l[i]'(by omega)) _ (List.getElem?_eq_getElem _) (List.getElem?_eq_getElem hi)
    rw [e]; rfl
  rw [Nat.add_assoc, h2.cells (k * 23 + j) (by omega), flatten_get 23 rows k j _ hall hr hj, e, hv]
/-- A row is appended. -/
theorem OutsR.push {w w' : World} {base bo : Nat} {ty : TypeId} {v : Value} {f o cap : Nat} {l : List OpI} {rows : List (List Value)} (h : OutsR w base bo ty v l rows) {q : OpI} {x y z : Value} (ht : Tri w q.c q.r x y z)
    (hx : ∀ B, B = bo ∨ v.ownBlock = some B → Off x B ∧ Off y B ∧ Off z B) (hg : w.grownBy w' v.ownBlock) (hf : v.ownBlock = some f ∨ w.heap.size ≤ f)
    (hw' : Win w' base ty 23 (.slice (some ⟨f, o, none⟩) (l.length + 1) cap) (l.length + 1) (rows.flatten ++ q.cells x y z)) :
    Outs w' base bo ty (.slice (some ⟨f, o, none⟩) (l.length + 1) cap) (l ++ [q]) := by
  obtain ⟨h1, h2, h3⟩ := h
  have F : Frm (v.ownBlock.toList) w w' := Frm.of_grown hg (fun k hk _ => by simp [hk])
  refine ⟨rows ++ [q.cells x y z], by simp [h1], by simpa using hw', fun k r row hk hr => ?_⟩
  have fin : ∀ {c : Cal} {r : Res} {x y z : Value}, Tri w c r x y z → (∀ B, B = bo ∨ v.ownBlock = some B → Off x B ∧ Off y B ∧ Off z B) → Tri w' c r x y z ∧ ∀ B, B = bo ∨ (Value.slice (some (⟨f, o, none⟩ : Addr)) (l.length + 1) cap).ownBlock = some B → Off x B ∧ Off y B ∧ Off z B := by
    intro c r x y z t ho
    refine ⟨t.frm F (fun k hk => ho k (.inr (by simpa using hk))), fun B hB => ?_⟩
    rcases hB with hB | hB
    · exact ho B (.inl hB)
    obtain rfl : f = B := by simpa [Value.ownBlock] using hB
    rcases hf with hf | hf
    · exact ho f (.inr hf)
    · exact ⟨t.1.off hf, t.2.1.off hf, t.2.2.off hf⟩
  by_cases hkl : k < l.length
  · rw [List.getElem?_append_left hkl] at hk
    rw [List.getElem?_append_left (by omega)] at hr
    obtain ⟨x, y, z, e, t, ho⟩ := h3 k r row hk hr
    exact ⟨x, y, z, e, fin t ho⟩
  · have hlt := (List.getElem?_eq_some_iff.1 hk).1
    simp at hlt
    obtain rfl : k = l.length := by omega
    rw [List.getElem?_append_right (by omega)] at hk hr
    simp at hk
    simp [h1] at hr
    subst hk hr
    exact ⟨x, y, z, rfl, fin ht hx⟩
end Go.Proofs.Ytjefjonogbkknaa
