/- A part of a row is written; the table of open calls. -/
import Derived.Test.YtjefjonogbkknaaRun
namespace Go.Proofs.Ytjefjonogbkknaa
open Go.RowKit

theorem flatten_len {α : Type} (m : Nat) : ∀ (L : List (List α)), (∀ r ∈ L, r.length = m) → L.flatten.length = L.length * m
  | [], _ => by simp
  | r :: L, h => by
    rw [List.flatten_cons, List.length_append, h r (by simp), flatten_len m L (fun r hr => h r (by simp [hr])), List.length_cons, Nat.succ_mul]
    omega
theorem Win.putRow {w : World} {base : Nat} {ty : TypeId} {f o cap n : Nat} {rows : List (List Value)} {k a : Nat} {row row' vs : List Value} (h : Win w base ty 23 (.slice (some ⟨f, o, none⟩) n cap) n rows.flatten)
    (hall : ∀ r ∈ rows, r.length = 23) (hk : rows[k]? = some row) (hl' : row'.length = 23) (ha : a + vs.length ≤ 23) (hin : ∀ j, j < vs.length → row'[a + j]? = vs[j]?) (hout : ∀ j, j < a ∨ a + vs.length ≤ j → row'[j]? = row[j]?) :
    Win (w.setCells f (o + k * 23 + a) vs) base ty 23 (.slice (some ⟨f, o, none⟩) n cap) n (rows.set k row').flatten := by
  have hfl := flatten_len 23 rows hall
  have hkl : k < rows.length := (List.getElem?_eq_some_iff.1 hk).1
  have hall' : ∀ r ∈ rows.set k row', r.length = 23 := by
    intro r hr
    rcases List.mem_or_eq_of_mem_set hr with h | h
    · exact hall r h
    · rw [h]; exact hl'
  have hfl' := flatten_len 23 (rows.set k row') hall'
  rw [List.length_set] at hfl'
  obtain ⟨hx, ⟨h0, _⟩ | ⟨f', o', cap', cur, e0, hf, hh, hnc, hcm, hcs, hat⟩⟩ := h
  · cases h0
  · cases e0
    obtain ⟨cur', q1, q2, _, q4⟩ := setCells_heap f ty vs (o + k * 23 + a) w cur hh
    have q3 : ∀ x, x < o + k * 23 + a ∨ o + k * 23 + a + vs.length ≤ x → cur'[x]? = cur[x]? := fun x hx' => by
      rw [← cell_of_row _ f x cur' ty (0, 0) q1, ← cell_of_row _ f x cur ty (0, 0) hh]
      exact World.cell?_setCells_out f vs (o + k * 23 + a) w ⟨f, x, none⟩ (fun _ _ => hx')
    refine ⟨by omega, .inr ⟨f, o, cap, cur', rfl, hf, q1, hnc, hcm, by omega, fun j hj => ?_⟩⟩
    obtain ⟨r, c, rfl, hc⟩ : ∃ r c, j = r * 23 + c ∧ c < 23 := ⟨j / 23, j % 23, by omega, by omega⟩
    have hr : r < rows.length := by omega
    have hnx : n = rows.length := by omega
    have hrv : rows[r]? = some (rows[r]'hr) := List.getElem?_eq_getElem hr
    by_cases hrk : r = k
    · subst hrk
      rw [flatten_get 23 (rows.set r row') r c row' hall' (by rw [List.getElem?_set_self hr]) hc]
      by_cases hca : a ≤ c ∧ c < a + vs.length
      · have := q4 (c - a) (by omega) (by omega)
        rw [show o + r * 23 + a + (c - a) = o + (r * 23 + c) from by omega] at this
        rw [this, ← hin (c - a) (by omega), show a + (c - a) = c from by omega]
      · rw [q3 _ (by first | (left; omega) | (right; omega) | omega), hat (r * 23 + c) hj, flatten_get 23 rows r c row hall hk hc, hout c (by omega)]
    · rw [flatten_get 23 (rows.set k row') r c _ hall' (by rw [List.getElem?_set_ne (fun e => hrk e.symm)]; exact hrv) hc, ← flatten_get 23 rows r c _ hall hrv hc]
      rw [q3 _ (by rcases Nat.lt_or_ge r k with h1 | h1 <;> omega)]
      exact hat (r * 23 + c) hj

theorem Outs.close {w w' : World} {base bo : Nat} {ty : TypeId} {f o cap n k i : Nat} {l : List OpI} {q : OpI} {e : Ev} {y z : Value} (h : Outs w base bo ty (.slice (some ⟨f, o, none⟩) n cap) l) (hk : l[k]? = some q)
    (hy : Den 1 w y (byts e.r.ds)) (hz : Den 16 w z (strs e.r.ss)) (oy : Off y f) (oz : Off z f) (oy' : Off y bo) (oz' : Off z bo)
    (hw : w' = (w.setCells f (o + k * 23 + 10) (e.r.cells y z)).setCell ⟨f, o + k * 23 + 22, none⟩ (.int .i64 i)) : Outs w' base bo ty (.slice (some ⟨f, o, none⟩) n cap) (l.modify k (closed · e i)) ∧ Frm [f] w w' := by
  have F : Frm [f] w w' := by rw [hw]; exact (Frm.setCells (by simp) _ _ (Frm.refl _ _)).setCell (by simp) _
  refine ⟨?_, F⟩
  obtain ⟨rows, h1, h2, h3⟩ := h
  have hkl : k < l.length := (List.getElem?_eq_some_iff.1 hk).1
  have hall : ∀ r ∈ rows, r.length = 23 := by
    intro r hm
    obtain ⟨j, hj, rfl⟩ := List.getElem_of_mem hm
    obtain ⟨_, _, _, e, _⟩ := h3 j (l[j]'(by omega)) _ (List.getElem?_eq_getElem _) (List.getElem?_eq_getElem hj)
    rw [e]; rfl
  have hrk : rows[k]? = some (rows[k]'(by omega)) := List.getElem?_eq_getElem _
  obtain ⟨x, y0, z0, e0, t0, p0⟩ := h3 k q _ hk hrk
  obtain ⟨ox, _, _⟩ := p0 f (.inr rfl)
  obtain ⟨ox', _, _⟩ := p0 bo (.inl rfl)
  have hn : n = l.length := by obtain ⟨a, c, e⟩ := h2.value; cases e; rfl
  subst hn
  rw [e0] at hrk
  have s1 := h2.putRow hall hrk (row' := (⟨q.t, q.f, q.o, q.c, e.r⟩ : OpI).cells x y z) (a := 10) (vs := e.r.cells y z) rfl (by show 10 + 11 ≤ 23; omega) (fun j hj => by
      have : j < 11 := hj
      match j, this with
      | 0, _ | 1, _ | 2, _ | 3, _ | 4, _ | 5, _ | 6, _ | 7, _ | 8, _ | 9, _ | 10, _ => rfl) (fun j hj => by
      have : j < 10 ∨ 21 ≤ j := hj
      match j, this with
      | 0, _ | 1, _ | 2, _ | 3, _ | 4, _ | 5, _ | 6, _ | 7, _ | 8, _ | 9, _ | 21, _ | 22, _ => rfl
      | j + 23, _ => rfl
      | 10, h | 11, h | 12, h | 13, h | 14, h | 15, h | 16, h | 17, h | 18, h | 19, h | 20, h => exact absurd h (by omega))
  have hall1 : ∀ r ∈ rows.set k ((⟨q.t, q.f, q.o, q.c, e.r⟩ : OpI).cells x y z), r.length = 23 := by
    intro r hr
    rcases List.mem_or_eq_of_mem_set hr with h | h
    · exact hall r h
    · rw [h]; rfl
  have s2 := s1.putRow hall1 (List.getElem?_set_self (by omega)) (row' := (closed q e i).cells x y z) (a := 22) (vs := [.int .i64 i]) rfl (by show 22 + 1 ≤ 23; omega) (fun j hj => by
      obtain rfl : j = 0 := by simpa using hj
      rfl) (fun j hj => by
      have : j < 22 ∨ 23 ≤ j := hj
      match j, this with
      | 0, _ | 1, _ | 2, _ | 3, _ | 4, _ | 5, _ | 6, _ | 7, _ | 8, _ | 9, _ | 10, _ | 11, _ | 12, _ | 13, _ | 14, _ | 15, _ | 16, _ | 17, _ | 18, _ | 19, _ | 20, _ | 21, _ => rfl
      | j + 23, _ => rfl
      | 22, h => exact absurd h (by omega))
  rw [List.set_set] at s2
  refine ⟨rows.set k ((closed q e i).cells x y z), by simp [h1], ?_, fun j r row hj hr => ?_⟩
  · rw [hw, List.length_modify]
    exact s2
  · by_cases hjk : j = k
    · subst hjk
      rw [List.getElem?_set_self (by omega)] at hr
      rw [List.getElem?_modify_eq, hk] at hj
      cases hr
      cases hj
      exact ⟨x, y, z, rfl, ⟨t0.1.frm F (by intro b hb; simp at hb; subst hb; exact ox), hy.frm F (by intro b hb; simp at hb; subst hb; exact oy), hz.frm F (by intro b hb; simp at hb; subst hb; exact oz)⟩,
        fun B hB => by
          rcases hB with rfl | hB
          · exact ⟨ox', oy', oz'⟩
          · cases hB; exact ⟨ox, oy, oz⟩⟩
    · rw [List.getElem?_set_ne (fun e => hjk e.symm)] at hr
      rw [List.getElem?_modify_ne _ _ (fun h => hjk h.symm)] at hj
      obtain ⟨x', y', z', e', t', p'⟩ := h3 j r row hj hr
      have := p' f (.inr rfl)
      exact ⟨x', y', z', e', t'.frm F (by intro b hb; simp at hb; subst hb; exact this), p'⟩

def opArr (op : Nat → Nat) : Array Value := #[.int .i64 (op 0), .int .i64 (op 1), .int .i64 (op 2), .int .i64 (op 3), .int .i64 (op 4), .int .i64 (op 5), .int .i64 (op 6), .int .i64 (op 7)]
theorem opArr_get (op : Nat → Nat) {T : Nat} (hT : T < 8) : (opArr op)[T]? = some (.int .i64 (op T)) := by
  match T, hT with
  | 0, _ | 1, _ | 2, _ | 3, _ | 4, _ | 5, _ | 6, _ | 7, _ => rfl
theorem opArr_set (op : Nat → Nat) {T : Nat} (hT : T < 8) (v : Nat) : (opArr op).setIfInBounds T (.int .i64 v) = opArr (upd op T v) := by
  match T, hT with
  | 0, _ | 1, _ | 2, _ | 3, _ | 4, _ | 5, _ | 6, _ | 7, _ => rfl
end Go.Proofs.Ytjefjonogbkknaa
