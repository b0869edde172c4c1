/- Slices that are cut at their head and appended to again: what such a slice value holds, and the laws of append on it. -/
import Derived.Test.YtmhmgenchpemkaaKit
import Derived.ArgAppend
import Derived.Deep.AppendLies
import Derived.Deep.RegionHeld3
namespace Go.Proofs.Ytmhmgenchpemkaa
open Go.RowKit

/-- The slice value v, of n elements of type e ('size' cells each), holds the cells xs, at whatever place of a block from 'base' on. -/
def Win (w : World) (base : Nat) (e : TypeId) (size : Nat) (v : Value) (n : Nat) (xs : List Value) : Prop :=
  xs.length = n * size ∧ ((v = .slice none 0 0 ∧ n = 0) ∨
    ∃ f o cap cur, v = .slice (some ⟨f, o, none⟩) n cap ∧ base ≤ f ∧ w.heap[f]? = some (.cells cur e (0, 0)) ∧ n ≤ cap ∧ cap ≤ maxLen ∧ o + cap * size ≤ cur.size ∧ ∀ j, j < n * size → cur[o + j]? = xs[j]?)

theorem Win.nil (w : World) (base : Nat) (e : TypeId) (size : Nat) : Win w base e size (.slice none 0 0) 0 [] := ⟨by simp, .inl ⟨rfl, rfl⟩⟩
theorem Win.of_own {w : World} {base : Nat} {e : TypeId} {size : Nat} {v : Value} {n : Nat} {xs : List Value} (h : w.ownsRow base e size v n xs) : Win w base e size v n xs := by
  obtain ⟨h1, h2 | ⟨g, cap, cur, h3, h4, h5, h6, h7, h8, h9⟩⟩ := h
  · exact ⟨h1, .inl h2⟩
  · refine ⟨h1, .inr ⟨g, 0, cap, cur, h3, h4, h5, h6, h7, by omega, fun j hj => ?_⟩⟩
    rw [← h9, List.getElem?_take_of_lt hj]; simp
theorem Win.of_base {w : World} {base base' : Nat} {e : TypeId} {size : Nat} {v : Value} {n : Nat} {xs : List Value} (h : Win w base' e size v n xs) (hb : base ≤ base') : Win w base e size v n xs := by
  obtain ⟨h1, h2 | ⟨f, o, cap, cur, h3, h4, h5⟩⟩ := h
  · exact ⟨h1, .inl h2⟩
  · exact ⟨h1, .inr ⟨f, o, cap, cur, h3, by omega, h5⟩⟩
theorem Win.kept {w w' : World} {base : Nat} {e : TypeId} {size : Nat} {v : Value} {n : Nat} {xs : List Value} (h : Win w base e size v n xs) (hk : ∀ k, v.ownBlock = some k → w'.heap[k]? = w.heap[k]?) : Win w' base e size v n xs := by
  obtain ⟨h1, h2 | ⟨f, o, cap, cur, h3, h4, h5, h6⟩⟩ := h
  · exact ⟨h1, .inl h2⟩
  · exact ⟨h1, .inr ⟨f, o, cap, cur, h3, h4, by rw [hk f (by rw [h3]; rfl)]; exact h5, h6⟩⟩
theorem Win.lt {w : World} {base : Nat} {e : TypeId} {size : Nat} {v : Value} {n : Nat} {xs : List Value} (h : Win w base e size v n xs) : ∀ k, v.ownBlock = some k → base ≤ k ∧ k < w.heap.size := by
  intro k hk
  obtain ⟨h1, h2 | ⟨f, o, cap, cur, h3, h4, h5, h6⟩⟩ := h
  · rw [h2.1] at hk; cases hk
  · rw [h3] at hk; cases hk
    exact ⟨h4, (Array.getElem?_eq_some_iff.1 h5).1⟩
theorem Win.below {w w' : World} {base : Nat} {e : TypeId} {size : Nat} {v : Value} {n : Nat} {xs : List Value} (h : Win w base e size v n xs) (hb : Below w.heap.size w w') : Win w' base e size v n xs :=
  h.kept fun k hk => hb.block k (h.lt k hk).2
theorem Win.frm {w w' : World} {base : Nat} {e : TypeId} {size : Nat} {v : Value} {n : Nat} {xs : List Value} {l : List Nat} (h : Win w base e size v n xs) (hf : Frm l w w') (hn : ∀ k ∈ l, v.ownBlock ≠ some k) : Win w' base e size v n xs :=
  h.kept fun k hk => hf.block k (h.lt k hk).2 (fun hm => hn k hm hk)
theorem Win.alloc {w : World} {base : Nat} {e : TypeId} {size : Nat} {v : Value} {n : Nat} {xs : List Value} (h : Win w base e size v n xs) (o : Obj) : Win (w.alloc o) base e size v n xs :=
  h.below ((Below.refl _ _).alloc (Nat.le_refl _) o)
theorem Win.drew {w : World} {base : Nat} {e : TypeId} {size : Nat} {v : Value} {n : Nat} {xs : List Value} (h : Win w base e size v n xs) : Win w.drew base e size v n xs := h

/-- What its cells are. -/
theorem Win.cells {w : World} {base : Nat} {e : TypeId} {size f o cap n : Nat} {xs : List Value} (h : Win w base e size (.slice (some ⟨f, o, none⟩) n cap) n xs) : ∀ j, j < n * size → w.cell? ⟨f, o + j, none⟩ = xs[j]? := by
  obtain ⟨h1, h2 | ⟨f', o', cap', cur, h3, h4, h5, h6, h7, h8, h9⟩⟩ := h
  · cases h2.1
  · cases h3
    intro j hj
    simp only [World.cell?, h5]
    exact h9 j hj
theorem Win.free {w : World} {base : Nat} {e : TypeId} {size f o cap n : Nat} {xs : List Value} (h : Win w base e size (.slice (some ⟨f, o, none⟩) n cap) n xs) (j : Nat) : w.frozen? ⟨f, j, none⟩ = false := by
  obtain ⟨h1, h2 | ⟨f', o', cap', cur, h3, h4, h5, h6⟩⟩ := h
  · cases h2.1
  · cases h3
    simp [World.frozen?, h5]
theorem Win.bound {w : World} {base : Nat} {e : TypeId} {size f o cap n : Nat} {xs : List Value} (h : Win w base e size (.slice (some ⟨f, o, none⟩) n cap) n xs) : n ≤ cap ∧ cap ≤ maxLen := by
  obtain ⟨h1, h2 | ⟨f', o', cap', cur, h3, h4, h5, h6, h7, h8⟩⟩ := h
  · cases h2.1
  · cases h3
    exact ⟨h6, h7⟩
theorem Win.form {w : World} {base : Nat} {e : TypeId} {size : Nat} {v : Value} {n : Nat} {xs : List Value} (h : Win w base e size v n xs) (hn : 0 < n) : ∃ f o cap, v = .slice (some ⟨f, o, none⟩) n cap := by
  obtain ⟨h1, h2 | ⟨f, o, cap, cur, h3, h4⟩⟩ := h
  · omega
  · exact ⟨f, o, cap, h3⟩
theorem Win.value {w : World} {base : Nat} {e : TypeId} {size : Nat} {v : Value} {n : Nat} {xs : List Value} (h : Win w base e size v n xs) : ∃ a cap, v = .slice a n cap := by
  obtain ⟨h1, h2 | ⟨f, o, cap, cur, h3, h4⟩⟩ := h
  · exact ⟨none, 0, by rw [h2.1, h2.2]⟩
  · exact ⟨_, cap, h3⟩
/-- Cut at its head: behind its first k elements (k below the capacity). -/
theorem Win.cut {w : World} {base : Nat} {e : TypeId} {size f o cap n : Nat} {xs : List Value} (h : Win w base e size (.slice (some ⟨f, o, none⟩) n cap) n xs) (k : Nat) (hk : k ≤ n) :
    Win w base e size (.slice (some ⟨f, o + k * size, none⟩) (n - k) (cap - k)) (n - k) (xs.drop (k * size)) := by
  obtain ⟨h1, h2 | ⟨f', o', cap', cur, h3, h4, h5, h6, h7, h8, h9⟩⟩ := h
  · cases h2.1
  · cases h3
    have e1 : (n - k) * size = n * size - k * size := Nat.sub_mul _ _ _
    have e2 : (cap - k) * size = cap * size - k * size := Nat.sub_mul _ _ _
    have e3 : k * size ≤ n * size := Nat.mul_le_mul_right _ hk
    have e4 : n * size ≤ cap * size := Nat.mul_le_mul_right _ h6
    refine ⟨by rw [List.length_drop, h1, e1], .inr ⟨f, o + k * size, cap - k, cur, rfl, h4, h5, by omega, by omega, by omega, fun j hj => ?_⟩⟩
    rw [List.getElem?_drop, ← h9 (k * size + j) (by omega), Nat.add_assoc]
/-- .. where nothing is left, its address stays as it was. -/
theorem Win.cutAll {w : World} {base : Nat} {e : TypeId} {size f o cap n : Nat} {xs : List Value} (h : Win w base e size (.slice (some ⟨f, o, none⟩) n cap) n xs) : Win w base e size (.slice (some ⟨f, o, none⟩) 0 0) 0 [] := by
  obtain ⟨h1, h2 | ⟨f', o', cap', cur, h3, h4, h5, h6, h7, h8, h9⟩⟩ := h
  · cases h2.1
  · cases h3
    exact ⟨by simp, .inr ⟨f, o, 0, cur, rfl, h4, h5, by omega, by omega, by omega, fun j hj => by omega⟩⟩

theorem setCells_heap (f : Nat) (e : TypeId) : ∀ (news : List Value) (p : Nat) (w : World) (cur : Array Value), w.heap[f]? = some (.cells cur e (0, 0)) →
    ∃ cur', (w.setCells f p news).heap[f]? = some (.cells cur' e (0, 0)) ∧ cur'.size = cur.size ∧ (∀ j, j < p → cur'[j]? = cur[j]?) ∧ (∀ j, j < news.length → p + j < cur.size → cur'[p + j]? = news[j]?)
  | [], p, w, cur, h => ⟨cur, h, rfl, fun _ _ => rfl, fun j hj => by simp at hj⟩
  | v :: r, p, w, cur, h => by
    have h0 : (w.setCell ⟨f, p, none⟩ v).heap[f]? = some (.cells (cur.setIfInBounds p v) e (0, 0)) := by
      simp [World.setCell, Array.getElem?_modify, h]
    obtain ⟨cur', h1, h2, h3, h4⟩ := setCells_heap f e r (p + 1) _ _ h0
    refine ⟨cur', h1, by simpa using h2, fun j hj => ?_, fun j hj hp => ?_⟩
    · rw [h3 j (by omega), Array.getElem?_setIfInBounds_ne (by omega)]
    · cases j with
      | zero => rw [Nat.add_zero, h3 p (by omega)]; simp at hp ⊢; simp [hp]
      | succ j => rw [show p + (j + 1) = p + 1 + j from by omega, h4 j (by simp at hj; omega) (by simp; omega)]; simp
theorem setCells_grown (f : Nat) : ∀ (news : List Value) (p : Nat) (w : World), w.grownBy (w.setCells f p news) (some f)
  | [], _, w => World.grownBy.refl w _
  | v :: r, p, w => by
    have := setCells_grown f r (p + 1) (w.setCell ⟨f, p, none⟩ v)
    exact ⟨this.os, this.tape, this.output, by have := this.size; rw [World.size_setCell] at this; exact this, fun k hk hne => (this.block k (by simpa using hk) hne).trans (Below.heap_setCell _ _ _ _ (fun e => hne (by rw [e])))⟩

theorem run_append_win {P : Program} (w : World) (base : Nat) (t ty e : TypeId) (i : TypeInfo) (z : Value) (size bytes : Nat) (ht : P.underlying t = some (.slice e)) (hi : P.info? e = some i) (hz : i.zero = some z)
    (hsize : i.size = size) (hby : i.bytes = bytes) (hzs : z.cells.size = size) (hsz : 0 < size) (v : Value) (n : Nat) (xs : List Value) (hown : Win w base e size v n xs)
    (ad : Addr) (m c : Nat) (news : List Value) (hl : news.length = m * size) (hnews : ∀ j u, news[j]? = some u → w.cell? (ad.add j) = some u) (h1 : ∀ u ∈ news, u.oneCell' = true)
    (h63 : n + m ≤ maxLen) (hbytes : (n + m) * bytes ≤ 140737488355328) (hbase : base ≤ w.heap.size) :
    ∃ v' w', (Builtin.append_ #[t, t] ty #[v, .slice (some ad) m c]).run P w = .ok v' w' ∧ Win w' base e size v' (n + m) (xs ++ news) ∧ w.grownBy w' v.ownBlock ∧ (0 < m → ∃ f o cap, v' = .slice (some ⟨f, o, none⟩) (n + m) cap ∧ (v.ownBlock = some f ∨ w.heap.size ≤ f)) := by
  subst hsize
  obtain ⟨hx, ⟨rfl, rfl⟩ | ⟨f, o, cap, cur, rfl, hf, hh, hnc, hcm, hcs, hat⟩⟩ := hown
  · obtain rfl : xs = [] := List.eq_nil_of_length_eq_zero (by simpa using hx)
    obtain ⟨v', w', hr, r1, r2, r3⟩ := run_append_own (P := P) w w.heap.size t ty e i z i.size bytes ht hi hz rfl hby hzs hsz (.slice none 0 0) 0 [] (World.ownsRow_nil _ _ _ _) ad m c news hl hnews h1 h63 hbytes (Nat.le_refl _)
    refine ⟨v', w', hr, (Win.of_own r1).of_base hbase, r2, fun hm => ?_⟩
    obtain ⟨_, q | ⟨g, cap, cur, q, hg, hgh, _⟩⟩ := r1
    · omega
    · exact ⟨g, 0, cap, q, .inr hg⟩
  · by_cases hroom : n + m ≤ cap
    · have hcell : ∀ j, j < news.length → (w.cell? ⟨f, o + n * i.size + j, none⟩).isSome = true := by
        intro j hj
        have : n * i.size + m * i.size ≤ cap * i.size := by rw [← Nat.add_mul]; exact Nat.mul_le_mul_right _ hroom
        simp only [World.cell?, hh]
        simp; omega
      have hfr : ∀ j, j < news.length → w.frozen? ⟨f, o + n * i.size + j, none⟩ = false := fun j _ => by simp [World.frozen?, hh]
      have hr := run_append_room_cells (P := P) w t ty e i ht hi f o n cap ad m c news hl hnews h1 hroom hcell hfr
      refine ⟨_, _, hr, ⟨by rw [List.length_append, hx, hl, Nat.add_mul], .inr ?_⟩, setCells_grown f news _ w, fun _ => ⟨f, o, cap, rfl, .inl rfl⟩⟩
      obtain ⟨cur', q1, q2, q3, q4⟩ := setCells_heap f e news (o + n * i.size) w cur hh
      refine ⟨f, o, cap, cur', rfl, hf, q1, hroom, hcm, by omega, fun j hj => ?_⟩
      have hle : (n + m) * i.size ≤ cap * i.size := Nat.mul_le_mul_right _ hroom
      rw [Nat.add_mul] at hj hle
      by_cases hjn : j < n * i.size
      · rw [q3 _ (by omega), hat j hjn, List.getElem?_append_left (by omega)]
      · have := q4 (j - n * i.size) (by omega) (by omega)
        rw [show o + n * i.size + (j - n * i.size) = o + j from by omega] at this
        rw [this, List.getElem?_append_right (by omega), hx]
    · have holds : ∀ j u, xs[j]? = some u → w.cell? ((⟨f, o, none⟩ : Addr).add j) = some u := by
        intro j u hj
        have hjl : j < n * i.size := by rw [← hx]; exact (List.getElem?_eq_some_iff.1 hj).1
        have e1 : (⟨f, o, none⟩ : Addr).add j = ⟨f, o + j, none⟩ := by unfold Addr.add; split <;> simp_all
        rw [e1]
        simp only [World.cell?, hh]
        exact (hat j hjl).trans hj
      obtain ⟨v', w', hr, r1, r2⟩ := run_append_arg_grows (P := P) w t ty e i z i.size bytes ht hi hz rfl hby hzs hsz ⟨f, o, none⟩ n cap xs hx holds ad m c news hl hnews (by omega) h63 hbytes
      refine ⟨v', w', hr, (Win.of_own r1).of_base hbase, ⟨r2.os, r2.tape, r2.output, r2.size, fun k hk _ => r2.block k hk (by simp)⟩, fun hm => ?_⟩
      obtain ⟨_, q | ⟨g, cap', cur', q, hg, _⟩⟩ := r1
      · omega
      · exact ⟨g, 0, cap', q, .inr hg⟩

section
variable {P : Program} (w : World) {ops : Array Oper} {rest : List Oper} {o : Oper} {a : Act} {K : Act → World → Prop} {Q : Exit → Act → World → Prop} {E : Prop}
theorem wp_append_win (s x : Operand) (t : TypeId) (ho : o.op = .call { callee := .builtin .append, args := #[s, x], argTypes := #[t, t] })
    (base : Nat) (e : TypeId) (i : TypeInfo) (z : Value) (size bytes : Nat) (ht : P.underlying t = some (.slice e)) (hi : P.info? e = some i) (hz : i.zero = some z) (hsize : i.size = size) (hby : i.bytes = bytes) (hzs : z.cells.size = size) (hsz : 0 < size)
    (v : Value) (n : Nat) (xs : List Value) (hs : a.eval s = v) (hown : Win w base e size v n xs)
    (ad : Addr) (m c : Nat) (news : List Value) (hx : a.eval x = .slice (some ad) m c) (hl : news.length = m * size) (hnews : ∀ j u, news[j]? = some u → w.cell? (ad.add j) = some u) (h1 : ∀ u ∈ news, u.oneCell' = true)
    (hm : 0 < m) (h63 : n + m ≤ maxLen) (hbytes : (n + m) * bytes ≤ 140737488355328) (hbase : base ≤ w.heap.size)
    (h : ∀ f o' cap w', Win w' base e size (.slice (some ⟨f, o', none⟩) (n + m) cap) (n + m) (xs ++ news) → w.grownBy w' v.ownBlock → (v.ownBlock = some f ∨ w.heap.size ≤ f) → K (a.put o.dst (.slice (some ⟨f, o', none⟩) (n + m) cap)) w') : o.wp P a w K Q := by
  obtain ⟨v', w', hr, h2, h3, h4⟩ := run_append_win (P := P) w base t o.type e i z size bytes ht hi hz hsize hby hzs hsz v n xs hown ad m c news hl hnews h1 h63 hbytes hbase
  obtain ⟨f, o', cap, rfl, hf⟩ := h4 hm
  unfold Oper.wp execOp
  simp only [ho, resolve, invoke, builtin, Sem.run_bind, Sem.run_pure, Result.andThen_ok, List.map_toArray, List.map_cons, List.map_nil, hs, hx, hr]
  exact h f o' cap w' h2 h3 hf

/-- .. for the walk. -/
theorem wpList_append_win (hgd : o.guard = none) (s x : Operand) (t : TypeId) (ho : o.op = .call { callee := .builtin .append, args := #[s, x], argTypes := #[t, t] })
    (base : Nat) (e : TypeId) (i : TypeInfo) (z : Value) (size bytes : Nat) (ht : P.underlying t = some (.slice e)) (hi : P.info? e = some i) (hz : i.zero = some z) (hsize : i.size = size) (hby : i.bytes = bytes) (hzs : z.cells.size = size) (hsz : 0 < size)
    (v : Value) (n : Nat) (xs : List Value) (hs : a.eval s = v) (hown : Win w base e size v n xs)
    (ad : Addr) (m c : Nat) (news : List Value) (hx : a.eval x = .slice (some ad) m c) (hl : news.length = m * size) (hnews : ∀ j u, news[j]? = some u → w.cell? (ad.add j) = some u) (h1 : ∀ u ∈ news, u.oneCell' = true)
    (hm : 0 < m) (h63 : n + m ≤ maxLen) (hbytes : (n + m) * bytes ≤ 140737488355328) (hbase : base ≤ w.heap.size)
    (h : ∀ f o' cap w', Win w' base e size (.slice (some ⟨f, o', none⟩) (n + m) cap) (n + m) (xs ++ news) → w.grownBy w' v.ownBlock → (v.ownBlock = some f ∨ w.heap.size ≤ f) → wpList P ops Q rest (a.put o.dst (.slice (some ⟨f, o', none⟩) (n + m) cap)) w') : wpList P ops Q (o :: rest) a w :=
  wpList_plain hgd fun _ hK => wp_append_win w s x t ho base e i z size bytes ht hi hz hsize hby hzs hsz v n xs hs hown ad m c news hx hl hnews h1 hm h63 hbytes hbase fun f o' cap w' h2 h3 h4 => hK _ _ (h f o' cap w' h2 h3 h4)

/-- .. as one step of a region that draws its order. -/
theorem step_append_win (hgd : o.guard = none) (s x : Operand) (t : TypeId) (ho : o.op = .call { callee := .builtin .append, args := #[s, x], argTypes := #[t, t] })
    (base : Nat) (e : TypeId) (i : TypeInfo) (z : Value) (size bytes : Nat) (ht : P.underlying t = some (.slice e)) (hi : P.info? e = some i) (hz : i.zero = some z) (hsize : i.size = size) (hby : i.bytes = bytes) (hzs : z.cells.size = size) (hsz : 0 < size)
    (v : Value) (n : Nat) (xs : List Value) (hs : a.eval s = v) (hown : Win w base e size v n xs)
    (ad : Addr) (m c : Nat) (news : List Value) (hx : a.eval x = .slice (some ad) m c) (hl : news.length = m * size) (hnews : ∀ j u, news[j]? = some u → w.cell? (ad.add j) = some u) (h1 : ∀ u ∈ news, u.oneCell' = true)
    (hm : 0 < m) (h63 : n + m ≤ maxLen) (hbytes : (n + m) * bytes ≤ 140737488355328) (hbase : base ≤ w.heap.size)
    (h : ∀ f o' cap w', Win w' base e size (.slice (some ⟨f, o', none⟩) (n + m) cap) (n + m) (xs ++ news) → w.grownBy w' v.ownBlock → (v.ownBlock = some f ∨ w.heap.size ≤ f) → K (a.put o.dst (.slice (some ⟨f, o', none⟩) (n + m) cap)) w') :
    if Region.wanted o (yielded ops a.tmps) = true then Oper.wp P o a w K Q else E := by
  have hw : Region.wanted o (yielded ops a.tmps) = true := by simp [Region.wanted, hgd]
  rw [if_pos hw]
  exact wp_append_win w s x t ho base e i z size bytes ht hi hz hsize hby hzs hsz v n xs hs hown ad m c news hx hl hnews h1 hm h63 hbytes hbase h
end
end Go.Proofs.Ytmhmgenchpemkaa
