/- A part of a row is written; the table of open calls. -/
import Derived.StillTailTactics
import Derived.Test.YtfjghemojnhmbaaGreatCopy
namespace Go.Proofs.YtfjghemojnhmbaaGreat
open Go.RowKit

theorem flatten_len {α : Type} (m : Nat) : ∀ (L : List (List α)), (∀ r ∈ L, r.length = m) → L.flatten.length = L.length * m
  | [], _ => by simp
  | r :: L, h => by
    rw [List.flatten_cons, List.length_append, h r (by simp), flatten_len m L (fun r hr => h r (by simp [hr])), List.length_cons, Nat.succ_mul]
    omega
theorem Win.putRow {w : World} {base : Nat} {ty : TypeId} {f o cap n : Nat} {rows : List (List Value)} {k a : Nat} {row row' vs : List Value} (h : Win w base ty 23 (.slice (some ⟨f, o, none⟩) n cap) n rows.flatten)
    (hall : ∀ r ∈ rows, r.length = 23) (hk : rows[k]? = some row) (hl' : row'.length = 23) (ha : a + vs.length ≤ 23) (hin : ∀ j, j < vs.length → row'[a + j]? = vs[j]?) (hout : ∀ j, j < a ∨ a + vs.length ≤ j → row'[j]? = row[j]?) :
    Win (w.setCells f (o + k * 23 + a) vs) base ty 23 (.slice (some ⟨f, o, none⟩) n cap) n (rows.set k row').flatten := by
  have hfl := flatten_len 23 rows hall
  have hkl : k < rows.length := (List.getElem?_eq_some_iff.1 hk).1
  have hall' : ∀ r ∈ rows.set k row', r.length = 23 := by
    intro r hr
    rcases List.mem_or_eq_of_mem_set hr with h | h
    · exact hall r h
    · rw [h]; exact hl'
  have hfl' := flatten_len 23 (rows.set k row') hall'
  rw [List.length_set] at hfl'
  obtain ⟨hx, ⟨h0, _⟩ | ⟨f', o', cap', cur, e0, hf, hh, hnc, hcm, hcs, hat⟩⟩ := h
  · cases h0
  · cases e0
    obtain ⟨cur', q1, q2, _, q4⟩ := setCells_heap f ty vs (o + k * 23 + a) w cur hh
    have q3 : ∀ x, x < o + k * 23 + a ∨ o + k * 23 + a + vs.length ≤ x → cur'[x]? = cur[x]? := fun x hx' => by
      rw [← cell_of_row _ f x cur' ty (0, 0) q1, ← cell_of_row _ f x cur ty (0, 0) hh]
      exact World.cell?_setCells_out f vs (o + k * 23 + a) w ⟨f, x, none⟩ (fun _ _ => hx')
    refine ⟨by omega, .inr ⟨f, o, cap, cur', rfl, hf, q1, hnc, hcm, by omega, fun j hj => ?_⟩⟩
    obtain ⟨r, c, rfl, hc⟩ : ∃ r c, j = r * 23 + c ∧ c < 23 := ⟨j / 23, j % 23, by omega, by omega⟩
    have hr : r < rows.length := by omega
    have hnx : n = rows.length := by omega
    have hrv : rows[r]? = some (rows[r]'hr) := List.getElem?_eq_getElem hr
    by_cases hrk : r = k
    · subst hrk
      rw [flatten_get 23 (rows.set r row') r c row' hall' (by rw [List.getElem?_set_self hr]) hc]
      by_cases hca : a ≤ c ∧ c < a + vs.length
      · have := q4 (c - a) (by omega) (by omega)
        rw [show o + r * 23 + a + (c - a) = o + (r * 23 + c) from by omega] at this
        rw [this, ← hin (c - a) (by omega), show a + (c - a) = c from by omega]
      · rw [q3 _ (by first | (left; omega) | (right; omega) | omega), hat (r * 23 + c) hj, flatten_get 23 rows r c row hall hk hc, hout c (by omega)]
    · rw [flatten_get 23 (rows.set k row') r c _ hall' (by rw [List.getElem?_set_ne (fun e => hrk e.symm)]; exact hrv) hc, ← flatten_get 23 rows r c _ hall hrv hc]
      rw [q3 _ (by rcases Nat.lt_or_ge r k with h1 | h1 <;> omega)]
      exact hat (r * 23 + c) hj

theorem Outs.close {w w' : World} {base bo : Nat} {ty : TypeId} {f o cap n k i : Nat} {l : List OpI} {q : OpI} {e : Ev} {y z : Value} (h : Outs w base bo ty (.slice (some ⟨f, o, none⟩) n cap) l) (hk : l[k]? = some q)
    (hy : Den 1 w y (byts e.r.ds)) (hz : Den 16 w z (strs e.r.ss)) (oy : Off y f) (oz : Off z f) (oy' : Off y bo) (oz' : Off z bo)
    (hw : w' = (w.setCells f (o + k * 23 + 10) (e.r.cells y z)).setCell ⟨f, o + k * 23 + 22, none⟩ (.int .i64 i)) : Outs w' base bo ty (.slice (some ⟨f, o, none⟩) n cap) (l.modify k (closed · e i)) ∧ Frm [f] w w' := by
  have F : Frm [f] w w' := by rw [hw]; exact (Frm.setCells (by simp) _ _ (Frm.refl _ _)).setCell (by simp) _
  refine ⟨?_, F⟩
  obtain ⟨rows, h1, h2, h3⟩ := h
  have hkl : k < l.length := (List.getElem?_eq_some_iff.1 hk).1
  have hall : ∀ r ∈ rows, r.length = 23 := by
    intro r hm
    obtain ⟨j, hj, rfl⟩ := List.getElem_of_mem hm
    obtain ⟨_, _, _, e, _⟩ := h3 j (l[j]'(by omega)) _ (List.getElem?_eq_getElem _) (List.getElem?_eq_getElem hj)
    rw [e]; rfl
  have hrk : rows[k]? = some (rows[k]'(by omega)) := List.getElem?_eq_getElem _
  obtain ⟨x, y0, z0, e0, t0, p0⟩ := h3 k q _ hk hrk
  obtain ⟨ox, _, _⟩ := p0 f (.inr rfl)
  obtain ⟨ox', _, _⟩ := p0 bo (.inl rfl)
  have hn : n = l.length := by obtain ⟨a, c, e⟩ := h2.value; cases e; rfl
  subst hn
  rw [e0] at hrk
  have s1 := h2.putRow hall hrk (row' := (⟨q.t, q.f, q.o, q.c, e.r⟩ : OpI).cells x y z) (a := 10) (vs := e.r.cells y z) rfl (by show 10 + 11 ≤ 23; omega) (fun j hj => by
      have : j < 11 := hj
      match j, this with
      | 0, _ | 1, _ | 2, _ | 3, _ | 4, _ | 5, _ | 6, _ | 7, _ | 8, _ | 9, _ | 10, _ => rfl) (fun j hj => by
      have : j < 10 ∨ 21 ≤ j := hj
      match j, this with
      | 0, _ | 1, _ | 2, _ | 3, _ | 4, _ | 5, _ | 6, _ | 7, _ | 8, _ | 9, _ | 21, _ | 22, _ => rfl
      | j + 23, _ => rfl
      | 10, h | 11, h | 12, h | 13, h | 14, h | 15, h | 16, h | 17, h | 18, h | 19, h | 20, h => exact absurd h (by omega))
  have hall1 : ∀ r ∈ rows.set k ((⟨q.t, q.f, q.o, q.c, e.r⟩ : OpI).cells x y z), r.length = 23 := by
    intro r hr
    rcases List.mem_or_eq_of_mem_set hr with h | h
    · exact hall r h
    · rw [h]; rfl
  have s2 := s1.putRow hall1 (List.getElem?_set_self (by omega)) (row' := (closed q e i).cells x y z) (a := 22) (vs := [.int .i64 i]) rfl (by show 22 + 1 ≤ 23; omega) (fun j hj => by
      obtain rfl : j = 0 := by simpa using hj
      rfl) (fun j hj => by
      have : j < 22 ∨ 23 ≤ j := hj
      match j, this with
      | 0, _ | 1, _ | 2, _ | 3, _ | 4, _ | 5, _ | 6, _ | 7, _ | 8, _ | 9, _ | 10, _ | 11, _ | 12, _ | 13, _ | 14, _ | 15, _ | 16, _ | 17, _ | 18, _ | 19, _ | 20, _ | 21, _ => rfl
      | j + 23, _ => rfl
      | 22, h => exact absurd h (by omega))
  rw [List.set_set] at s2
  refine ⟨rows.set k ((closed q e i).cells x y z), by simp [h1], ?_, fun j r row hj hr => ?_⟩
  · rw [hw, List.length_modify]
    exact s2
  · by_cases hjk : j = k
    · subst hjk
      rw [List.getElem?_set_self (by omega)] at hr
      rw [List.getElem?_modify_eq, hk] at hj
      cases hr
      cases hj
      exact ⟨x, y, z, rfl, ⟨t0.1.frm F (by intro b hb; simp at hb; subst hb; exact ox), hy.frm F (by intro b hb; simp at hb; subst hb; exact oy), hz.frm F (by intro b hb; simp at hb; subst hb; exact oz)⟩,
        fun B hB => by
          rcases hB with rfl | hB
          · exact ⟨ox', oy', oz'⟩
          · cases hB; exact ⟨ox, oy, oz⟩⟩
    · rw [List.getElem?_set_ne (fun e => hjk e.symm)] at hr
      rw [List.getElem?_modify_ne _ _ (fun h => hjk h.symm)] at hj
      obtain ⟨x', y', z', e', t', p'⟩ := h3 j r row hj hr
      have := p' f (.inr rfl)
      exact ⟨x', y', z', e', t'.frm F (by intro b hb; simp at hb; subst hb; exact this), p'⟩

def opArr (op : Nat → Nat) : Array Value := #[.int .i64 (op 0), .int .i64 (op 1), .int .i64 (op 2), .int .i64 (op 3), .int .i64 (op 4), .int .i64 (op 5), .int .i64 (op 6), .int .i64 (op 7)]
theorem opArr_get (op : Nat → Nat) {T : Nat} (hT : T < 8) : (opArr op)[T]? = some (.int .i64 (op T)) := by
  match T, hT with
  | 0, _ | 1, _ | 2, _ | 3, _ | 4, _ | 5, _ | 6, _ | 7, _ => rfl
theorem opArr_set (op : Nat → Nat) {T : Nat} (hT : T < 8) (v : Nat) : (opArr op).setIfInBounds T (.int .i64 v) = opArr (updN op T v) := by
  match T, hT with
  | 0, _ | 1, _ | 2, _ | 3, _ | 4, _ | 5, _ | 6, _ | 7, _ => rfl
end Go.Proofs.YtfjghemojnhmbaaGreat
/- The walk of hist.Ops. -/
namespace Go.Proofs.YtfjghemojnhmbaaGreat
open Go.RowKit

def OpI.zero : OpI := ⟨0, 0, 0, ⟨0, 0, 0, 0, 0, 0, ⟨#[]⟩, ⟨#[]⟩, []⟩, Res.zero⟩
theorem info97 : (Tryz.prog.info? 97).map (fun i => (i.zero, i.size, i.bytes)) = some (some (.agg (OpI.zero.cells (.slice none 0 0) (.slice none 0 0) (.slice none 0 0)).toArray), 23, 248) := by kernel_rfl
theorem Den.one {by_ : Nat} {w : World} {v : Value} {vs : List Value} (h : Den by_ w v vs) : v.oneCell' = true := by
  obtain ⟨p, c, rfl⟩ := h.value
  rfl
theorem Ev.one {w : World} {e : Ev} {x y z : Value} (h : Tri w e.c e.r x y z) : (e.cells x y z).toArray.all (·.oneCell') = true := by
  unfold Ev.cells
  simp only [List.all_toArray, List.all_cons, List.all_nil, h.1.one, h.2.1.one, h.2.2.one]
  rfl
theorem Cal.one {w : World} {c : Cal} {x : Value} (h : Den 1 w x (byts c.ds)) : (c.cells x).toArray.all (·.oneCell') = true := by
  unfold Cal.cells
  simp only [List.all_toArray, List.all_cons, List.all_nil, h.one]
  rfl
theorem new_set {w : World} {C : Array Value} {ty : TypeId} {vs : List Value} (hC : C.size = vs.length) : Holds ((w.alloc (.cells C ty)).setCells w.heap.size 0 vs) w.heap.size vs.toArray ∧ Below w.heap.size w ((w.alloc (.cells C ty)).setCells w.heap.size 0 vs) :=
  ⟨(Holds.new w C ty).setCells hC.symm, ((Below.refl _ _).alloc (Nat.le_refl _) _).trans (Frm.below (l := [w.heap.size]) (Frm.setCells (by simp) _ _ (Frm.refl _ _)) (by simp) (by simp))⟩
theorem OpI.one {w : World} {o : OpI} {x y z : Value} (h : Tri w o.c o.r x y z) : ∀ u ∈ o.cells x y z, u.oneCell' = true := by
  have : (o.cells x y z).all (·.oneCell') = true := by
    unfold OpI.cells
    simp only [List.all_cons, List.all_nil, h.1.one, h.2.1.one, h.2.2.one]
    rfl
  exact List.all_eq_true.1 this
theorem Off.nil (B : Nat) : Off (.slice none 0 0) B := fun a n c e => by cases e
theorem Outs.there {w : World} {base bo : Nat} {ty : TypeId} {f o cap n : Nat} {l : List OpI} (h : Outs w base bo ty (.slice (some ⟨f, o, none⟩) n cap) l) {k : Nat} (hk : k < l.length) : w.there f (o + k * 23) 23 := by
  obtain ⟨x, y, z, _, _, hr⟩ := h.row (List.getElem?_eq_getElem hk)
  obtain ⟨rows, _, h2, _⟩ := h
  intro j hj
  refine ⟨?_, ?_⟩
  · have := hr j _ (List.getElem?_eq_getElem (show j < ((l[k]'hk).cells x y z).length from hj))
    rw [this]; rfl
  · have hn : n = l.length := by obtain ⟨a, c, e⟩ := h2.value; cases e; rfl
    subst hn
    exact h2.free _
theorem there_sub {w : World} {b o n a m : Nat} (h : w.there b o n) (hm : a + m ≤ n) : w.there b (o + a) m := fun j hj => by
  rw [Nat.add_assoc]
  exact h (a + j) (by omega)
theorem frozen_setCells (b : Nat) (x : Addr) : ∀ (vs : List Value) (o : Nat) (w : World), (w.setCells b o vs).frozen? x = w.frozen? x
  | [], _, _ => rfl
  | _ :: r, o, _ => (frozen_setCells b x r (o + 1) _).trans (World.frozen?_setCell _ _ _ _)
theorem okE_no {s : St} {e : Ev} (h : okE s e = false) : (e.k ≠ 1 ∧ e.k ≠ 2) ∨ ((e.k = 1 ∨ e.k = 2) ∧ e.t < 0) ∨ ((e.k = 1 ∨ e.k = 2) ∧ 8 ≤ e.t) ∨ ∃ T : Nat, T < 8 ∧ e.t = (T : Int) ∧ ((e.k = 1 ∧ s.op T ≠ 0) ∨ (e.k = 2 ∧ s.op T = 0)) := by
  unfold okE at h
  have h := of_decide_eq_false h
  by_cases h1 : e.k = 1 ∨ e.k = 2
  · right
    by_cases h2 : e.t < 0
    · exact .inl ⟨h1, h2⟩
    · by_cases h3 : 8 ≤ e.t
      · exact .inr (.inl ⟨h1, h3⟩)
      · refine .inr (.inr ⟨e.t.toNat, by omega, by omega, ?_⟩)
        by_cases h4 : s.op e.t.toNat = 0
        · rcases h1 with h1 | h1
          · exact absurd ⟨.inl h1, by omega, by omega, by simp [h1, h4]⟩ h
          · exact .inr ⟨h1, h4⟩
        · rcases h1 with h1 | h1
          · exact .inl ⟨h1, h4⟩
          · exact absurd ⟨.inr h1, by omega, by omega, by simp [h1, h4]⟩ h
  · exact .inl ⟨fun e => h1 (.inl e), fun e => h1 (.inr e)⟩
theorem okE_yes {s : St} {e : Ev} (h : okE s e = true) : ∃ T : Nat, T < 8 ∧ e.t = (T : Int) ∧ ((e.k = 1 ∧ s.op T = 0) ∨ (e.k = 2 ∧ ∃ q, s.op T = q + 1)) := by
  unfold okE at h
  obtain ⟨h1, h2, h3, h4⟩ := of_decide_eq_true h
  refine ⟨e.t.toNat, by omega, by omega, ?_⟩
  rcases h1 with h1 | h1
  · exact .inl ⟨h1, h4.1 h1⟩
  · exact .inr ⟨h1, s.op e.t.toNat - 1, by
      have : s.op e.t.toNat ≠ 0 := fun h => by have := h4.2 h; omega
      omega⟩
theorem stepE_open {s : St} {e : Ev} {T : Nat} (hk : e.k = 1) (he : e.t = (T : Int)) (i : Nat) : stepE s i e = ⟨s.l ++ [opened e i], updN s.op T (s.l.length + 1)⟩ := by
  unfold stepE
  rw [if_pos hk, he, Int.toNat_natCast]
theorem stepE_close {s : St} {e : Ev} {T q : Nat} (hk : e.k = 2) (he : e.t = (T : Int)) (hq : s.op T = q + 1) (i : Nat) : stepE s i e = ⟨s.l.modify q (closed · e i), updN s.op T 0⟩ := by
  unfold stepE
  rw [if_neg (by omega), he, Int.toNat_natCast, hq, Nat.add_sub_cancel]
theorem fieldsOf {w : World} {b o : Nat} {cs : List Value} (h : w.rangeAt b o cs) : ∀ j v, cs[j]? = some v → w.cell? ⟨b, o + j, none⟩ = some v := h

set_option maxRecDepth 100000 in
set_option maxHeartbeats 16000000 in
theorem ops_any {w : World} {a : Option Addr} {n cap : Nat} {E : List Ev} (hE : E.length = n) (hr : Evs w a E) (hn : n ≤ 1000) :
    Calls Tryz.prog 13 #[.slice a n cap] w fun e w' => ∃ v, e = .returned (.tuple #[v, .int .i64 (whyOf (ops E)), .int .i64 (atOf (ops E))]) ∧ Outs w' (w.heap.size + 1) w.heap.size 97 v (listOf (ops E)) ∧ Below w.heap.size w w' := by
  obtain ⟨i40, hi40, hz0, hz1, hz2⟩ := info_parts info97
  go_enter Tryz.func13, Tryz.ntmps13
  go_wp2_with fail
  go_step3
  go_wp2_with fail
  go_step3
  go_wp2_with fail
  have HO : Hid (Holds (w.alloc (.cells (opArr fun _ => 0) 94)) w.heap.size (opArr fun _ => 0)) := Lib.hid (Holds.new _ _ _)
  have HB : Hid (Below w.heap.size w (w.alloc (.cells (opArr fun _ => 0) 94))) := Lib.hid ((Below.refl _ _).alloc (Nat.le_refl _) _)
  go_loopw [5, 13] (fun ov iv wr => ∃ i s, i ≤ n ∧ iv = .int .i64 i ∧ Hid (s.fine ∧ s.l.length ≤ i ∧ runE (E.drop i) i s = ops E ∧ Outs wr (w.heap.size + 1) w.heap.size 97 ov s.l ∧ Holds wr w.heap.size (opArr s.op) ∧ Below w.heap.size w wr)) (fun _ iv _ => n - (intOf iv).toNat)
  case atStart => exact ⟨0, St.new, by omega, rfl, St.fine_new, by simp [St.new], rfl, Outs.nil _ _ _ _, HO.out, HB.out⟩
  case round =>
    obtain ⟨i, s, hin, rfl, HS⟩ := hrel
    by_cases hi : i < n
    · have h0 : (0 : Int) ≤ (i : Int) := by omega
      have h1 : (i : Int) < (n : Int) := by omega
      obtain ⟨e, he⟩ : ∃ e, E[i]? = some e := ⟨_, List.getElem?_eq_getElem (by omega)⟩
      rcases hr with hr | ⟨b, off, rfl, hb, hev⟩
      · omega
      obtain ⟨x, y, z, ht, hR⟩ := hev i e he
      have hst := runE_drop he s
      have R1 : wr.rangeAt b (off + i * 22) (e.cells x y z) := fun j v hj => (HS.out.2.2.2.2.2.cell (p := ⟨b, off + i * 22 + j, none⟩) hb).trans (hR j v hj)
      have ZA : Hid (∀ C : Array Value, C.size = 22 → (wr.alloc (.cells C 44)).there wr.heap.size 0 (e.cells x y z).toArray.size) := Lib.hid (fun C hC => by
        have := (Holds.new wr C 44).there
        rw [hC] at this
        exact this)
      have EO := Ev.one ht
      go_upto_region 6 with (first | (refine wpList_load_mid rfl 44 (.tmp 16) rfl b (off + i * 22) rfl (e.cells x y z) _ R1 Tryz.underlying44 rfl size35 ?_) | (refine wpList_store_mid rfl 44 (.tmp 8) (.tmp 17) rfl wr.heap.size 0 (e.cells x y z).toArray rfl rfl (ZA.out _ rfl) size35 EO ?_))
      have H2 : Hid (∀ C : Array Value, C.size = 22 → Holds ((wr.alloc (.cells C 44)).setCells wr.heap.size 0 (e.cells x y z)) wr.heap.size (e.cells x y z).toArray ∧ Below wr.heap.size wr ((wr.alloc (.cells C 44)).setCells wr.heap.size 0 (e.cells x y z))) := Lib.hid (fun C hC => ⟨(Holds.new wr C 44).setCells hC.symm, ((Below.refl _ _).alloc (Nat.le_refl _) _).trans (Frm.below (l := [wr.heap.size]) (Frm.setCells (by simp) _ _ (Frm.refl _ _)) (by simp) (by simp))⟩)
      have H2 := Lib.hid (H2.out _ (show (#[.int .i64 0, .int .i64 0, .int .i64 0, .string ⟨#[]⟩, .string ⟨#[]⟩, .int .i64 0, .int .i64 0, .int .i64 0, .int .i64 0, .int .i64 0, .slice none 0 0, .int .i64 0, .int .i64 0, .slice none 0 0, .slice none 0 0, .int .i64 0, .int .i64 0, .int .i64 0, .int .i64 0, .int .i64 0, .int .i64 0, .int .i64 0] : Array Value).size = 22 from rfl))
      generalize ((wr.alloc (.cells (#[.int .i64 0, .int .i64 0, .int .i64 0, .string ⟨#[]⟩, .string ⟨#[]⟩, .int .i64 0, .int .i64 0, .int .i64 0, .int .i64 0, .int .i64 0, .slice none 0 0, .int .i64 0, .int .i64 0, .slice none 0 0, .slice none 0 0, .int .i64 0, .int .i64 0, .int .i64 0, .int .i64 0, .int .i64 0, .int .i64 0, .int .i64 0] : Array Value) 44)).setCells wr.heap.size 0 (e.cells x y z)) = W at *
      obtain ⟨Bq, hBq⟩ : ∃ Bq, Bq = wr.heap.size := ⟨_, rfl⟩
      have hBw : w.heap.size < Bq := by rw [hBq]; exact HS.out.2.2.2.2.1.lt
      have hub : Hid (∀ k, u5.ownBlock = some k → w.heap.size + 1 ≤ k ∧ k < Bq) := Lib.hid (by rw [hBq]; exact HS.out.2.2.2.1.lt)
      rw [← hBq] at H2 ⊢
      have H4 := Lib.hid H2.out.1
      have HT := Lib.hid (ht.below (HS.out.2.2.2.2.2.trans (by have := H2.out.2; rw [hBq] at this; exact this.mono HS.out.2.2.2.2.2.size)))
      have H3 : Hid (s.fine ∧ s.l.length ≤ i ∧ runE (E.drop i) i s = ops E ∧ Outs W (w.heap.size + 1) w.heap.size 97 u5 s.l ∧ Holds W w.heap.size (opArr s.op) ∧ Below w.heap.size w W) := Lib.hid (by
        obtain ⟨a1, a2, a3, a4, a5, a6⟩ := HS.out
        have b2 := H2.out.2
        rw [hBq] at b2
        exact ⟨a1, a2, a3, a4.below b2, a5.below b2, a6.trans (b2.mono a6.size)⟩)
      have v0 : W.cell? ⟨Bq, 0, none⟩ = some (.int .i64 e.k) := H4.out.cell 0
      have v1 : W.cell? ⟨Bq, 1, none⟩ = some (.int .i64 e.t) := H4.out.cell 1
      have HST := Lib.hid hst
      clear hst H2 HS ZA EO R1 hR ht hev hBq he
      by_cases hk3 : e.k = 3
      · have d3 : (e.k == 3) = true := by simpa using hk3
        have HK3 := Lib.hid hk3
        clear hk3
        go_wp2_with fail
        go_roundw
        case rel => exact ⟨i + 1, s, by omega, by go_num, H3.out.1, by have := H3.out.2.1; omega, by have := HST.out; rw [if_pos HK3.out] at this; exact this.symm.trans H3.out.2.2.1, H3.out.2.2.2⟩
        case measure => simp [intOf]; omega
      · have d3 : (e.k == 3) = false := by simpa using hk3
        have HK3 := Lib.hid hk3
        clear hk3
        by_cases hok : okE s e = true
        · have hnx : Hid (runE (E.drop (i + 1)) (i + 1) (stepE s i e) = ops E) := Lib.hid (by
            have := HST.out
            rw [if_neg HK3.out, if_pos hok] at this
            exact this.symm.trans H3.out.2.2.1)
          obtain ⟨T, hT, he, h12⟩ := okE_yes hok
          rw [he] at v1
          have HE := Lib.hid he
          have t0 : (0 : Int) ≤ (T : Int) := by omega
          have t1 : (T : Int) < 8 := by omega
          have t2 : decide ((T : Int) < 0) = false := decide_eq_false (by omega)
          have t3 : decide (8 ≤ (T : Int)) = false := decide_eq_false (by omega)
          have vT : W.cell? ⟨w.heap.size, T, none⟩ = some (.int .i64 (s.op T)) := (H3.out.2.2.2.2.1.cell T).trans (opArr_get s.op hT)
          clear he hok
          rcases h12 with ⟨h1, h2⟩ | ⟨h1, q, h2⟩
          · rw [h1] at v0
            rw [h2] at vT
            have HK1 := Lib.hid h1
            have HOP := Lib.hid h2
            clear h1 h2
            go_wp2_with fail
            go_quiet (fail)
            have H5 := Lib.hid (H4.out.drewN nq)
            have T5 : Hid (Tri (W.drewN nq) e.c e.r x y z) := HT
            have H6 : Hid (s.fine ∧ s.l.length ≤ i ∧ Outs (W.drewN nq) (w.heap.size + 1) w.heap.size 97 u5 s.l ∧ Holds (W.drewN nq) w.heap.size (opArr s.op) ∧ Below w.heap.size w (W.drewN nq)) := Lib.hid ⟨H3.out.1, H3.out.2.1, H3.out.2.2.2.1.below (below_drewN (Below.refl _ _) nq), H3.out.2.2.2.2.1.drewN nq, below_drewN H3.out.2.2.2.2.2 nq⟩
            clear v0 v1 vT H4 HT H3 t2 t3 d3
            generalize W.drewN nq = W3 at *
            have v0 : W3.cell? ⟨Bq, 0, none⟩ = some (.int .i64 e.k) := H5.out.cell 0
            rw [HK1.out] at v0
            have R3 : W3.rangeAt Bq 2 (e.c.cells x) := fun j v hj => by
              have hl : j < 9 := (List.getElem?_eq_some_iff.1 hj).1
              rw [H5.out.cell, ← hj]
              match j, hl with
              | 0, _ | 1, _ | 2, _ | 3, _ | 4, _ | 5, _ | 6, _ | 7, _ | 8, _ => rfl
            have ZA : Hid (∀ C : Array Value, C.size = 9 → (W3.alloc (.cells C 42)).there W3.heap.size 0 (e.c.cells x).toArray.size) := Lib.hid (fun C hC => by
              have := (Holds.new W3 C 42).there
              rw [hC] at this
              exact this)
            have EO := Cal.one T5.out.1
            go_upto_region 11 with (first | (refine wpList_load_mid rfl 42 (.tmp 54) rfl Bq 2 rfl (e.c.cells x) _ R3 Tryz.underlying42 rfl size28 ?_) | (refine wpList_store_mid rfl 42 (.tmp 9) (.tmp 55) rfl W3.heap.size 0 (e.c.cells x).toArray rfl rfl (ZA.out _ rfl) size28 EO ?_))
            obtain ⟨H7, b7⟩ := new_set (w := W3) (C := #[.int .i64 0, .string ⟨#[]⟩, .string ⟨#[]⟩, .int .i64 0, .int .i64 0, .int .i64 0, .int .i64 0, .int .i64 0, .slice none 0 0]) (ty := 42) (vs := e.c.cells x) rfl
            have H7 := Lib.hid H7
            have b7 := Lib.hid b7
            generalize (W3.alloc (.cells (#[.int .i64 0, .string ⟨#[]⟩, .string ⟨#[]⟩, .int .i64 0, .int .i64 0, .int .i64 0, .int .i64 0, .int .i64 0, .slice none 0 0] : Array Value) 42)).setCells W3.heap.size 0 (e.c.cells x) = W4 at *
            have hq3 := H5.out.lt
            have DX := Lib.hid (T5.out.1.below b7.out)
            have S4 := Lib.hid b7.out.size
            have B4 := Lib.hid (H6.out.2.2.2.2.trans (b7.out.mono H6.out.2.2.2.2.size))
            have c8 : W4.cell? ⟨W3.heap.size, 8, none⟩ = some x := H7.out.cell 8
            clear v0 R3 ZA EO
            go_upto_region 12 with (first | (go_at_call 32; refine (clone_bytes DX.out).mono ?_; rintro e5 w5 ⟨x', rfl, dx, fx, b5⟩; obtain ⟨p1, c1, rfl⟩ := dx.value; have H8 := Lib.hid (H7.out.below b5); have B8 := Lib.hid b5; have DX' := Lib.hid dx; have FX := Lib.hid fx; have c8 : w5.cell? ⟨W3.heap.size, 8, none⟩ = some x := H8.out.cell 8; have f8 : w5.frozen? ⟨W3.heap.size, 8, none⟩ = false := H8.out.free 8; clear dx fx b5))
            have H9 : Hid (Holds (w5.setCell ⟨W3.heap.size, 8, none⟩ (.slice p1 (byts e.c.ds).length c1)) W3.heap.size (e.c.cells (.slice p1 (byts e.c.ds).length c1)).toArray) := Lib.hid (H8.out.set 8 _ (by show 8 < 9; omega))
            have hlt4 : W3.heap.size < W4.heap.size := H7.out.lt
            have F9 : Frm [W3.heap.size] w5 (w5.setCell ⟨W3.heap.size, 8, none⟩ (.slice p1 (byts e.c.ds).length c1)) := (Frm.refl _ _).setCell (by simp) _
            have DX9 := Lib.hid (DX'.out.frm F9 (by intro k hk; simp at hk; subst hk; exact FX.out.off hlt4))
            have B9 : Hid (Below W3.heap.size W3 (w5.setCell ⟨W3.heap.size, 8, none⟩ (.slice p1 (byts e.c.ds).length c1))) := Lib.hid ((b7.out.trans (B8.out.mono b7.out.size)).trans (F9.below (Nat.le_trans b7.out.size B8.out.size) (by simp)))
            generalize w5.setCell ⟨W3.heap.size, 8, none⟩ (.slice p1 (byts e.c.ds).length c1) = W9 at *
            clear F9 H7 H8 B8 DX DX' c8 f8
            obtain ⟨rows, hR⟩ := H6.out.2.2.1
            have hR := Lib.hid (hR.below (B9.out.mono (Nat.le_refl _)))
            have HQ := Lib.hid (H5.out.below B9.out)
            have HP := Lib.hid (H6.out.2.2.2.1.below B9.out)
            have T9 := Lib.hid (show Tri W9 (⟨(T : Int), i, -1, e.c, Res.zero⟩ : OpI).c (⟨(T : Int), i, -1, e.c, Res.zero⟩ : OpI).r (.slice p1 (byts e.c.ds).length c1) (.slice none 0 0) (.slice none 0 0) from ⟨DX9.out, Den.nil _ _, Den.nil _ _⟩)
            have v1 : W9.cell? ⟨Bq, 1, none⟩ = some (.int .i64 (T : Int)) := by rw [← HE.out]; exact HQ.out.cell 1
            have R9 : W9.rangeAt W3.heap.size 0 [.int .i64 e.c.c0, .string e.c.c1, .string e.c.c2, .int .i64 e.c.c3, .int .i64 e.c.c4, .int .i64 e.c.c5, .int .i64 e.c.c6, .int .i64 e.c.c7, .slice p1 (byts e.c.ds).length c1] := H9.out.range
            have hlen := H6.out.2.1
            have hO9 := OpI.one T9.out
            have hbs : w.heap.size + 1 ≤ W9.heap.size := Nat.le_trans (Nat.lt_of_lt_of_le hBw (Nat.le_of_lt hq3)) B9.out.size
            go_upto_region 13 with (first | (refine wpList_load_mid rfl 42 (.tmp 9) rfl W3.heap.size 0 rfl _ _ R9 Tryz.underlying42 rfl size28 ?_) | (at_builtin; refine wpList_append_win _ rfl (.tmp 60) (.tmp 66) 57 rfl (w.heap.size + 1) 97 i40 _ 23 248 Tryz.underlying57 hi40 hz0 hz1 hz2 rfl (by decide) u5 s.l.length rows.flatten rfl (hR.out.2.1.alloc _) ⟨W9.heap.size, 0, none⟩ 1 1 ((⟨(T : Int), i, -1, e.c, Res.zero⟩ : OpI).cells (.slice p1 (byts e.c.ds).length c1) (.slice none 0 0) (.slice none 0 0)) rfl rfl (new_cells W9 ((⟨(T : Int), i, -1, e.c, Res.zero⟩ : OpI).cells (.slice p1 (byts e.c.ds).length c1) (.slice none 0 0) (.slice none 0 0)) 97) hO9 (by omega) (by unfold maxLen; omega) (by omega) (by rw [World.size_alloc]; omega) ?_; intro f' o' cap' w7 hown hgrow hat))
            have OUT7 := Lib.hid ((hR.out.below ((Below.refl _ _).alloc (Nat.le_refl _) (.cells ((⟨(T : Int), i, -1, e.c, Res.zero⟩ : OpI).cells (.slice p1 (byts e.c.ds).length c1) (.slice none 0 0) (.slice none 0 0)).toArray 97))).push (T9.out.below ((Below.refl _ _).alloc (Nat.le_refl _) _)) (by
              intro B hB
              refine ⟨FX.out.off ?_, Off.nil _, Off.nil _⟩
              rcases hB with rfl | hB
              · omega
              · have := (hub.out B hB).2; omega) hgrow hat hown)
            have F7 : Frm (u5.ownBlock.toList) (W9.alloc (.cells ((⟨(T : Int), i, -1, e.c, Res.zero⟩ : OpI).cells (.slice p1 (byts e.c.ds).length c1) (.slice none 0 0) (.slice none 0 0)).toArray 97)) w7 := Frm.of_grown hgrow (fun k hk _ => by
              rw [Option.mem_toList]
              exact hk)
            have HQ7 := Lib.hid ((HQ.out.alloc _).frm F7 (by
              rw [Option.mem_toList]
              intro h; have := (hub.out _ h).2; omega))
            have HP7 := Lib.hid ((HP.out.alloc _).frm F7 (by
              rw [Option.mem_toList]
              intro h; have := (hub.out _ h).1; omega))
            have B7 : Hid (Below w.heap.size w w7) := Lib.hid (((H6.out.2.2.2.2.trans (B9.out.mono (Nat.le_of_lt (Nat.lt_trans hBw hq3)))).alloc (by omega) _).trans (F7.below (by simp; omega) (by
              intro k hk
              rw [Option.mem_toList] at hk
              have := (hub.out k hk).1; omega)))
            have hff : f' ≠ w.heap.size := by
              rcases hat with h | h
              · have := (hub.out _ h).1; omega
              · simp at h; omega
            clear hown hgrow hat F7 R9 v1
            have v1 : w7.cell? ⟨Bq, 1, none⟩ = some (.int .i64 (T : Int)) := by rw [← HE.out]; exact HQ7.out.cell 1
            have vT : w7.cell? ⟨w.heap.size, T, none⟩ = some (.int .i64 (s.op T)) := (HP7.out.cell T).trans (opArr_get s.op hT)
            have fT : w7.frozen? ⟨w.heap.size, T, none⟩ = false := HP7.out.free T
            go_wp2_with fail
            go_roundw
            case rel =>
              refine ⟨i + 1, stepE s i e, by omega, by go_num, St.fine_step H6.out.1 i e, by have := stepE_len s i e; omega, hnx.out, ?_⟩
              rw [stepE_open HK1.out HE.out]
              have F8 : Frm [w.heap.size] w7 (w7.setCell ⟨w.heap.size, T, none⟩ (.int .i64 ((s.l.length + 1 : Nat) : Int))) := (Frm.refl _ _).setCell (by simp) _
              refine ⟨?_, ?_, ?_⟩
              · have := OUT7.out.frm F8 (by intro k hk; simp at hk; subst hk; exact ⟨rfl, by simpa [Value.ownBlock] using hff⟩)
                have eo : opened e i = ⟨(T : Int), i, -1, e.c, Res.zero⟩ := by rw [← HE.out]; rfl
                rw [eo]
                exact this
              · have := HP7.out.set T (.int .i64 ((s.l.length + 1 : Nat) : Int)) hT
                rw [opArr_set s.op hT] at this
                exact this
              · exact B7.out.trans (F8.below B7.out.size (by simp))
            case measure => simp [intOf]; omega
          · rw [h1] at v0
            rw [h2] at vT
            have HK1 := Lib.hid h1
            have HOP := Lib.hid h2
            have hql : q < s.l.length := by have := H3.out.1 T; omega
            have q0 : (0 : Int) ≤ (q : Int) := by omega
            have q1 : (q : Int) < (s.l.length : Int) := by omega
            have hlen := H3.out.2.1
            have dq : (((q + 1 : Nat) : Int) == 0) = false := beq_eq_false_iff_ne.2 (by omega)
            obtain ⟨f, o, cp, rfl⟩ : ∃ f o cp, u5 = .slice (some ⟨f, o, none⟩) s.l.length cp := by
              obtain ⟨_, _, hw, _⟩ := H3.out.2.2.2.1
              exact hw.form (by omega)
            clear h1 h2
            go_wp2_with fail
            go_quiet (fail)
            have H5 := Lib.hid (H4.out.drewN nq)
            have T5 : Hid (Tri (W.drewN nq) e.c e.r x y z) := HT
            have H6 : Hid (s.fine ∧ s.l.length ≤ i ∧ Outs (W.drewN nq) (w.heap.size + 1) w.heap.size 97 (.slice (some ⟨f, o, none⟩) s.l.length cp) s.l ∧ Holds (W.drewN nq) w.heap.size (opArr s.op) ∧ Below w.heap.size w (W.drewN nq)) := Lib.hid ⟨H3.out.1, H3.out.2.1, H3.out.2.2.2.1.below (below_drewN (Below.refl _ _) nq), H3.out.2.2.2.2.1.drewN nq, below_drewN H3.out.2.2.2.2.2 nq⟩
            clear v0 v1 vT H4 HT H3 t2 t3 d3
            generalize W.drewN nq = W3 at *
            have v0 : W3.cell? ⟨Bq, 0, none⟩ = some (.int .i64 e.k) := H5.out.cell 0
            rw [HK1.out] at v0
            have v1 : W3.cell? ⟨Bq, 1, none⟩ = some (.int .i64 (T : Int)) := by rw [← HE.out]; exact H5.out.cell 1
            have vT : W3.cell? ⟨w.heap.size, T, none⟩ = some (.int .i64 ((q : Int) + 1)) := by
              rw [H6.out.2.2.2.1.cell T, opArr_get s.op hT, HOP.out]
              rfl
            have R3 : W3.rangeAt Bq 11 (e.r.cells y z) := fun j v hj => by
              have hl : j < 11 := (List.getElem?_eq_some_iff.1 hj).1
              rw [H5.out.cell, ← hj]
              match j, hl with
              | 0, _ | 1, _ | 2, _ | 3, _ | 4, _ | 5, _ | 6, _ | 7, _ | 8, _ | 9, _ | 10, _ => rfl
            go_upto_region 15 with fail
            go_wp2_with (first | (refine wpList_load_mid rfl 40 (.tmp 82) rfl Bq 11 rfl (e.r.cells y z) _ R3 Tryz.underlying40 rfl size33 ?_))
            refine (copy_any T5.out.2.1 T5.out.2.2).mono ?_
            rintro e5 w5 ⟨y', z', rfl, dy, dz, fy, fz, b5⟩
            have DY := Lib.hid dy
            have DZ := Lib.hid dz
            have FY := Lib.hid fy
            have FZ := Lib.hid fz
            have B5 := Lib.hid b5
            have O5 := Lib.hid (H6.out.2.2.1.below b5)
            have TH := Lib.hid (there_sub (O5.out.there hql) (show 10 + 11 ≤ 23 by omega))
            have TR := Res.one DY.out.one DZ.out.one (r := e.r)
            have c22 : ((w5.setCells f (o + q * 23 + 10) (e.r.cells y' z')).cell? ⟨f, o + q * 23 + 22, none⟩).isSome = true := World.isSome_setCells f _ _ _ _ (O5.out.there hql 22 (by omega)).1
            have f22 : (w5.setCells f (o + q * 23 + 10) (e.r.cells y' z')).frozen? ⟨f, o + q * 23 + 22, none⟩ = false := (frozen_setCells f _ _ _ _).trans (O5.out.there hql 22 (by omega)).2
            obtain ⟨v22, c22⟩ := Option.isSome_iff_exists.1 c22
            have C22 := Lib.hid c22
            have F22 := Lib.hid f22
            have TR' := Lib.hid TR
            clear dy dz fy fz b5 TR c22 f22
            go_upto_region 16 with (first | (refine wpList_store_mid rfl 40 (.tmp 87) (.tmp 84) rfl f (o + q * 23 + 10) (e.r.cells y' z').toArray rfl rfl ?_ size33 TR'.out ?_; (exact TH.out); generalize hw6 : w5.setCells f (o + q * 23 + 10) (e.r.cells y' z').toArray.toList = w6; have HW6 := Lib.hid hw6; have c22 : w6.cell? ⟨f, o + q * 23 + 22, none⟩ = some v22 := (by rw [← HW6.out]; exact C22.out); have f22 : w6.frozen? ⟨f, o + q * 23 + 22, none⟩ = false := (by rw [← HW6.out]; exact F22.out); clear hw6))
            have hq : s.l[q]? = some (s.l[q]'hql) := List.getElem?_eq_getElem hql
            have hff : f ≠ w.heap.size := by have := (hub.out f rfl).1; omega
            have hfB : f < Bq := (hub.out f rfl).2
            have hB3 : Bq < W3.heap.size := H5.out.lt
            have C6 := Lib.hid (O5.out.close (w' := w6.setCell ⟨f, o + q * 23 + 22, none⟩ (.int .i64 i)) (e := e) (i := i) hq DY.out DZ.out (FY.out.off (by omega)) (FZ.out.off (by omega)) (FY.out.off (by omega)) (FZ.out.off (by omega)) (by rw [← HW6.out]))
            have P6 := Lib.hid ((H6.out.2.2.2.1.below B5.out).frm C6.out.2 (by simp; exact fun h => hff h.symm))
            have Q6 := Lib.hid ((H5.out.below B5.out).frm C6.out.2 (by simp; omega))
            have B6 : Hid (Below w.heap.size w (w6.setCell ⟨f, o + q * 23 + 22, none⟩ (.int .i64 i))) := Lib.hid ((H6.out.2.2.2.2.trans (B5.out.mono H6.out.2.2.2.2.size)).trans (C6.out.2.below (Nat.le_trans H6.out.2.2.2.2.size B5.out.size) (by simp; have := (hub.out f rfl).1; omega)))
            generalize w6.setCell ⟨f, o + q * 23 + 22, none⟩ (.int .i64 i) = w7 at *
            clear v0 v1 vT c22 f22 hq
            have v1 : w7.cell? ⟨Bq, 1, none⟩ = some (.int .i64 (T : Int)) := by rw [← HE.out]; exact Q6.out.cell 1
            have vT : w7.cell? ⟨w.heap.size, T, none⟩ = some (.int .i64 (s.op T)) := (P6.out.cell T).trans (opArr_get s.op hT)
            have fT : w7.frozen? ⟨w.heap.size, T, none⟩ = false := P6.out.free T
            go_wp2_with fail
            go_roundw
            case rel =>
              refine ⟨i + 1, stepE s i e, by omega, by go_num, St.fine_step H6.out.1 i e, by have := stepE_len s i e; omega, hnx.out, ?_⟩
              rw [stepE_close HK1.out HE.out HOP.out]
              have F8 : Frm [w.heap.size] w7 (w7.setCell ⟨w.heap.size, T, none⟩ (.int .i64 0)) := (Frm.refl _ _).setCell (by simp) _
              refine ⟨?_, ?_, ?_⟩
              · exact C6.out.1.frm F8 (by intro k hk; simp at hk; subst hk; exact ⟨rfl, by simpa [Value.ownBlock] using hff⟩)
              · have := P6.out.set T (.int .i64 ((0 : Nat) : Int)) hT
                rw [opArr_set s.op hT] at this
                exact this
              · exact B6.out.trans (F8.below B6.out.size (by simp))
            case measure => simp [intOf]; omega
        · have hno : okE s e = false := by simpa using hok
          have hfin : Hid (ops E = .error i) := Lib.hid (by
            have := HST.out
            rw [if_neg HK3.out, hno] at this
            exact H3.out.2.2.1.symm.trans this)
          rcases okE_no hno with ⟨h1, h2⟩ | ⟨h1 | h1, h2⟩ | ⟨h1 | h1, h2⟩ | ⟨T, hT, he, ⟨h1, h2⟩ | ⟨h1, h2⟩⟩
          · have d1 : (e.k != 1) = true := by simpa using h1
            have d2 : (e.k != 2) = true := by simpa using h2
            clear h1 h2 hok hno
            go_wp2_with fail
            go_quiet (fail)
            go_wp2_with fail
            simp only [Exit.noGoto]
            go_ret3
            exact ⟨.slice none 0 0, by rw [hfin.out]; rfl, by rw [hfin.out]; exact Outs.nil _ _ _ _, below_drewN H3.out.2.2.2.2.2 nq⟩
          · rw [h1] at v0
            have d1 : decide (e.t < 0) = true := by simpa using h2
            clear h1 h2 hok hno d3
            go_wp2_with fail
            go_quiet (fail)
            go_wp2_with fail
            simp only [Exit.noGoto]
            go_ret3
            exact ⟨.slice none 0 0, by rw [hfin.out]; rfl, by rw [hfin.out]; exact Outs.nil _ _ _ _, below_drewN H3.out.2.2.2.2.2 nq⟩
          · rw [h1] at v0
            have d1 : decide (e.t < 0) = true := by simpa using h2
            clear h1 h2 hok hno d3
            go_wp2_with fail
            go_quiet (fail)
            go_wp2_with fail
            simp only [Exit.noGoto]
            go_ret3
            exact ⟨.slice none 0 0, by rw [hfin.out]; rfl, by rw [hfin.out]; exact Outs.nil _ _ _ _, below_drewN H3.out.2.2.2.2.2 nq⟩
          · rw [h1] at v0
            have d1 : decide (e.t < 0) = false := by simp; omega
            have d2 : decide (e.t ≥ 8) = true := by simpa using h2
            clear h1 h2 hok hno d3
            go_wp2_with fail
            go_quiet (fail)
            go_wp2_with fail
            simp only [Exit.noGoto]
            go_ret3
            exact ⟨.slice none 0 0, by rw [hfin.out]; rfl, by rw [hfin.out]; exact Outs.nil _ _ _ _, below_drewN H3.out.2.2.2.2.2 nq⟩
          · rw [h1] at v0
            have d1 : decide (e.t < 0) = false := by simp; omega
            have d2 : decide (e.t ≥ 8) = true := by simpa using h2
            clear h1 h2 hok hno d3
            go_wp2_with fail
            go_quiet (fail)
            go_wp2_with fail
            simp only [Exit.noGoto]
            go_ret3
            exact ⟨.slice none 0 0, by rw [hfin.out]; rfl, by rw [hfin.out]; exact Outs.nil _ _ _ _, below_drewN H3.out.2.2.2.2.2 nq⟩
          · rw [h1] at v0
            rw [he] at v1
            have t0 : (0 : Int) ≤ (T : Int) := by omega
            have t1 : (T : Int) < 8 := by omega
            have vT : W.cell? ⟨w.heap.size, T, none⟩ = some (.int .i64 (s.op T)) := (H3.out.2.2.2.2.1.cell T).trans (opArr_get s.op hT)
            have d1 : (((s.op T : Nat) : Int) == 0) = false := beq_eq_false_iff_ne.2 (by omega)
            clear h1 h2 hok hno d3 he
            go_wp2_with fail
            go_quiet (fail)
            go_wp2_with fail
            simp only [Exit.noGoto]
            go_ret3
            exact ⟨.slice none 0 0, by rw [hfin.out]; rfl, by rw [hfin.out]; exact Outs.nil _ _ _ _, below_drewN H3.out.2.2.2.2.2 nq⟩
          · rw [h1] at v0
            rw [he] at v1
            have t0 : (0 : Int) ≤ (T : Int) := by omega
            have t1 : (T : Int) < 8 := by omega
            have vT : W.cell? ⟨w.heap.size, T, none⟩ = some (.int .i64 (s.op T)) := (H3.out.2.2.2.2.1.cell T).trans (opArr_get s.op hT)
            rw [h2] at vT
            clear h1 h2 hok hno d3 he
            go_wp2_with fail
            go_quiet (fail)
            go_wp2_with fail
            simp only [Exit.noGoto]
            go_ret3
            exact ⟨.slice none 0 0, by rw [hfin.out]; rfl, by rw [hfin.out]; exact Outs.nil _ _ _ _, below_drewN H3.out.2.2.2.2.2 nq⟩
    · obtain rfl : i = n := by omega
      have hfin : Hid (ops E = .ok s) := Lib.hid (by
        have := HS.out.2.2.1
        rw [List.drop_of_length_le (by omega)] at this
        exact this.symm)
      have h1 : ¬ (i : Int) < (i : Int) := by omega
      go_wp2_with fail
      go_ret3
      exact ⟨u5, by rw [hfin.out]; rfl, by rw [hfin.out]; exact HS.out.2.2.2.1, HS.out.2.2.2.2.2⟩
end Go.Proofs.YtfjghemojnhmbaaGreat
