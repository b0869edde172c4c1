/- Events and results that came in. -/
import Derived.Test.YtjefjonogbkknaaFrame
import Derived.Test.YtjefjonogbkknaaDen
import Derived.WideShapes
import Derived.Test.YtjefjonogbkknaaChecked
namespace Go.Proofs.Ytjefjonogbkknaa
open Go.ChangeShapes Go.WideShapes Go.ChangeAt Go.RowKit Go.Deep

section
variable {H : Type} {enc : TypeId × Value → H} {P : Program} {W : World}

theorem weightsEach_get : ∀ (ts : List TypeId) (ds : List (DataW H)) (i : Nat) (t : TypeId) (d : DataW H), ts[i]? = some t → ds[i]? = some d → (DataW.weightsEach P ts ds).all (· ≤ reachBytes) = true → (d.weights P t).all (· ≤ reachBytes) = true
  | [], _, _, _, _, h, _, _ => by simp at h
  | _ :: _, [], _, _, _, _, h, _ => by simp at h
  | t :: ts, d :: ds, 0, _, _, h1, h2, h => by
    simp at h1 h2
    subst h1 h2
    rw [DataW.weightsEach, List.all_append, Bool.and_eq_true] at h
    exact h.1
  | t :: ts, d :: ds, i + 1, _, _, h1, h2, h => by
    rw [DataW.weightsEach, List.all_append, Bool.and_eq_true] at h
    exact weightsEach_get ts ds i _ _ (by simpa using h1) (by simpa using h2) h.2
theorem weightsAll_get : ∀ (e : TypeId) (ds : List (DataW H)) (i : Nat) (d : DataW H), ds[i]? = some d → (DataW.weightsAll P e ds).all (· ≤ reachBytes) = true → (d.weights P e).all (· ≤ reachBytes) = true
  | _, [], _, _, h, _ => by simp at h
  | e, d :: ds, 0, _, h2, h => by
    simp at h2
    subst h2
    rw [DataW.weightsAll, List.all_append, Bool.and_eq_true] at h
    exact h.1
  | e, d :: ds, i + 1, _, h2, h => by
    rw [DataW.weightsAll, List.all_append, Bool.and_eq_true] at h
    exact weightsAll_get e ds i _ (by simpa using h2) h.2

/-- The value at cell j of a value of type t is of type u. -/
def subT (P : Program) : Nat → TypeId → Nat → TypeId → Bool
  | 0, t, j, u => t == u && j == 0
  | n + 1, t, j, u => (t == u && j == 0) || match P.underlying t with
    | some (.struct fs) => fs.toList.any fun f => decide (f.offset ≤ j) && decide (j < f.offset + P.cellsOf f.type) && subT P n f.type (j - f.offset) u
    | _ => false

theorem sub_trod : ∀ (n : Nat) (t : TypeId) (j : Nat) (u : TypeId) (fuel : Nat) (cs : List Value) (x : DataW H × List MemPlace),
    subT P n t j u = true → DataW.trod enc P W 0 (fun _ => true) true fuel t cs = some x → (x.1.weights P t).all (· ≤ reachBytes) = true →
    ∃ fuel' k y, DataW.trod enc P W 0 (fun _ => true) true fuel' u ((cs.drop j).take k) = some y ∧ (y.1.weights P u).all (· ≤ reachBytes) = true
  | n, t, j, u, fuel, cs, x, h, ht, hw => by
    have base : (t == u && j == 0) = true → ∃ fuel' k y, DataW.trod enc P W 0 (fun _ => true) true fuel' u ((cs.drop j).take k) = some y ∧ (y.1.weights P u).all (· ≤ reachBytes) = true := by
      intro h
      simp only [Bool.and_eq_true, beq_iff_eq] at h
      obtain ⟨rfl, rfl⟩ := h
      exact ⟨fuel, cs.length, x, by simpa using ht, hw⟩
    cases n with
    | zero => exact base (by simpa [subT] using h)
    | succ n =>
      unfold subT at h
      rcases Bool.or_eq_true_iff.1 h with h | h
      · exact base h
      · split at h
        · rename_i fs hu
          obtain ⟨f, hf, hq⟩ := List.any_eq_true.1 h
          simp only [Bool.and_eq_true, decide_eq_true_eq] at hq
          obtain ⟨⟨h1, h2⟩, h3⟩ := hq
          obtain ⟨i, hi⟩ := List.getElem?_of_mem hf
          obtain ⟨ys, n', _, hx, _, hyl, hfl⟩ := DataW.trod_struct hu ht
          have hil : i < fs.size := by
            have := (List.getElem?_eq_some_iff.1 hi).1
            simpa using this
          have e := hfl i f (by simpa using hi)
          rw [List.getElem?_eq_getElem (by omega)] at e
          have hw' : ((ys[i]'(by omega)).1.weights P f.type).all (· ≤ reachBytes) = true := by
            rw [hx] at hw
            simp only [DataW.weights, hu] at hw
            exact weightsEach_get _ _ i _ _ (by simp only [List.getElem?_map, hi, Option.map_some]) (by simp [List.getElem?_eq_getElem (show i < ys.length by omega)]) hw
          obtain ⟨fuel', k, y, hy, hyw⟩ := sub_trod n f.type (j - f.offset) u _ _ _ h3 e hw'
          refine ⟨fuel', min k (P.cellsOf f.type - (j - f.offset)), y, ?_, hyw⟩
          rw [List.drop_take, List.drop_drop, show f.offset + (j - f.offset) = j from by omega, List.take_take] at hy
          exact hy
        · cases h

theorem leaf_get {cs : List Value} {j k : Nat} {v : Value} (h : (cs.drop j).take k = [v]) : cs[j]? = some v := by
  have h0 : ((cs.drop j).take k)[0]? = some v := by rw [h]; rfl
  rw [List.getElem?_take] at h0
  split at h0
  · rw [List.getElem?_drop] at h0
    simpa using h0
  · cases h0
theorem leaf_int {n j : Nat} {t u : TypeId} {fuel : Nat} {cs : List Value} {x : DataW H × List MemPlace} (hs : subT P n t j u = true) (hu : P.underlying u = some (.int .i64)) (ht : DataW.trod enc P W 0 (fun _ => true) true fuel t cs = some x)
    (hw : (x.1.weights P t).all (· ≤ reachBytes) = true) : ∃ z : Int, cs[j]? = some (.int .i64 z) ∧ -9223372036854775808 ≤ z ∧ z ≤ 9223372036854775807 := by
  obtain ⟨f', k, y, hy, _⟩ := sub_trod n t j u fuel cs x hs ht hw
  obtain ⟨z, hz, _, wz⟩ := DataW.trod_int hu hy
  exact ⟨z, leaf_get hz, bounds_of wz⟩
theorem leaf_string {n j : Nat} {t u : TypeId} {fuel : Nat} {cs : List Value} {x : DataW H × List MemPlace} (hs : subT P n t j u = true) (hu : P.underlying u = some .string) (ht : DataW.trod enc P W 0 (fun _ => true) true fuel t cs = some x)
    (hw : (x.1.weights P t).all (· ≤ reachBytes) = true) : ∃ z : ByteArray, cs[j]? = some (.string z) := by
  obtain ⟨f', k, y, hy, _⟩ := sub_trod n t j u fuel cs x hs ht hw
  obtain ⟨z, hz, _, _⟩ := DataW.trod_string hu hy
  exact ⟨z, leaf_get hz⟩
/-- A slice of one-cell elements, each of the shape that 'g' makes. -/
theorem leaf_slice {β : Type} {g : β → Value} [Inhabited β] {n j by_ : Nat} {t u e : TypeId} {fuel : Nat} {cs : List Value} {x : DataW H × List MemPlace} (hs : subT P n t j u = true) (hu : P.underlying u = some (.slice e)) (hc : P.cellsOf e = 1) (hb : P.bytesOf e = by_) (_hby : 0 < by_)
    (hg : ∀ fuel v y, DataW.trod enc P W 0 (fun _ => true) true fuel e [v] = some y → ∃ z, v = g z) (ht : DataW.trod enc P W 0 (fun _ => true) true fuel t cs = some x)
    (hw : (x.1.weights P t).all (· ≤ reachBytes) = true) : ∃ (v : Value) (zs : List β), cs[j]? = some v ∧ Den by_ W v (zs.map g) := by
  obtain ⟨f', k, y, hy, hyw⟩ := sub_trod n t j u fuel cs x hs ht hw
  rcases open_slice1 hu hc hy with ⟨hcs, _⟩ | ⟨a, len, cap, m, n', V, D, Pl, hcs, _, hl, hm, hmm, hx, hat⟩
  · exact ⟨_, [], leaf_get hcs, Den.nil _ _⟩
  · obtain rfl : cap = m := by simpa using hmm.symm
    have hz : ∀ i, ∃ z, i < len → V i = g z := fun i => by
      by_cases hi : i < len
      · obtain ⟨z, hz⟩ := hg _ _ _ (hat i (by omega)).2
        exact ⟨z, fun _ => hz⟩
      · exact ⟨default, fun h => absurd h hi⟩
    obtain ⟨Z, hZ⟩ : ∃ Z : Nat → β, ∀ i, i < len → V i = g (Z i) := ⟨fun i => Classical.choose (hz i), fun i hi => Classical.choose_spec (hz i) hi⟩
    have hbytes : cap * by_ ≤ reachBytes := by
      rw [hx] at hyw
      simp only [DataW.weights, hu, List.all_cons, Bool.and_eq_true, decide_eq_true_eq, List.length_map, List.length_range, hb] at hyw
      have := hyw.1
      rwa [show len + (cap - len) = cap from by omega] at this
    refine ⟨_, (List.range len).map Z, leaf_get hcs, some a, len, cap, rfl, by simp, hl, hm, ?_, by simp, fun hn => ?_⟩
    · unfold reachBytes at hbytes
      exact Nat.le_trans (Nat.mul_le_mul_right _ hl) hbytes
    · obtain ⟨b, o, spot⟩ := a
      have h0 := (hat 0 (by omega)).1
      obtain rfl : spot = none := by simpa [Addr.add] using World.cell?_spot h0
      have h01 : W.cell? ⟨b, o, none⟩ = some (V 0) := by simpa [Addr.add] using h0
      refine ⟨b, o, rfl, World.block_lt_of_cell? W _ h01, fun i hi => ?_⟩
      have h2 := (hat i (by omega)).1
      rw [Addr.add_mid] at h2
      rw [h2, hZ i hi]
      simp [hi]

instance : Inhabited ByteArray := ⟨⟨#[]⟩⟩
theorem byte_of (hu : P.underlying 5 = some (.int .u8)) : ∀ fuel v (y : DataW H × List MemPlace), DataW.trod enc P W 0 (fun _ => true) true fuel 5 [v] = some y → ∃ z, v = Value.int .u8 z := fun _ _ _ h => by
  obtain ⟨z, hz, _, _⟩ := DataW.trod_int hu h
  exact ⟨z, by simpa using hz⟩
theorem text_of (hu : P.underlying 9 = some .string) : ∀ fuel v (y : DataW H × List MemPlace), DataW.trod enc P W 0 (fun _ => true) true fuel 9 [v] = some y → ∃ z, v = Value.string z := fun _ _ _ h => by
  obtain ⟨z, hz, _, _⟩ := DataW.trod_string hu h
  exact ⟨z, by simpa using hz⟩
end

section
variable {H : Type} {enc : TypeId × Value → H} {W : World}
theorem ext22 {cs ds : List Value} (hl : cs.length = 22) (hd : ds.length = 22) (h : ∀ j, j < 22 → cs[j]? = ds[j]?) : cs = ds := List.ext_getElem? fun j => by
  rcases Nat.lt_or_ge j 22 with hj | hj
  · exact h j hj
  · rw [List.getElem?_eq_none (by omega), List.getElem?_eq_none (by omega)]
theorem ext11 {cs ds : List Value} (hl : cs.length = 11) (hd : ds.length = 11) (h : ∀ j, j < 11 → cs[j]? = ds[j]?) : cs = ds := List.ext_getElem? fun j => by
  rcases Nat.lt_or_ge j 11 with hj | hj
  · exact h j hj
  · rw [List.getElem?_eq_none (by omega), List.getElem?_eq_none (by omega)]
theorem open_ev {fuel : Nat} {cs : List Value} {x : DataW H × List MemPlace} (hl : cs.length = 22) (ht : DataW.trod enc Try.prog W 0 (fun _ => true) true fuel 42 cs = some x) (hw : (x.1.weights Try.prog 42).all (· ≤ reachBytes) = true) :
    ∃ (e : Ev) (a b c : Value), cs = e.cells a b c ∧ Tri W e.c e.r a b c := by
  have I : ∀ j u, subT Try.prog 4 42 j u = true → Try.prog.underlying u = some (.int .i64) → ∃ z : Int, cs[j]? = some (.int .i64 z) := fun j u hs hu => by
    obtain ⟨z, hz, _⟩ := leaf_int hs hu ht hw
    exact ⟨z, hz⟩
  obtain ⟨k, e0⟩ := I 0 3 (by kernel_rfl) Try.underlying3
  obtain ⟨t, e1⟩ := I 1 3 (by kernel_rfl) Try.underlying3
  obtain ⟨c0, e2⟩ := I 2 3 (by kernel_rfl) Try.underlying3
  obtain ⟨c1, e3⟩ := leaf_string (n := 4) (j := 3) (u := 9) (by kernel_rfl) Try.underlying9 ht hw
  obtain ⟨c2, e4⟩ := leaf_string (n := 4) (j := 4) (u := 9) (by kernel_rfl) Try.underlying9 ht hw
  obtain ⟨c3, e5⟩ := I 5 3 (by kernel_rfl) Try.underlying3
  obtain ⟨c4, e6⟩ := I 6 3 (by kernel_rfl) Try.underlying3
  obtain ⟨c5, e7⟩ := I 7 3 (by kernel_rfl) Try.underlying3
  obtain ⟨c6, e8⟩ := I 8 3 (by kernel_rfl) Try.underlying3
  obtain ⟨c7, e9⟩ := I 9 3 (by kernel_rfl) Try.underlying3
  obtain ⟨v1, ds, e10, D1⟩ := leaf_slice (n := 4) (j := 10) (u := 24) (e := 5) (by_ := 1) (by kernel_rfl) Try.underlying24 (by kernel_rfl) (by kernel_rfl) (by decide) (byte_of Try.underlying5) ht hw
  obtain ⟨r0, e11⟩ := I 11 23 (by kernel_rfl) Try.underlying23
  obtain ⟨r1, e12⟩ := I 12 3 (by kernel_rfl) Try.underlying3
  obtain ⟨v2, rds, e13, D2⟩ := leaf_slice (n := 4) (j := 13) (u := 24) (e := 5) (by_ := 1) (by kernel_rfl) Try.underlying24 (by kernel_rfl) (by kernel_rfl) (by decide) (byte_of Try.underlying5) ht hw
  obtain ⟨v3, rss, e14, D3⟩ := leaf_slice (n := 4) (j := 14) (u := 25) (e := 9) (by_ := 16) (by kernel_rfl) Try.underlying25 (by kernel_rfl) (by kernel_rfl) (by decide) (text_of Try.underlying9) ht hw
  obtain ⟨s0, e15⟩ := I 15 3 (by kernel_rfl) Try.underlying3
  obtain ⟨s1, e16⟩ := I 16 3 (by kernel_rfl) Try.underlying3
  obtain ⟨s2, e17⟩ := I 17 3 (by kernel_rfl) Try.underlying3
  obtain ⟨s3, e18⟩ := I 18 3 (by kernel_rfl) Try.underlying3
  obtain ⟨s4, e19⟩ := I 19 3 (by kernel_rfl) Try.underlying3
  obtain ⟨s5, e20⟩ := I 20 3 (by kernel_rfl) Try.underlying3
  obtain ⟨s6, e21⟩ := I 21 3 (by kernel_rfl) Try.underlying3
  refine ⟨⟨k, t, ⟨c0, c3, c4, c5, c6, c7, c1, c2, ds⟩, ⟨r0, r1, s0, s1, s2, s3, s4, s5, s6, rds, rss⟩⟩, v1, v2, v3, ext22 hl rfl fun j hj => ?_, D1, D2, D3⟩
  match j, hj with
  | 0, _ => exact e0
  | 1, _ => exact e1
  | 2, _ => exact e2
  | 3, _ => exact e3
  | 4, _ => exact e4
  | 5, _ => exact e5
  | 6, _ => exact e6
  | 7, _ => exact e7
  | 8, _ => exact e8
  | 9, _ => exact e9
  | 10, _ => exact e10
  | 11, _ => exact e11
  | 12, _ => exact e12
  | 13, _ => exact e13
  | 14, _ => exact e14
  | 15, _ => exact e15
  | 16, _ => exact e16
  | 17, _ => exact e17
  | 18, _ => exact e18
  | 19, _ => exact e19
  | 20, _ => exact e20
  | 21, _ => exact e21
  | j + 22, h => exact absurd h (by omega)
/-- A result that came in. -/
theorem open_res {base : Nat} {v : Value} {d : DataW H} {p : List MemPlace} (hv : Value.okWide Try.prog W .any base 29 v) (h : DataW.Trod enc Try.prog W 0 (fun _ => true) true 29 v d p) (hw : (d.weights Try.prog 29).all (· ≤ reachBytes) = true) :
    ∃ (r : Res) (b c : Value), v = .agg (r.cells b c).toArray ∧ Den 1 W b (byts r.ds) ∧ Den 16 W c (strs r.ss) := by
  obtain ⟨C, rfl, hC⟩ := okWide_struct Try.underlying29 hv
  obtain ⟨fuel, ht⟩ := h
  have hl : (Value.agg C).cells.toList.length = 11 := by
    have : Try.prog.cellsOf 29 = 11 := by kernel_rfl
    rw [this] at hC
    simpa [Value.cells] using hC
  have ht : DataW.trod enc Try.prog W 0 (fun _ => true) true fuel 29 C.toList = some (d, p) := by simpa [Value.cells] using ht
  have hl : C.toList.length = 11 := by simpa [Value.cells] using hl
  have I : ∀ j u, subT Try.prog 4 29 j u = true → Try.prog.underlying u = some (.int .i64) → ∃ z : Int, C.toList[j]? = some (.int .i64 z) := fun j u hs hu => by
    obtain ⟨z, hz, _⟩ := leaf_int hs hu ht hw
    exact ⟨z, hz⟩
  obtain ⟨r0, e11⟩ := I 0 23 (by kernel_rfl) Try.underlying23
  obtain ⟨r1, e12⟩ := I 1 3 (by kernel_rfl) Try.underlying3
  obtain ⟨v2, rds, e13, D2⟩ := leaf_slice (n := 4) (j := 2) (u := 24) (e := 5) (by_ := 1) (by kernel_rfl) Try.underlying24 (by kernel_rfl) (by kernel_rfl) (by decide) (byte_of Try.underlying5) ht hw
  obtain ⟨v3, rss, e14, D3⟩ := leaf_slice (n := 4) (j := 3) (u := 25) (e := 9) (by_ := 16) (by kernel_rfl) Try.underlying25 (by kernel_rfl) (by kernel_rfl) (by decide) (text_of Try.underlying9) ht hw
  obtain ⟨s0, e15⟩ := I 4 3 (by kernel_rfl) Try.underlying3
  obtain ⟨s1, e16⟩ := I 5 3 (by kernel_rfl) Try.underlying3
  obtain ⟨s2, e17⟩ := I 6 3 (by kernel_rfl) Try.underlying3
  obtain ⟨s3, e18⟩ := I 7 3 (by kernel_rfl) Try.underlying3
  obtain ⟨s4, e19⟩ := I 8 3 (by kernel_rfl) Try.underlying3
  obtain ⟨s5, e20⟩ := I 9 3 (by kernel_rfl) Try.underlying3
  obtain ⟨s6, e21⟩ := I 10 3 (by kernel_rfl) Try.underlying3
  refine ⟨⟨r0, r1, s0, s1, s2, s3, s4, s5, s6, rds, rss⟩, v2, v3, ?_, D2, D3⟩
  have e : C.toList = Res.cells ⟨r0, r1, s0, s1, s2, s3, s4, s5, s6, rds, rss⟩ v2 v3 := ext11 hl rfl fun j hj => by
    match j, hj with
    | 0, _ => exact e11
    | 1, _ => exact e12
    | 2, _ => exact e13
    | 3, _ => exact e14
    | 4, _ => exact e15
    | 5, _ => exact e16
    | 6, _ => exact e17
    | 7, _ => exact e18
    | 8, _ => exact e19
    | 9, _ => exact e20
    | 10, _ => exact e21
  rw [← e]
theorem open_evs {a : Option Addr} {n cap : Nat} {d : DataW H} {p : List MemPlace} (h : DataW.Trod enc Try.prog W 0 (fun _ => true) true 22 (.slice a n cap) d p) (hw : (d.weights Try.prog 22).all (· ≤ reachBytes) = true) :
    n ≤ cap ∧ cap ≤ 9223372036854775807 ∧ ∃ E : List Ev, E.length = n ∧ Evs W a E := by
  obtain ⟨fuel, hf⟩ := h
  have hC : Try.prog.cellsOf 42 = 22 := by kernel_rfl
  rcases open_slice Try.underlying22 hf with ⟨hcs, _⟩ | ⟨x, l, c, k, m, D, Pl, hcs, _, hl, hm, hmm, hx, hat⟩
  · simp [Value.cells] at hcs
    obtain ⟨rfl, rfl, rfl⟩ := hcs
    exact ⟨by omega, by omega, [], rfl, .inl rfl⟩
  · simp [Value.cells] at hcs
    obtain ⟨rfl, rfl, rfl⟩ := hcs
    obtain rfl : cap = k := by simpa using hmm.symm
    unfold maxLen at hm
    refine ⟨hl, by omega, ?_⟩
    have hd : d = .slice ((List.range n).map D) ((List.range (cap - n)).map fun j => D (n + j)) := by
      have := congrArg (·.1) hx
      simpa using this
    have key : ∀ i, i < n → ∃ (e : Ev) (a b c : Value) (cs : List Value), W.cells? 0 (x.add (i * 22)) 22 = some cs ∧ cs = e.cells a b c ∧ Tri W e.c e.r a b c := by
      intro i hi
      obtain ⟨cs', hc, ht'⟩ := hat i (by omega)
      rw [hC] at hc
      obtain ⟨_, hcl, _⟩ := World.cells?_some hc
      have hwi : ((D i).weights Try.prog 42).all (· ≤ reachBytes) = true := by
        rw [hd] at hw
        simp only [DataW.weights, Try.underlying22, List.all_cons, List.all_append, Bool.and_eq_true] at hw
        exact weightsAll_get 42 _ i _ (by simp [hi]) hw.2.1
      obtain ⟨e, a, b, c, he, ht⟩ := open_ev hcl ht' hwi
      exact ⟨e, a, b, c, cs', hc, he, ht⟩
    by_cases h0 : n = 0
    · subst h0
      exact ⟨[], rfl, .inl rfl⟩
    · obtain ⟨e0, a0, b0, c0, cs0, h1, h2, _⟩ := key 0 (by omega)
      obtain ⟨_, _, hcell⟩ := World.cells?_some h1
      obtain ⟨b, off, spot⟩ := x
      have h00 := hcell 0 (by omega)
      rw [h2] at h00
      obtain rfl : spot = none := by simpa [Addr.add] using World.cell?_spot (h00.trans (show (e0.cells a0 b0 c0)[0]? = some (.int .i64 e0.k) from rfl))
      have h01 : W.cell? ⟨b, off, none⟩ = some (.int .i64 e0.k) := by simpa [Addr.add] using h00.trans (show (e0.cells a0 b0 c0)[0]? = some (.int .i64 e0.k) from rfl)
      have hz : ∀ i, ∃ e : Ev, i < n → ∃ (a b' c : Value) (cs : List Value), W.cells? 0 ((⟨b, off, none⟩ : Addr).add (i * 22)) 22 = some cs ∧ cs = e.cells a b' c ∧ Tri W e.c e.r a b' c := fun i => by
        by_cases hi : i < n
        · obtain ⟨e, h⟩ := key i hi
          exact ⟨e, fun _ => h⟩
        · exact ⟨e0, fun h => absurd h hi⟩
      refine ⟨(List.range n).map fun i => Classical.choose (hz i), by simp, .inr ⟨b, off, rfl, World.block_lt_of_cell? W _ h01, fun i e he => ?_⟩⟩
      have hi : i < n := by simpa using (List.getElem?_eq_some_iff.1 he).1
      have he' : Classical.choose (hz i) = e := by simpa [hi] using he
      obtain ⟨x', y', z', cs, g1, g2, g3⟩ := Classical.choose_spec (hz i) hi
      rw [he'] at g2 g3
      refine ⟨x', y', z', g3, fun j v hv => ?_⟩
      obtain ⟨_, hcl, hcell⟩ := World.cells?_some g1
      have hj : j < 22 := (List.getElem?_eq_some_iff.1 hv).1
      have := hcell j hj
      rw [Addr.add_mid, Addr.add_mid] at this
      rw [this, g2, hv]
end
end Go.Proofs.Ytjefjonogbkknaa
