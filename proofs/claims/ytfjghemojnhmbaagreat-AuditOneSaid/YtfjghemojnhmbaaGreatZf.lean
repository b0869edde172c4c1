/- What the last steps share. -/
import Derived.Test.YtfjghemojnhmbaaGreatRows
import Derived.Deep.Slices
import Derived.Deep.Fields
import Derived.ProofKit
import Derived.OpenShut
import Derived.ShutString
import Derived.ChangeOld
import Derived.Below
import Derived.WideShapes
import Derived.Test.YtfjghemojnhmbaaGreatZc
namespace Go.Proofs.YtfjghemojnhmbaaGreat
open Go.ChangeShapes Go.WideShapes Go.ChangeAt Go.RowKit Go.Deep

theorem own : ownKnob Tryz.prog.godebug = none := by kernel_rfl
theorem laidOut : laidOutB Tryz.prog = true := by kernel_rfl

theorem bounds_of {z : Int} (h : (Lit.int .i64 z).wf = true) : -9223372036854775808 ≤ z ∧ z ≤ 9223372036854775807 := by
  simp [Lit.wf, IntKind.min, IntKind.max, IntKind.signed, IntKind.bits] at h; omega
theorem place_lt {H : Type} {enc : TypeId × Value → H} {P : Program} {W : World} {t : TypeId} {v : Value} {d : DataW H} {p : List MemPlace} (h : DataW.Trod enc P W 0 (fun _ => true) true t v d p) : ∀ x ∈ p, x.block < W.heap.size := by
  obtain ⟨m, hm⟩ := h; exact DataW.trod_lt m _ _ _ hm

def numOf : Option Value → Int
  | some (.int _ z) => z
  | _ => 0

end Go.Proofs.YtfjghemojnhmbaaGreat
/- Events and results that came in. -/
namespace Go.Proofs.YtfjghemojnhmbaaGreat
open Go.ChangeShapes Go.WideShapes Go.ChangeAt Go.RowKit Go.Deep

section
variable {H : Type} {enc : TypeId × Value → H} {P : Program} {W : World}

theorem weightsEach_get : ∀ (ts : List TypeId) (ds : List (DataW H)) (i : Nat) (t : TypeId) (d : DataW H), ts[i]? = some t → ds[i]? = some d → (DataW.weightsEach P ts ds).all (· ≤ reachBytes) = true → (d.weights P t).all (· ≤ reachBytes) = true
  | [], _, _, _, _, h, _, _ => by simp at h
  | _ :: _, [], _, _, _, _, h, _ => by simp at h
  | t :: ts, d :: ds, 0, _, _, h1, h2, h => by
    simp at h1 h2
    subst h1 h2
    rw [DataW.weightsEach, List.all_append, Bool.and_eq_true] at h
    exact h.1
  | t :: ts, d :: ds, i + 1, _, _, h1, h2, h => by
    rw [DataW.weightsEach, List.all_append, Bool.and_eq_true] at h
    exact weightsEach_get ts ds i _ _ (by simpa using h1) (by simpa using h2) h.2
theorem weightsAll_get : ∀ (e : TypeId) (ds : List (DataW H)) (i : Nat) (d : DataW H), ds[i]? = some d → (DataW.weightsAll P e ds).all (· ≤ reachBytes) = true → (d.weights P e).all (· ≤ reachBytes) = true
  | _, [], _, _, h, _ => by simp at h
  | e, d :: ds, 0, _, h2, h => by
    simp at h2
    subst h2
    rw [DataW.weightsAll, List.all_append, Bool.and_eq_true] at h
    exact h.1
  | e, d :: ds, i + 1, _, h2, h => by
    rw [DataW.weightsAll, List.all_append, Bool.and_eq_true] at h
    exact weightsAll_get e ds i _ (by simpa using h2) h.2

/-- The value at cell j of a value of type t is of type u. -/
def subT (P : Program) : Nat → TypeId → Nat → TypeId → Bool
  | 0, t, j, u => t == u && j == 0
  | n + 1, t, j, u => (t == u && j == 0) || match P.underlying t with
    | some (.struct fs) => fs.toList.any fun f => decide (f.offset ≤ j) && decide (j < f.offset + P.cellsOf f.type) && subT P n f.type (j - f.offset) u
    | _ => false

theorem sub_trod : ∀ (n : Nat) (t : TypeId) (j : Nat) (u : TypeId) (fuel : Nat) (cs : List Value) (x : DataW H × List MemPlace),
    subT P n t j u = true → DataW.trod enc P W 0 (fun _ => true) true fuel t cs = some x → (x.1.weights P t).all (· ≤ reachBytes) = true →
    ∃ fuel' k y, DataW.trod enc P W 0 (fun _ => true) true fuel' u ((cs.drop j).take k) = some y ∧ (y.1.weights P u).all (· ≤ reachBytes) = true
  | n, t, j, u, fuel, cs, x, h, ht, hw => by
    have base : (t == u && j == 0) = true → ∃ fuel' k y, DataW.trod enc P W 0 (fun _ => true) true fuel' u ((cs.drop j).take k) = some y ∧ (y.1.weights P u).all (· ≤ reachBytes) = true := by
      intro h
      simp only [Bool.and_eq_true, beq_iff_eq] at h
      obtain ⟨rfl, rfl⟩ := h
      exact ⟨fuel, cs.length, x, by simpa using ht, hw⟩
    cases n with
    | zero => exact base (by simpa [subT] using h)
    | succ n =>
      unfold subT at h
      rcases Bool.or_eq_true_iff.1 h with h | h
      · exact base h
      · split at h
        · rename_i fs hu
          obtain ⟨f, hf, hq⟩ := List.any_eq_true.1 h
          simp only [Bool.and_eq_true, decide_eq_true_eq] at hq
          obtain ⟨⟨h1, h2⟩, h3⟩ := hq
          obtain ⟨i, hi⟩ := List.getElem?_of_mem hf
          obtain ⟨ys, n', _, hx, _, hyl, hfl⟩ := DataW.trod_struct hu ht
          have hil : i < fs.size := by
            have := (List.getElem?_eq_some_iff.1 hi).1
            simpa using this
          have e := hfl i f (by simpa using hi)
          rw [List.getElem?_eq_getElem (by omega)] at e
          have hw' : ((ys[i]'(by omega)).1.weights P f.type).all (· ≤ reachBytes) = true := by
            rw [hx] at hw
            simp only [DataW.weights, hu] at hw
            exact weightsEach_get _ _ i _ _ (by simp only [List.getElem?_map, hi, Option.map_some]) (by simp [List.getElem?_eq_getElem (show i < ys.length by omega)]) hw
          obtain ⟨fuel', k, y, hy, hyw⟩ := sub_trod n f.type (j - f.offset) u _ _ _ h3 e hw'
          refine ⟨fuel', min k (P.cellsOf f.type - (j - f.offset)), y, ?_, hyw⟩
          rw [List.drop_take, List.drop_drop, show f.offset + (j - f.offset) = j from by omega, List.take_take] at hy
          exact hy
        · cases h

theorem leaf_get {cs : List Value} {j k : Nat} {v : Value} (h : (cs.drop j).take k = [v]) : cs[j]? = some v := by
  have h0 : ((cs.drop j).take k)[0]? = some v := by rw [h]; rfl
  rw [List.getElem?_take] at h0
  split at h0
  · rw [List.getElem?_drop] at h0
    simpa using h0
  · cases h0
theorem leaf_int {n j : Nat} {t u : TypeId} {fuel : Nat} {cs : List Value} {x : DataW H × List MemPlace} (hs : subT P n t j u = true) (hu : P.underlying u = some (.int .i64)) (ht : DataW.trod enc P W 0 (fun _ => true) true fuel t cs = some x)
    (hw : (x.1.weights P t).all (· ≤ reachBytes) = true) : ∃ z : Int, cs[j]? = some (.int .i64 z) ∧ -9223372036854775808 ≤ z ∧ z ≤ 9223372036854775807 := by
  obtain ⟨f', k, y, hy, _⟩ := sub_trod n t j u fuel cs x hs ht hw
  obtain ⟨z, hz, _, wz⟩ := DataW.trod_int hu hy
  exact ⟨z, leaf_get hz, bounds_of wz⟩
theorem leaf_string {n j : Nat} {t u : TypeId} {fuel : Nat} {cs : List Value} {x : DataW H × List MemPlace} (hs : subT P n t j u = true) (hu : P.underlying u = some .string) (ht : DataW.trod enc P W 0 (fun _ => true) true fuel t cs = some x)
    (hw : (x.1.weights P t).all (· ≤ reachBytes) = true) : ∃ z : ByteArray, cs[j]? = some (.string z) := by
  obtain ⟨f', k, y, hy, _⟩ := sub_trod n t j u fuel cs x hs ht hw
  obtain ⟨z, hz, _, _⟩ := DataW.trod_string hu hy
  exact ⟨z, leaf_get hz⟩
/-- A slice of one-cell elements, each of the shape that 'g' makes. -/
theorem leaf_slice {β : Type} {g : β → Value} [Inhabited β] {n j by_ : Nat} {t u e : TypeId} {fuel : Nat} {cs : List Value} {x : DataW H × List MemPlace} (hs : subT P n t j u = true) (hu : P.underlying u = some (.slice e)) (hc : P.cellsOf e = 1) (hb : P.bytesOf e = by_) (_hby : 0 < by_)
    (hg : ∀ fuel v y, DataW.trod enc P W 0 (fun _ => true) true fuel e [v] = some y → ∃ z, v = g z) (ht : DataW.trod enc P W 0 (fun _ => true) true fuel t cs = some x)
    (hw : (x.1.weights P t).all (· ≤ reachBytes) = true) : ∃ (v : Value) (zs : List β), cs[j]? = some v ∧ Den by_ W v (zs.map g) := by
  obtain ⟨f', k, y, hy, hyw⟩ := sub_trod n t j u fuel cs x hs ht hw
  rcases open_slice1 hu hc hy with ⟨hcs, _⟩ | ⟨a, len, cap, m, n', V, D, Pl, hcs, _, hl, hm, hmm, hx, hat⟩
  · exact ⟨_, [], leaf_get hcs, Den.nil _ _⟩
  · obtain rfl : cap = m := by simpa using hmm.symm
    have hz : ∀ i, ∃ z, i < len → V i = g z := fun i => by
      by_cases hi : i < len
      · obtain ⟨z, hz⟩ := hg _ _ _ (hat i (by omega)).2
        exact ⟨z, fun _ => hz⟩
      · exact ⟨default, fun h => absurd h hi⟩
    obtain ⟨Z, hZ⟩ : ∃ Z : Nat → β, ∀ i, i < len → V i = g (Z i) := ⟨fun i => Classical.choose (hz i), fun i hi => Classical.choose_spec (hz i) hi⟩
    have hbytes : cap * by_ ≤ reachBytes := by
      rw [hx] at hyw
      simp only [DataW.weights, hu, List.all_cons, Bool.and_eq_true, decide_eq_true_eq, List.length_map, List.length_range, hb] at hyw
      have := hyw.1
      rwa [show len + (cap - len) = cap from by omega] at this
    refine ⟨_, (List.range len).map Z, leaf_get hcs, some a, len, cap, rfl, by simp, hl, hm, ?_, by simp, fun hn => ?_⟩
    · unfold reachBytes at hbytes
      exact Nat.le_trans (Nat.mul_le_mul_right _ hl) hbytes
    · obtain ⟨b, o, spot⟩ := a
      have h0 := (hat 0 (by omega)).1
      obtain rfl : spot = none := by simpa [Addr.add] using World.cell?_spot h0
      have h01 : W.cell? ⟨b, o, none⟩ = some (V 0) := by simpa [Addr.add] using h0
      refine ⟨b, o, rfl, World.block_lt_of_cell? W _ h01, fun i hi => ?_⟩
      have h2 := (hat i (by omega)).1
      rw [Addr.add_mid] at h2
      rw [h2, hZ i hi]
      simp [hi]

abbrev Byt := { z : Int // 0 ≤ z ∧ z < 256 }
instance : Inhabited Byt := ⟨⟨0, by decide, by decide⟩⟩
theorem byte_of (hu : P.underlying 5 = some (.int .u8)) : ∀ fuel v (y : DataW H × List MemPlace), DataW.trod enc P W 0 (fun _ => true) true fuel 5 [v] = some y → ∃ z : Byt, v = Value.int .u8 z.1 := fun _ _ _ h => by
  obtain ⟨z, hz, _, wz⟩ := DataW.trod_int hu h
  have : 0 ≤ z ∧ z < 256 := by
    simp [Lit.wf, IntKind.min, IntKind.max, IntKind.signed, IntKind.bits] at wz
    omega
  exact ⟨⟨z, this⟩, by simpa using hz⟩
end

section
variable {H : Type} {enc : TypeId × Value → H} {W : World}
theorem ext10 {cs ds : List Value} (hl : cs.length = 10) (hd : ds.length = 10) (h : ∀ j, j < 10 → cs[j]? = ds[j]?) : cs = ds := List.ext_getElem? fun j => by
  rcases Nat.lt_or_ge j 10 with hj | hj
  · exact h j hj
  · rw [List.getElem?_eq_none (by omega), List.getElem?_eq_none (by omega)]
theorem open_stp {fuel : Nat} {cs : List Value} {x : DataW H × List MemPlace} (hl : cs.length = 10) (ht : DataW.trod enc Tryz.prog W 0 (fun _ => true) true fuel 53 cs = some x) (hw : (x.1.weights Tryz.prog 53).all (· ≤ reachBytes) = true) :
    ∃ e : Stp, cs = e.cells ∧ e.okAt W := by
  obtain ⟨p, e0, g0⟩ := leaf_int (n := 4) (j := 0) (u := 3) (by kernel_rfl) Tryz.underlying3 ht hw
  obtain ⟨c0, e1, g1⟩ := leaf_int (n := 4) (j := 1) (u := 3) (by kernel_rfl) Tryz.underlying3 ht hw
  obtain ⟨c1, e2⟩ := leaf_string (n := 4) (j := 2) (u := 9) (by kernel_rfl) Tryz.underlying9 ht hw
  obtain ⟨c2, e3⟩ := leaf_string (n := 4) (j := 3) (u := 9) (by kernel_rfl) Tryz.underlying9 ht hw
  obtain ⟨c3, e4, g4⟩ := leaf_int (n := 4) (j := 4) (u := 3) (by kernel_rfl) Tryz.underlying3 ht hw
  obtain ⟨c4, e5, g5⟩ := leaf_int (n := 4) (j := 5) (u := 3) (by kernel_rfl) Tryz.underlying3 ht hw
  obtain ⟨c5, e6, g6⟩ := leaf_int (n := 4) (j := 6) (u := 3) (by kernel_rfl) Tryz.underlying3 ht hw
  obtain ⟨c6, e7, g7⟩ := leaf_int (n := 4) (j := 7) (u := 3) (by kernel_rfl) Tryz.underlying3 ht hw
  obtain ⟨c7, e8, g8⟩ := leaf_int (n := 4) (j := 8) (u := 3) (by kernel_rfl) Tryz.underlying3 ht hw
  obtain ⟨v, ds, e9, D1⟩ := leaf_slice (n := 4) (j := 9) (u := 35) (e := 5) (by_ := 1) (by kernel_rfl) Tryz.underlying35 (by kernel_rfl) (by kernel_rfl) (by decide) (byte_of Tryz.underlying5) ht hw
  have hb : ds.map (fun z : Byt => Value.int .u8 z.1) = byts (ds.map (·.1)) := by simp [byts]
  rw [hb] at D1
  obtain ⟨va, vc, rfl⟩ := D1.value
  refine ⟨⟨p, ⟨c0, c1, c2, c3, c4, c5, c6, c7, va, _, vc⟩, ds.map (·.1)⟩, ext10 hl rfl fun j hj => ?_, ⟨g0, g7, D1, fun d hd => ?_⟩⟩
  · match j, hj with
    | 0, _ => exact e0
    | 1, _ => exact e1
    | 2, _ => exact e2
    | 3, _ => exact e3
    | 4, _ => exact e4
    | 5, _ => exact e5
    | 6, _ => exact e6
    | 7, _ => exact e7
    | 8, _ => exact e8
    | 9, _ => exact e9
    | j + 10, h => exact absurd h (by omega)
  · obtain ⟨z, _, rfl⟩ := List.mem_map.1 hd
    exact z.2
theorem open_stps {a : Option Addr} {n cap : Nat} {d : DataW H} {p : List MemPlace} (h : DataW.Trod enc Tryz.prog W 0 (fun _ => true) true 22 (.slice a n cap) d p) (hw : (d.weights Tryz.prog 22).all (· ≤ reachBytes) = true) :
    n ≤ cap ∧ cap ≤ 9223372036854775807 ∧ ∃ E : List Stp, E.length = n ∧ Stps W a E := by
  obtain ⟨fuel, hf⟩ := h
  have hC : Tryz.prog.cellsOf 53 = 10 := by kernel_rfl
  rcases open_slice Tryz.underlying22 hf with ⟨hcs, _⟩ | ⟨x, l, c, k, m, D, Pl, hcs, _, hl, hm, hmm, hx, hat⟩
  · simp [Value.cells] at hcs
    obtain ⟨rfl, rfl, rfl⟩ := hcs
    exact ⟨by omega, by omega, [], rfl, (by simp), .inl rfl⟩
  · simp [Value.cells] at hcs
    obtain ⟨rfl, rfl, rfl⟩ := hcs
    obtain rfl : cap = k := by simpa using hmm.symm
    unfold maxLen at hm
    refine ⟨hl, by omega, ?_⟩
    have hd : d = .slice ((List.range n).map D) ((List.range (cap - n)).map fun j => D (n + j)) := by
      have := congrArg (·.1) hx
      simpa using this
    have key : ∀ i, i < n → ∃ (e : Stp) (cs : List Value), W.cells? 0 (x.add (i * 10)) 10 = some cs ∧ cs = e.cells ∧ e.okAt W := by
      intro i hi
      obtain ⟨cs', hc, ht'⟩ := hat i (by omega)
      rw [hC] at hc
      obtain ⟨_, hcl, _⟩ := World.cells?_some hc
      have hwi : ((D i).weights Tryz.prog 53).all (· ≤ reachBytes) = true := by
        rw [hd] at hw
        simp only [DataW.weights, Tryz.underlying22, List.all_cons, List.all_append, Bool.and_eq_true] at hw
        exact weightsAll_get 53 _ i _ (by simp [hi]) hw.2.1
      obtain ⟨e, he, ht⟩ := open_stp hcl ht' hwi
      exact ⟨e, cs', hc, he, ht⟩
    by_cases h0 : n = 0
    · subst h0
      exact ⟨[], rfl, (by simp), .inl rfl⟩
    · obtain ⟨e0, cs0, h1, h2, _⟩ := key 0 (by omega)
      obtain ⟨_, _, hcell⟩ := World.cells?_some h1
      obtain ⟨b, off, spot⟩ := x
      have h00 := hcell 0 (by omega)
      rw [h2] at h00
      obtain rfl : spot = none := by simpa [Addr.add] using World.cell?_spot (h00.trans (show e0.cells[0]? = some (.int .i64 e0.p) from rfl))
      have h01 : W.cell? ⟨b, off, none⟩ = some (.int .i64 e0.p) := by simpa [Addr.add] using h00.trans (show e0.cells[0]? = some (.int .i64 e0.p) from rfl)
      have hz : ∀ i, ∃ e : Stp, i < n → ∃ cs : List Value, W.cells? 0 ((⟨b, off, none⟩ : Addr).add (i * 10)) 10 = some cs ∧ cs = e.cells ∧ e.okAt W := fun i => by
        by_cases hi : i < n
        · obtain ⟨e, h⟩ := key i hi
          exact ⟨e, fun _ => h⟩
        · exact ⟨e0, fun h => absurd h hi⟩
      have spec : ∀ i, i < n → ∀ e, Classical.choose (hz i) = e → ∃ cs : List Value, W.cells? 0 ((⟨b, off, none⟩ : Addr).add (i * 10)) 10 = some cs ∧ cs = e.cells ∧ e.okAt W := fun i hi e he => by
        have := Classical.choose_spec (hz i) hi
        rw [he] at this
        exact this
      refine ⟨(List.range n).map fun i => Classical.choose (hz i), by simp, fun e he => ?_, .inr ⟨b, off, rfl, World.block_lt_of_cell? W _ h01, fun i e he => ?_⟩⟩
      · obtain ⟨i, hi, rfl⟩ := List.mem_map.1 he
        obtain ⟨_, _, _, q⟩ := spec i (List.mem_range.1 hi) _ rfl
        exact q
      have hi : i < n := by simpa using (List.getElem?_eq_some_iff.1 he).1
      have he' : Classical.choose (hz i) = e := by simpa [hi] using he
      obtain ⟨cs, g1, g2, _⟩ := spec i hi e he'
      intro j v hv
      obtain ⟨_, hcl, hcell⟩ := World.cells?_some g1
      have hj : j < 10 := (List.getElem?_eq_some_iff.1 hv).1
      have := hcell j hj
      rw [Addr.add_mid, Addr.add_mid] at this
      rw [this, g2, hv]
end
end Go.Proofs.YtfjghemojnhmbaaGreat
