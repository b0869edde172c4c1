/- A slice of structs (of structs) of ints that came in: each cell is an int. -/
import Derived.Test.YtfmhiamgfhdmmaaFrame
namespace Go.Proofs.Ytfmhiamgfhdmmaa
open Go.ChangeShapes Go.WideShapes Go.ChangeAt Go.RowKit Go.Deep

/-- Cell j of a value of type t is an int of 64 bits. -/
def flatI (P : Program) : Nat → TypeId → Nat → Bool
  | 0, _, _ => false
  | n + 1, t, j => match P.underlying t with
    | some (.int .i64) => j == 0
    | some (.struct fs) => fs.toList.any fun f => decide (f.offset ≤ j) && decide (j < f.offset + P.cellsOf f.type) && flatI P n f.type (j - f.offset)
    | _ => false

theorem flat_int {H : Type} {enc : TypeId × Value → H} {P : Program} {W : World} : ∀ (n : Nat) (t : TypeId) (j fuel : Nat) (cs : List Value) (x : DataW H × List MemPlace),
    flatI P n t j = true → DataW.trod enc P W 0 (fun _ => true) true fuel t cs = some x → ∃ z : Int, cs[j]? = some (.int .i64 z) ∧ (Lit.int .i64 z).wf = true
  | 0, _, _, _, _, _, h, _ => by simp [flatI] at h
  | n + 1, t, j, fuel, cs, x, h, ht => by
    unfold flatI at h
    split at h
    · rename_i hu
      obtain rfl : j = 0 := by simpa using h
      obtain ⟨z, hz, _, wz⟩ := DataW.trod_int hu ht
      subst hz
      exact ⟨z, rfl, wz⟩
    · rename_i fs hu
      obtain ⟨f, hf, hq⟩ := List.any_eq_true.1 h
      simp only [Bool.and_eq_true, decide_eq_true_eq] at hq
      obtain ⟨⟨h1, h2⟩, h3⟩ := hq
      obtain ⟨i, hi⟩ := List.getElem?_of_mem hf
      obtain ⟨ys, n', _, _, _, hyl, hfl⟩ := DataW.trod_struct hu ht
      have hil : i < fs.size := by
        have := (List.getElem?_eq_some_iff.1 hi).1
        simpa using this
      have e := hfl i f (by simpa using hi)
      rw [List.getElem?_eq_getElem (by omega)] at e
      obtain ⟨z, hz, wz⟩ := flat_int n f.type (j - f.offset) _ _ _ h3 e
      refine ⟨z, ?_, wz⟩
      rw [List.getElem?_take_of_lt (by omega), List.getElem?_drop, show f.offset + (j - f.offset) = j from by omega] at hz
      exact hz
    · cases h

theorem open_flats {H : Type} {enc : TypeId × Value → H} {P : Program} {W : World} {t e : TypeId} {m : Nat} {a : Option Addr} {len cap : Nat} {d : DataW H} {p : List MemPlace} (ht : P.underlying t = some (.slice e)) (hC : P.cellsOf e = m) (hpos : 0 < m)
    (hi : ((List.range m).all fun j => flatI P 5 e j) = true) (h : DataW.Trod enc P W 0 (fun _ => true) true t (.slice a len cap) d p) :
    len ≤ 9223372036854775807 ∧ ∃ g : Nat → Nat → Int, (len = 0 ∨ ∃ b off, a = some ⟨b, off, none⟩ ∧ b < W.heap.size ∧ ∀ i j, i < len → j < m → W.cell? ⟨b, off + i * m + j, none⟩ = some (.int .i64 (g i j)) ∧ -9223372036854775808 ≤ g i j ∧ g i j ≤ 9223372036854775807) := by
  obtain ⟨fuel, hf⟩ := h
  rcases Go.Deep.open_slice ht hf with ⟨hcs, _⟩ | ⟨x, l, c, k, n, D, Pl, hcs, _, hl, hm, hmm, _, hat⟩
  · simp [Value.cells] at hcs
    obtain ⟨rfl, rfl, rfl⟩ := hcs
    exact ⟨by omega, fun _ _ => 0, .inl rfl⟩
  · simp [Value.cells] at hcs
    obtain ⟨rfl, rfl, rfl⟩ := hcs
    unfold maxLen at hm
    refine ⟨by omega, ?_⟩
    by_cases h0 : len = 0
    · exact ⟨fun _ _ => 0, .inl h0⟩
    · have hlm : len ≤ k := by rw [hmm]; split <;> omega
      have key : ∀ i j, i < len → j < m → ∃ z : Int, W.cell? ((x.add (i * m)).add j) = some (.int .i64 z) ∧ (Lit.int .i64 z).wf = true := by
        intro i j hil hj
        obtain ⟨cs', hc, ht'⟩ := hat i (by omega)
        rw [hC] at hc
        obtain ⟨z, hz, wz⟩ := flat_int 5 e j _ _ _ (List.all_eq_true.1 hi j (List.mem_range.2 hj)) ht'
        obtain ⟨_, hcl, hcell⟩ := World.cells?_some hc
        exact ⟨z, by rw [hcell j hj, hz], wz⟩
      obtain ⟨b, off, spot⟩ := x
      obtain ⟨z0, h00, _⟩ := key 0 0 (by omega) hpos
      obtain rfl : spot = none := by simpa [Addr.add] using World.cell?_spot h00
      have h01 : W.cell? ⟨b, off, none⟩ = some (.int .i64 z0) := by simpa [Addr.add] using h00
      have key' : ∀ i j, i < len → j < m → ∃ z : Int, W.cell? ⟨b, off + i * m + j, none⟩ = some (.int .i64 z) ∧ (Lit.int .i64 z).wf = true := by
        intro i j h1 h2
        obtain ⟨z, hz, wz⟩ := key i j h1 h2
        refine ⟨z, ?_, wz⟩
        have e : (((⟨b, off, none⟩ : Addr).add (i * m)).add j) = ⟨b, off + i * m + j, none⟩ := by
          unfold Addr.add
          split <;> split <;> simp_all
        rwa [e] at hz
      refine ⟨fun i j => numOf (W.cell? ⟨b, off + i * m + j, none⟩), .inr ⟨b, off, rfl, World.block_lt_of_cell? W _ h01, fun i j h1 h2 => ?_⟩⟩
      obtain ⟨z, hz, wz⟩ := key' i j h1 h2
      dsimp only
      rw [hz]
      exact ⟨rfl, bounds_of wz⟩
end Go.Proofs.Ytfmhiamgfhdmmaa
