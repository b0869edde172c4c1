/- A list of Booleans that came in. -/
import Derived.Test.YtpmolcbfjjibgaaFrame
import Derived.Test.YtpmolcbfjjibgaaElderW
namespace Go.Proofs.Ytpmolcbfjjibgaa
open Go.ChangeShapes Go.WideShapes Go.ChangeAt Go.RowKit Go.Deep

def boolOf : Option Value → Bool
  | some (.bool b) => b
  | _ => false

theorem open_brow {H : Type} {enc : TypeId × Value → H} {P : Program} {W : World} {t e : TypeId} {a : Option Addr} {len cap : Nat} {d : DataW H} {p : List MemPlace} (ht : P.underlying t = some (.slice e)) (he : P.underlying e = some .bool)
    (hC : P.cellsOf e = 1) (h : DataW.Trod enc P W 0 (fun _ => true) true t (.slice a len cap) d p) : ∃ f : Nat → Bool, BRow W a len f ∧ len ≤ 9223372036854775807 := by
  obtain ⟨fuel, hf⟩ := h
  rcases Go.Deep.open_slice ht hf with ⟨hcs, _⟩ | ⟨x, l, c, m, n, D, Pl, hcs, _, hl, hm, hmm, _, hat⟩
  · simp [Value.cells] at hcs
    obtain ⟨rfl, rfl, rfl⟩ := hcs
    exact ⟨fun _ => false, .inl rfl, by omega⟩
  · simp [Value.cells] at hcs
    obtain ⟨rfl, rfl, rfl⟩ := hcs
    unfold maxLen at hm
    by_cases h0 : len = 0
    · exact ⟨fun _ => false, .inl h0, by omega⟩
    · have hlm : len ≤ m := by rw [hmm]; split <;> omega
      have key : ∀ i, i < len → ∃ z : Bool, W.cell? (x.add i) = some (.bool z) := by
        intro i hil
        obtain ⟨cs', hc, ht'⟩ := hat i (by omega)
        rw [hC] at hc
        obtain ⟨z, hz, _⟩ := DataW.trod_bool he ht'
        subst hz
        obtain ⟨_, hcl, hcell⟩ := World.cells?_some hc
        have := hcell 0 (by omega)
        rw [Nat.mul_one] at this
        refine ⟨z, ?_⟩
        simpa [Addr.add] using this
      obtain ⟨b, off, spot⟩ := x
      obtain ⟨z0, h00⟩ := key 0 (by omega)
      obtain rfl : spot = none := by simpa [Addr.add] using World.cell?_spot h00
      have h01 : W.cell? ⟨b, off, none⟩ = some (.bool z0) := by simpa [Addr.add] using h00
      refine ⟨fun i => boolOf (W.cell? ⟨b, off + i, none⟩), .inr ⟨b, off, rfl, World.block_lt_of_cell? W _ h01, fun i h1 => ?_⟩, by omega⟩
      obtain ⟨z, hz⟩ := key i h1
      have e : ((⟨b, off, none⟩ : Addr).add i) = ⟨b, off + i, none⟩ := by unfold Addr.add; split <;> simp_all
      rw [e] at hz
      dsimp only
      rw [hz]
      rfl
end Go.Proofs.Ytpmolcbfjjibgaa
