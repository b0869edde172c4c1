/- What the last steps share. -/
import Derived.Test.YtmhmgenchpemkaaRows
import Derived.Test.YtmhmgenchpemkaaShared
import Derived.Deep.Slices
import Derived.Deep.Fields
import Derived.ProofKit
import Derived.OpenShut
import Derived.ShutString
import Derived.ChangeOld
import Derived.Below
namespace Go.Proofs.Ytmhmgenchpemkaa
open Go.ChangeShapes Go.WideShapes Go.ChangeAt Go.RowKit Go.Deep

theorem own : ownKnob Try.prog.godebug = none := by kernel_rfl
theorem laidOut : laidOutB Try.prog = true := by kernel_rfl

theorem bounds_of {z : Int} (h : (Lit.int .i64 z).wf = true) : -9223372036854775808 ≤ z ∧ z ≤ 9223372036854775807 := by
  simp [Lit.wf, IntKind.min, IntKind.max, IntKind.signed, IntKind.bits] at h; omega
theorem place_lt {H : Type} {enc : TypeId × Value → H} {P : Program} {W : World} {t : TypeId} {v : Value} {d : DataW H} {p : List MemPlace} (h : DataW.Trod enc P W 0 (fun _ => true) true t v d p) : ∀ x ∈ p, x.block < W.heap.size := by
  obtain ⟨m, hm⟩ := h; exact DataW.trod_lt m _ _ _ hm

def numOf : Option Value → Int
  | some (.int _ z) => z
  | _ => 0

/-- A slice of ints that came in. -/
theorem open_row {H : Type} {enc : TypeId × Value → H} {P : Program} {W : World} {t e : TypeId} {a : Option Addr} {len cap : Nat} {d : DataW H} {p : List MemPlace} (ht : P.underlying t = some (.slice e)) (he : P.underlying e = some (.int .i64)) (hC : P.cellsOf e = 1)
    (h : DataW.Trod enc P W 0 (fun _ => true) true t (.slice a len cap) d p) : ∃ f : Nat → Int, RowB W a len f ∧ len ≤ 9223372036854775807 := by
  obtain ⟨fuel, hf⟩ := h
  rcases open_ints ht he hC hf with ⟨hcs, _⟩ | ⟨x, l, c, zs, hcs, _, hl, hm, hz, _, hcell, hwf⟩
  · simp [Value.cells] at hcs
    obtain ⟨rfl, rfl, rfl⟩ := hcs
    exact ⟨fun _ => 0, .inl rfl, by omega⟩
  · simp [Value.cells] at hcs
    obtain ⟨rfl, rfl, rfl⟩ := hcs
    unfold maxLen at hm
    refine ⟨fun i => zs.getD i 0, ?_, by omega⟩
    by_cases h0 : len = 0
    · exact .inl h0
    · have hz' : zs.length = cap := by simpa using hz
      obtain ⟨b, off, spot⟩ := x
      have h00 := hcell 0 (by omega)
      obtain rfl : spot = none := by simpa [Addr.add] using World.cell?_spot h00
      refine .inr ⟨b, off, rfl, ?_, fun i hi => ⟨?_, ?_⟩⟩
      · have h01 : W.cell? ⟨b, off, none⟩ = some (.int .i64 (zs.getD 0 0)) := by simpa [Addr.add] using h00
        exact World.block_lt_of_cell? W _ h01
      · have := hcell i (by omega)
        by_cases hi0 : i = 0
        · subst hi0; simpa [Addr.add] using this
        · simpa [Addr.add, hi0] using this
      · have hl : i < zs.length := by omega
        have e : zs.getD i 0 = zs[i] := by simp [List.getElem?_eq_getElem hl]
        simp only [e]
        exact bounds_of (hwf _ (List.getElem_mem hl))

/-- A slice of structs of ints that came in. -/
theorem open_int_structs {H : Type} {enc : TypeId × Value → H} {P : Program} {W : World} {t e : TypeId} {fs : Array Field} {a : Option Addr} {len cap : Nat} {d : DataW H} {p : List MemPlace} (ht : P.underlying t = some (.slice e)) (he : P.underlying e = some (.struct fs))
    (hone : oneCellFields P fs = true) (hC : P.cellsOf e = fs.size) (hpos : 0 < fs.size) (hi : ∀ (j : Nat) (f : Field), fs[j]? = some f → P.underlying f.type = some (.int .i64)) (h : DataW.Trod enc P W 0 (fun _ => true) true t (.slice a len cap) d p) :
    len ≤ 9223372036854775807 ∧ ∃ g : Nat → Nat → Int, (len = 0 ∨ ∃ b off, a = some ⟨b, off, none⟩ ∧ b < W.heap.size ∧ ∀ i j, i < len → j < fs.size → W.cell? ⟨b, off + i * fs.size + j, none⟩ = some (.int .i64 (g i j)) ∧ -9223372036854775808 ≤ g i j ∧ g i j ≤ 9223372036854775807) := by
  obtain ⟨fuel, hf⟩ := h
  rcases Go.Deep.open_slice ht hf with ⟨hcs, _⟩ | ⟨x, l, c, m, n, D, Pl, hcs, _, hl, hm, hmm, _, hat⟩
  · simp [Value.cells] at hcs
    obtain ⟨rfl, rfl, rfl⟩ := hcs
    exact ⟨by omega, fun _ _ => 0, .inl rfl⟩
  · simp [Value.cells] at hcs
    obtain ⟨rfl, rfl, rfl⟩ := hcs
    unfold maxLen at hm
    refine ⟨by omega, ?_⟩
    by_cases h0 : len = 0
    · exact ⟨fun _ _ => 0, .inl h0⟩
    · have hlm : len ≤ m := by rw [hmm]; split <;> omega
      have key : ∀ i j, i < len → j < fs.size → ∃ z : Int, W.cell? ((x.add (i * fs.size)).add j) = some (.int .i64 z) ∧ (Lit.int .i64 z).wf = true := by
        intro i j hil hj
        obtain ⟨cs', hc, ht'⟩ := hat i (by omega)
        rw [hC] at hc
        obtain ⟨ys, n', _, _, _, hyl, hfl⟩ := DataW.trod_struct he ht'
        obtain ⟨_, hcl, hcell⟩ := World.cells?_some hc
        obtain ⟨ho, hk⟩ := Go.Deep.hone_of hone j fs[j] (by simp [hj])
        have h1 := hfl j fs[j] (by simp [hj])
        rw [ho, hk] at h1
        have hjl : j < cs'.length := by omega
        have e1 : (cs'.drop j).take 1 = [cs'[j]] := by
          rw [List.drop_eq_getElem_cons hjl]; rfl
        rw [e1, List.getElem?_eq_getElem (by omega)] at h1
        obtain ⟨z, hz, _, wz⟩ := DataW.trod_int (hi j fs[j] (by simp [hj])) h1
        refine ⟨z, ?_, wz⟩
        rw [hcell j hj, List.getElem?_eq_getElem hjl]
        simpa using hz
      obtain ⟨b, off, spot⟩ := x
      obtain ⟨z0, h00, _⟩ := key 0 0 (by omega) hpos
      obtain rfl : spot = none := by simpa [Addr.add] using World.cell?_spot h00
      have h01 : W.cell? ⟨b, off, none⟩ = some (.int .i64 z0) := by simpa [Addr.add] using h00
      have key' : ∀ i j, i < len → j < fs.size → ∃ z : Int, W.cell? ⟨b, off + i * fs.size + j, none⟩ = some (.int .i64 z) ∧ (Lit.int .i64 z).wf = true := by
        intro i j h1 h2
        obtain ⟨z, hz, wz⟩ := key i j h1 h2
        refine ⟨z, ?_, wz⟩
        have e : (((⟨b, off, none⟩ : Addr).add (i * fs.size)).add j) = ⟨b, off + i * fs.size + j, none⟩ := by
          unfold Addr.add
          split <;> split <;> simp_all
        rwa [e] at hz
      refine ⟨fun i j => numOf (W.cell? ⟨b, off + i * fs.size + j, none⟩), .inr ⟨b, off, rfl, World.block_lt_of_cell? W _ h01, fun i j h1 h2 => ?_⟩⟩
      obtain ⟨z, hz, wz⟩ := key' i j h1 h2
      dsimp only
      rw [hz]
      exact ⟨rfl, bounds_of wz⟩


theorem cells29 : Try.prog.cellsOf 29 = 5 := by kernel_rfl
set_option maxRecDepth 100000 in
theorem open_jobs {H : Type} {enc : TypeId × Value → H} {W : World} {a : Option Addr} {len cap : Nat} {d : DataW H} {p : List MemPlace} (h : DataW.Trod enc Try.prog W 0 (fun _ => true) true 27 (.slice a len cap) d p) :
    len ≤ 9223372036854775807 ∧ ∃ g : Nat → Nat → Int, (len = 0 ∨ ∃ b off, a = some ⟨b, off, none⟩ ∧ b < W.heap.size ∧ ∀ i j, i < len → j < 5 → W.cell? ⟨b, off + i * 5 + j, none⟩ = some (.int .i64 (g i j)) ∧ -9223372036854775808 ≤ g i j ∧ g i j ≤ 9223372036854775807) :=
  open_int_structs Try.underlying27 Try.underlying29 (by kernel_rfl) cells29 (by decide) (fun j f hj => by
    rcases (by have := (Array.getElem?_eq_some_iff.1 hj).1; simp at this; omega : j = 0 ∨ j = 1 ∨ j = 2 ∨ j = 3 ∨ j = 4) with rfl | rfl | rfl | rfl | rfl <;> (simp at hj; subst hj; first | exact Try.underlying3 | exact Try.underlying2)) h
end Go.Proofs.Ytmhmgenchpemkaa
