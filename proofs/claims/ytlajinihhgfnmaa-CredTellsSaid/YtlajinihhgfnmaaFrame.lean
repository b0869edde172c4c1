/- What each statement's last step shares: a struct of plain numbers that came in by value, opened. -/
import Derived.Test.YtlajinihhgfnmaaRows
import Derived.WalkKit
import Derived.ProofKit
import Derived.OpenShut
import Derived.ShutString
import Derived.ChangeOld
import Derived.Below
import Derived.Deep.Slices
import Derived.Deep.Fields
import Derived.Lib.SmallJoins
namespace Go.Proofs.Ytlajinihhgfnmaa
open Go.ChangeShapes Go.WideShapes Go.ChangeAt Go.RowKit Go.Deep

theorem own : ownKnob Try.prog.godebug = none := by kernel_rfl
theorem laidOut : laidOutB Try.prog = true := by kernel_rfl

section
variable {H : Type} {enc : TypeId × Value → H} {P : Program} {w : World} {base : Nat} {spare : Nat → Bool} {held : Bool}

theorem list_of_ints : ∀ (l : List Value), (∀ j, j < l.length → ∃ z : Int, l[j]? = some (.int .i64 z) ∧ (Lit.int .i64 z).wf = true) →
    ∃ zs : List Int, l = zs.map (Value.int .i64) ∧ ∀ z ∈ zs, (Lit.int .i64 z).wf = true
  | [], _ => ⟨[], rfl, by simp⟩
  | v :: l, h => by
    obtain ⟨z, hz, wz⟩ := h 0 (by simp)
    obtain ⟨zs, hzs, wzs⟩ := list_of_ints l (fun j hj => h (j + 1) (by simp; omega))
    simp at hz
    exact ⟨z :: zs, by simp [hz, hzs], by simp [wz]; exact wzs⟩

/-- A struct by value whose fields are all of kind int. -/
theorem open_agg_ints {r : Reach} {b0 : Nat} {t : TypeId} {fs : Array Field} {v : Value} {d : DataW H} {p : List MemPlace} (hs : P.underlying t = some (.struct fs)) (hone : oneCellFields P fs = true) (hC : P.cellsOf t = fs.size)
    (hi : ∀ (j : Nat) (f : Field), fs[j]? = some f → P.underlying f.type = some (.int .i64)) (hv : Value.okWide P w r b0 t v) (h : DataW.Trod enc P w base spare held t v d p) :
    ∃ zs : List Int, v = .agg (zs.map (Value.int .i64)).toArray ∧ zs.length = fs.size ∧ ∀ z ∈ zs, (Lit.int .i64 z).wf = true := by
  obtain ⟨cs, rfl, hsz⟩ := okWide_struct hs hv
  obtain ⟨fuel, hf⟩ := h
  obtain ⟨xs, n, _, _, hlen, hxl, hat⟩ := DataW.trod_struct hs hf
  have hcl : cs.toList.length = fs.size := by simpa [Value.cells, hC] using hlen
  obtain ⟨zs, hzs, wzs⟩ := list_of_ints cs.toList (fun j hj => by
    have hjf : j < fs.size := by omega
    obtain ⟨ho, hk⟩ := hone_of hone j fs[j] (by simp [hjf])
    have h1 := hat j fs[j] (by simp [hjf])
    rw [ho, hk] at h1
    have e1 : ((Value.agg cs).cells.toList.drop j).take 1 = [cs.toList[j]] := by
      rw [List.drop_eq_getElem_cons (by simpa [Value.cells] using hj)]
      simp [Value.cells]
    rw [e1, List.getElem?_eq_getElem (by omega)] at h1
    obtain ⟨z, hz, _, wz⟩ := DataW.trod_int (hi j fs[j] (by simp [hjf])) h1
    exact ⟨z, by rw [List.getElem?_eq_getElem hj]; simpa using hz, wz⟩)
  exact ⟨zs, by rw [← hzs], by rw [← hcl, hzs]; simp, wzs⟩

theorem two {α : Type} {l : List α} (h : l.length = 2) : ∃ a b, l = [a, b] := by
  match l, h with
  | [a, b], _ => exact ⟨a, b, rfl⟩
theorem seven {α : Type} {l : List α} (h : l.length = 7) : ∃ a b c d e f g, l = [a, b, c, d, e, f, g] := by
  match l, h with
  | [a, b, c, d, e, f, g], _ => exact ⟨a, b, c, d, e, f, g, rfl⟩
end

theorem cells23 : Try.prog.cellsOf 23 = 2 := by kernel_rfl
theorem cells25 : Try.prog.cellsOf 25 = 7 := by kernel_rfl

/-- A Cred that came in. -/
theorem open_cred {H : Type} {enc : TypeId × Value → H} {w : World} {base b0 : Nat} {r : Reach} {v : Value} {d : DataW H} {p : List MemPlace} (hv : Value.okWide Try.prog w r b0 23 v) (h : DataW.Trod enc Try.prog w base (fun _ => true) true 23 v d p) :
    ∃ u g : Int, v = .agg #[.int .i64 u, .int .i64 g] := by
  obtain ⟨zs, rfl, hl, _⟩ := open_agg_ints Try.underlying23 (by kernel_rfl) cells23 (fun j f hj => by
    rcases (by have := (Array.getElem?_eq_some_iff.1 hj).1; simp at this; omega : j = 0 ∨ j = 1) with rfl | rfl <;> (simp at hj; subst hj; exact Try.underlying3)) hv h
  obtain ⟨a, b, rfl⟩ := two hl
  exact ⟨a, b, rfl⟩
/-- A Stat that came in. -/
theorem open_stat {H : Type} {enc : TypeId × Value → H} {w : World} {base b0 : Nat} {r : Reach} {v : Value} {d : DataW H} {p : List MemPlace} (hv : Value.okWide Try.prog w r b0 25 v) (h : DataW.Trod enc Try.prog w base (fun _ => true) true 25 v d p) :
    ∃ a b c d e f g : Int, v = .agg #[.int .i64 a, .int .i64 b, .int .i64 c, .int .i64 d, .int .i64 e, .int .i64 f, .int .i64 g] := by
  obtain ⟨zs, rfl, hl, _⟩ := open_agg_ints Try.underlying25 (by kernel_rfl) cells25 (fun j f hj => by
    rcases (by have := (Array.getElem?_eq_some_iff.1 hj).1; simp at this; omega : j = 0 ∨ j = 1 ∨ j = 2 ∨ j = 3 ∨ j = 4 ∨ j = 5 ∨ j = 6) with rfl | rfl | rfl | rfl | rfl | rfl | rfl <;> (simp at hj; subst hj; exact Try.underlying3)) hv h
  obtain ⟨a, b, c, d, e, f, g, rfl⟩ := seven hl
  exact ⟨a, b, c, d, e, f, g, rfl⟩
theorem bounds_of {z : Int} (h : (Lit.int .i64 z).wf = true) : -9223372036854775808 ≤ z ∧ z ≤ 9223372036854775807 := by
  simp [Lit.wf, IntKind.min, IntKind.max, IntKind.signed, IntKind.bits] at h; omega
theorem place_lt {H : Type} {enc : TypeId × Value → H} {P : Program} {W : World} {t : TypeId} {v : Value} {d : DataW H} {p : List MemPlace} (h : DataW.Trod enc P W 0 (fun _ => true) true t v d p) : ∀ x ∈ p, x.block < W.heap.size := by
  obtain ⟨m, hm⟩ := h; exact DataW.trod_lt m _ _ _ hm
end Go.Proofs.Ytlajinihhgfnmaa
