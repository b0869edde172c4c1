/- Jobs that came in. -/
import Derived.Test.YtmhmgenchpemkaaFrame
import Derived.Test.YtmhmgenchpemkaaPlays
namespace Go.Proofs.Ytmhmgenchpemkaa
open Go.ChangeShapes Go.WideShapes Go.ChangeAt Go.RowKit Go.Deep

theorem open_cap {H : Type} {enc : TypeId × Value → H} {W : World} {a : Option Addr} {len cap : Nat} {d : DataW H} {p : List MemPlace} (h : DataW.Trod enc Try.prog W 0 (fun _ => true) true 27 (.slice a len cap) d p) : len ≤ cap ∧ cap ≤ 9223372036854775807 := by
  obtain ⟨fuel, hf⟩ := h
  rcases Go.Deep.open_slice Try.underlying27 hf with ⟨hcs, _⟩ | ⟨x, l, c, m, n, D, Pl, hcs, _, hl, hm, _⟩
  · simp [Value.cells] at hcs
    obtain ⟨rfl, rfl, rfl⟩ := hcs
    omega
  · simp [Value.cells] at hcs
    obtain ⟨rfl, rfl, rfl⟩ := hcs
    unfold maxLen at hm
    omega
def jobsOf (g : Nat → Nat → Int) (n : Nat) : List Jb := (List.range n).map fun i => ⟨g i 0, g i 1, g i 2, g i 3, g i 4⟩
theorem jobsOf_len (g : Nat → Nat → Int) (n : Nat) : (jobsOf g n).length = n := by simp [jobsOf]
theorem jobs_in {W : World} {a : Option Addr} {len cap : Nat} {g : Nat → Nat → Int} (h : len = 0 ∨ ∃ b off, a = some ⟨b, off, none⟩ ∧ b < W.heap.size ∧ ∀ i j, i < len → j < 5 → W.cell? ⟨b, off + i * 5 + j, none⟩ = some (.int .i64 (g i j)) ∧ -9223372036854775808 ≤ g i j ∧ g i j ≤ 9223372036854775807) : JobsAt W (.slice a len cap) (jobsOf g len) := by
  rcases h with rfl | ⟨b, off, rfl, hb, hc⟩
  · exact .inl ⟨rfl, a, cap, rfl⟩
  · refine .inr ⟨b, off, cap, by rw [jobsOf_len], hb, fun i j hj k v hv => ?_⟩
    have hi : i < len := by have := (List.getElem?_eq_some_iff.1 hj).1; rwa [jobsOf_len] at this
    have e : j = ⟨g i 0, g i 1, g i 2, g i 3, g i 4⟩ := by
      rw [jobsOf, List.getElem?_map, List.getElem?_range hi] at hj
      exact (Option.some.inj hj).symm
    subst e
    have hk : k < 5 := (List.getElem?_eq_some_iff.1 hv).1
    rw [(hc i k hi hk).1, ← hv]
    match k, hk with
    | 0, _ | 1, _ | 2, _ | 3, _ | 4, _ => rfl
end Go.Proofs.Ytmhmgenchpemkaa
