/- A region of six makings in whatever order. -/
import Derived.Test.YtmhmgenchpemkaaRIn
import Derived.Laws.AppendOwnNone
namespace Go.Proofs.Ytmhmgenchpemkaa
open Go.RowKit

theorem run_empty (w : World) : (Instr.buildSlice 51 0 #[]).run Try.prog w = .ok (.slice (some ⟨w.heap.size, 0, none⟩) 0 0) (w.alloc (.cells #[] 88)) := by
  obtain ⟨i88, hi, hz0, hz1, hz2⟩ := info_parts info88
  simp [go_sem]
def lst (d0 d1 d2 d3 d4 d5 : Bool) : Array Bool := #[true, d0, true, d1, true, d2, true, d3, true, d4, true, d5, false, false, false, false]
def nb (b : Bool) : Nat := if b then 0 else 1
section
variable {P : Program} {ops : Array Oper} {Q : Exit → Act → World → Prop}
/-- The six come up in whatever order: what holds of each set of those that are done. -/
theorem ord (Inv : Bool → Bool → Bool → Bool → Bool → Bool → Act → World → Prop)
    (hr : ∀ d0 d1 d2 d3 d4 d5, (d1 = true → d0 = true) → (d0 && d1 && d2 && d3 && d4 && d5) = false → Region.ready .any ops (lst d0 d1 d2 d3 d4 d5) =
      (if d0 then [] else [1]) ++ (if d0 && !d1 then [3] else []) ++ (if d2 then [] else [5]) ++ (if d3 then [] else [7]) ++ (if d4 then [] else [9]) ++ (if d5 then [] else [11]))
    (h0 : ∀ d2 d3 d4 d5 a w, Inv false false d2 d3 d4 d5 a w → wpOp P ops Q 1 (Inv true false d2 d3 d4 d5) a w)
    (h1 : ∀ d2 d3 d4 d5 a w, Inv true false d2 d3 d4 d5 a w → wpOp P ops Q 3 (Inv true true d2 d3 d4 d5) a w)
    (h2 : ∀ d0 d1 d3 d4 d5 a w, Inv d0 d1 false d3 d4 d5 a w → wpOp P ops Q 5 (Inv d0 d1 true d3 d4 d5) a w)
    (h3 : ∀ d0 d1 d2 d4 d5 a w, Inv d0 d1 d2 false d4 d5 a w → wpOp P ops Q 7 (Inv d0 d1 d2 true d4 d5) a w)
    (h4 : ∀ d0 d1 d2 d3 d5 a w, Inv d0 d1 d2 d3 false d5 a w → wpOp P ops Q 9 (Inv d0 d1 d2 d3 true d5) a w)
    (h5 : ∀ d0 d1 d2 d3 d4 a w, Inv d0 d1 d2 d3 d4 false a w → wpOp P ops Q 11 (Inv d0 d1 d2 d3 d4 true) a w)
    (he : ∀ a w, Inv true true true true true true a w → wpAny P .any ops Q 4 (lst true true true true true true) a w) :
    ∀ (n : Nat) (d0 d1 d2 d3 d4 d5 : Bool) (a : Act) (w : World), nb d0 + nb d1 + nb d2 + nb d3 + nb d4 + nb d5 = n → (d1 = true → d0 = true) → Inv d0 d1 d2 d3 d4 d5 a w → wpAny P .any ops Q (n + 4) (lst d0 d1 d2 d3 d4 d5) a w := by
  intro n
  induction n with
  | zero =>
    intro d0 d1 d2 d3 d4 d5 a w hn _ hI
    have g : ∀ b : Bool, nb b = 0 → b = true := fun b hb => by cases b; simp [nb] at hb; rfl
    obtain rfl := g d0 (by omega)
    obtain rfl := g d1 (by omega)
    obtain rfl := g d2 (by omega)
    obtain rfl := g d3 (by omega)
    obtain rfl := g d4 (by omega)
    obtain rfl := g d5 (by omega)
    exact he a w hI
  | succ n ih =>
    intro d0 d1 d2 d3 d4 d5 a w hn hd hI
    have hall : (d0 && d1 && d2 && d3 && d4 && d5) = false := by
      cases d0 <;> cases d1 <;> cases d2 <;> cases d3 <;> cases d4 <;> cases d5 <;> first | rfl | (simp [nb] at hn)
    refine wpAny_all (hr d0 d1 d2 d3 d4 d5 hd hall) ?_ (fun i hi => ?_)
    · intro he
      cases d0 <;> cases d1 <;> cases d2 <;> cases d3 <;> cases d4 <;> cases d5 <;> first | (simp at he; done) | (simp at hd; done) | (simp at hall; done)
    · simp only [List.mem_append] at hi
      rcases hi with ((((hi | hi) | hi) | hi) | hi) | hi
      · cases d0
        · obtain rfl : i = 1 := by simpa using hi
          cases d1
          · exact wpOp_mono (fun a' w' h => ih true false d2 d3 d4 d5 a' w' (by simp [nb] at hn ⊢; omega) (fun _ => rfl) h) (h0 d2 d3 d4 d5 a w hI)
          · simp at hd
        · simp at hi
      · cases d0
        · simp at hi
        · cases d1
          · obtain rfl : i = 3 := by simpa using hi
            exact wpOp_mono (fun a' w' h => ih true true d2 d3 d4 d5 a' w' (by simp [nb] at hn ⊢; omega) (fun _ => rfl) h) (h1 d2 d3 d4 d5 a w hI)
          · simp at hi
      · cases d2
        · obtain rfl : i = 5 := by simpa using hi
          exact wpOp_mono (fun a' w' h => ih d0 d1 true d3 d4 d5 a' w' (by simp [nb] at hn ⊢; omega) hd h) (h2 d0 d1 d3 d4 d5 a w hI)
        · simp at hi
      · cases d3
        · obtain rfl : i = 7 := by simpa using hi
          exact wpOp_mono (fun a' w' h => ih d0 d1 d2 true d4 d5 a' w' (by simp [nb] at hn ⊢; omega) hd h) (h3 d0 d1 d2 d4 d5 a w hI)
        · simp at hi
      · cases d4
        · obtain rfl : i = 9 := by simpa using hi
          exact wpOp_mono (fun a' w' h => ih d0 d1 d2 d3 true d5 a' w' (by simp [nb] at hn ⊢; omega) hd h) (h4 d0 d1 d2 d3 d5 a w hI)
        · simp at hi
      · cases d5
        · obtain rfl : i = 11 := by simpa using hi
          exact wpOp_mono (fun a' w' h => ih d0 d1 d2 d3 d4 true a' w' (by simp [nb] at hn ⊢; omega) hd h) (h5 d0 d1 d2 d3 d4 a w hI)
        · simp at hi
end
end Go.Proofs.Ytmhmgenchpemkaa
