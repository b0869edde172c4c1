/- Chapter 4: readers and what waits for them; the small functions. -/
import Derived.Test.YtedfegbafjmkgaaProg
import Derived.Test.YtedfegbafjmkgaaWin
import Derived.WalkSpells
import Derived.Outline
import Derived.Handy
import Derived.Lib.Hide
import Derived.Deep.OwnRows
import Derived.Deep.LoopGhost
import Derived.Deep.MidRow
import Derived.Deep.RegionLaw
import Derived.Deep.DeepMust
import Derived.Deep.CutRange
import Derived.Deep.DeepCutAuto
import Derived.WalkMore
namespace Go.Proofs.Ytedfegbafjmkgaa
open Go.RowKit

/-- An id that waits: with the slice in which lies how often each reader had left. -/
structure WE where
  (id : Int) (v : Value) (l : List Int)
def WE.cells (x : WE) : List Value := [.int .i64 x.id, x.v]
structure GS where
  rd : List (Int × Int)
  wt : List WE
def rcells (l : List (Int × Int)) : Array Value := (l.flatMap fun x => [Value.int .i64 x.1, Value.int .i64 x.2]).toArray
def wcells (l : List WE) : List Value := l.flatMap WE.cells
def SinceAt (w : World) (base n : Nat) (x : Value) (l : List Int) : Prop :=
  ∃ f o cap cs, x = .slice (some ⟨f, o, none⟩) n cap ∧ base ≤ f ∧ w.heap[f]? = some (.cells cs 3 (0, 0)) ∧ ∀ j, j < n → cs[o + j]? = some (.int .i64 (l.getD j 0))
structure Gr (w : World) (base g rb : Nat) (v : Value) (s : GS) : Prop where
  hg : Holds w g #[.slice (some ⟨rb, 0, none⟩) s.rd.length s.rd.length, v]
  hr : Holds w rb (rcells s.rd)
  hv : Win w base 60 2 v s.wt.length (wcells s.wt)
  hs : ∀ x ∈ s.wt, SinceAt w base s.rd.length x.v x.l
  n1 : 1 ≤ s.rd.length
  n8 : s.rd.length ≤ 8
  m16 : s.wt.length ≤ 16
  gb : g < base
  rbb : rb < base
  ne : g ≠ rb
  bs : base ≤ w.heap.size

theorem flat2 {α : Type} (p q : α → Value) : ∀ (l : List α) (i : Nat) (x : α), l[i]? = some x → (l.flatMap fun x => [p x, q x])[i * 2]? = some (p x) ∧ (l.flatMap fun x => [p x, q x])[i * 2 + 1]? = some (q x)
  | [], i, x, h => by simp at h
  | y :: l, 0, x, h => by simp at h; subst h; simp
  | y :: l, i + 1, x, h => by
    have := flat2 p q l i x (by simpa using h)
    rw [List.flatMap_cons, show (i + 1) * 2 = i * 2 + 2 from by omega]
    simpa using this
theorem rcells_at {l : List (Int × Int)} {i : Nat} {x : Int × Int} (h : l[i]? = some x) : (rcells l)[i * 2]? = some (.int .i64 x.1) ∧ (rcells l)[i * 2 + 1]? = some (.int .i64 x.2) := by
  simpa [rcells] using flat2 (fun x : Int × Int => Value.int .i64 x.1) (fun x => Value.int .i64 x.2) l i x h
theorem wcells_at {l : List WE} {i : Nat} {x : WE} (h : l[i]? = some x) : (wcells l)[i * 2]? = some (.int .i64 x.id) ∧ (wcells l)[i * 2 + 1]? = some x.v :=
  flat2 (fun x : WE => Value.int .i64 x.id) (fun x => x.v) l i x h
theorem rcells_size (l : List (Int × Int)) : (rcells l).size = l.length * 2 := by
  induction l with
  | nil => rfl
  | cons y l ih => simp only [rcells, List.flatMap_cons, List.size_toArray, List.length_append, List.length_cons, List.length_nil] at ih ⊢; omega
theorem wcells_length (l : List WE) : (wcells l).length = l.length * 2 := by
  induction l with
  | nil => rfl
  | cons y l ih => simp only [wcells, WE.cells, List.flatMap_cons, List.length_append, List.length_cons, List.length_nil] at ih ⊢; omega
theorem flat2_set (l : List (Int × Int)) (i : Nat) (a b : Int) (hi : i < l.length) (x : Int × Int) (hx : l[i]? = some x) :
    (rcells l).setIfInBounds (i * 2) (.int .i64 a) = rcells (l.set i (a, x.2)) ∧ (rcells l).setIfInBounds (i * 2 + 1) (.int .i64 b) = rcells (l.set i (x.1, b)) := by
  have key : ∀ (l : List (Int × Int)) (i : Nat), l[i]? = some x →
      (l.flatMap fun x => [Value.int .i64 x.1, Value.int .i64 x.2]).set (i * 2) (.int .i64 a) = ((l.set i (a, x.2)).flatMap fun x => [Value.int .i64 x.1, Value.int .i64 x.2]) ∧
      (l.flatMap fun x => [Value.int .i64 x.1, Value.int .i64 x.2]).set (i * 2 + 1) (.int .i64 b) = ((l.set i (x.1, b)).flatMap fun x => [Value.int .i64 x.1, Value.int .i64 x.2]) := by
    intro l
    induction l with
    | nil => intro i h; simp at h
    | cons y l ih =>
      intro i h
      cases i with
      | zero => simp at h; subst h; simp
      | succ i =>
        have := ih i (by simpa using h)
        rw [List.flatMap_cons, show (i + 1) * 2 = i * 2 + 2 from by omega]
        simp only [List.set_cons_succ, List.flatMap_cons, List.cons_append, List.nil_append, this.1, this.2]
        exact ⟨trivial, trivial⟩
  have := key l i hx
  simp only [rcells, List.setIfInBounds_toArray]
  exact ⟨by rw [this.1], by rw [this.2]⟩

section
variable {w w' : World} {base g rb : Nat} {v : Value} {s : GS}
theorem SinceAt.lt {n : Nat} {x : Value} {li : List Int} (h : SinceAt w base n x li) : ∀ k, x.ownBlock = some k → base ≤ k ∧ k < w.heap.size := by
  obtain ⟨f, o, cap, cs, rfl, h1, h2, h3⟩ := h
  intro k hk
  cases hk
  exact ⟨h1, (Array.getElem?_eq_some_iff.1 h2).1⟩
theorem SinceAt.frm {l : List Nat} {n : Nat} {x : Value} {li : List Int} (h : SinceAt w base n x li) (hf : Frm l w w') (hn : ∀ k, x.ownBlock = some k → k ∉ l) : SinceAt w' base n x li := by
  have hl := h.lt
  obtain ⟨f, o, cap, cs, rfl, h1, h2, h3⟩ := h
  exact ⟨f, o, cap, cs, rfl, h1, (hf.block f (hl f rfl).2 (hn f rfl)).trans h2, h3⟩
theorem SinceAt.laid {n : Nat} {x : Value} {li : List Int} (h : SinceAt w base n x li) : ∃ f o cap, x = .slice (some ⟨f, o, none⟩) n cap ∧ base ≤ f ∧ f < w.heap.size ∧ ∀ j, j < n → w.cell? ⟨f, o + j, none⟩ = some (.int .i64 (li.getD j 0)) := by
  have hl := h.lt
  obtain ⟨f, o, cap, cs, rfl, h1, h2, h3⟩ := h
  exact ⟨f, o, cap, rfl, h1, (hl f rfl).2, fun j hj => by simp [World.cell?, h2, h3 j hj]⟩
theorem SinceAt.apart {n m : Nat} {x v : Value} {li : List Int} {b : Nat} {xs : List Value} (h : SinceAt w base n x li) (hv : Win w b 60 2 v m xs) : x.ownBlock ≠ v.ownBlock := by
  obtain ⟨f, o, cap, cs, rfl, h1, h2, h3⟩ := h
  rcases hv.2 with ⟨rfl, _⟩ | ⟨f', o', cap', cur, rfl, _, h4, _⟩
  · simp [Value.ownBlock]
  · intro e
    obtain rfl : f = f' := by simpa [Value.ownBlock] using e
    rw [h2] at h4; cases h4
theorem Gr.below (h : Gr w base g rb v s) (hb : Below w.heap.size w w') : Gr w' base g rb v s :=
  ⟨h.hg.below hb, h.hr.below hb, h.hv.below hb, fun x hx => (h.hs x hx).frm (l := []) (.of_below hb) (by simp), h.n1, h.n8, h.m16, h.gb, h.rbb, h.ne, Nat.le_trans h.bs hb.size⟩
/-- One reader's cell is turned. -/
theorem Gr.turn (h : Gr w base g rb v s) {rd : List (Int × Int)} {j : Nat} {u : Value} (hl : rd.length = s.rd.length) (hj : j < s.rd.length * 2) (hc : (rcells s.rd).setIfInBounds j u = rcells rd) : Gr (w.setCell ⟨rb, j, none⟩ u) base g rb v { s with rd := rd } := by
  have hf : Frm [rb] w (w.setCell ⟨rb, j, none⟩ u) := (Frm.refl _ _).setCell (by simp) _
  refine ⟨by simpa [hl] using h.hg.frm hf (by simpa using h.ne), ?_, h.hv.frm hf (fun k hk e => ?_), fun x hx => ?_, by simpa [hl] using h.n1, by simpa [hl] using h.n8, h.m16, h.gb, h.rbb, h.ne, by simpa using h.bs⟩
  · have := h.hr.set j u (by rw [rcells_size]; exact hj)
    rw [hc] at this
    exact this
  · have := (h.hv.lt k e).1
    have := h.rbb
    simp at hk; omega
  · simp only [hl]
    refine (h.hs x hx).frm hf (fun k hk e => ?_)
    have := ((h.hs x hx).lt k hk).1
    have := h.rbb
    simp at e; omega

theorem has_any (h : Gr w base g rb v s) {i : Int} {r : Bool} (hr : decide (0 ≤ i ∧ i < s.rd.length) = r) : Calls Try.prog 28 #[.pointer (some ⟨g, 0, none⟩), .int .i64 i] w fun e w' => e = .returned (.bool r) ∧ w = w' := by
  have c0 : w.cell? ⟨g, 0, none⟩ = some (.slice (some ⟨rb, 0, none⟩) s.rd.length s.rd.length) := h.hg.cell 0
  have c1 : w.cell? ⟨g, 1, none⟩ = some v := h.hg.cell 1
  have gl := h.hg.lt
  clear h
  by_cases h0 : 0 ≤ i
  · by_cases hl : i < s.rd.length
    · obtain rfl : true = r := by rw [← hr]; simp [h0, hl]
      clear hr
      go_enter Try.func28, Try.ntmps28
      go_wp2_with fail
      go_ret
      exact ⟨rfl, rfl⟩
    · obtain rfl : false = r := by rw [← hr]; simp; omega
      clear hr
      go_enter Try.func28, Try.ntmps28
      go_wp2_with fail
      go_ret
      exact ⟨rfl, rfl⟩
  · obtain rfl : false = r := by rw [← hr]; simp; omega
    clear hr
    go_enter Try.func28, Try.ntmps28
    go_wp2_with fail
    go_ret
    exact ⟨rfl, rfl⟩
theorem enter_no (h : Gr w base g rb v s) {i : Int} (hi : ¬ (0 ≤ i ∧ i < s.rd.length)) : Calls Try.prog 10 #[.pointer (some ⟨g, 0, none⟩), .int .i64 i] w fun e w' => e = .returned (.int .i64 1) ∧ w = w' := by
  have HAS := Lib.hid (has_any h (i := i) (r := false) (by simpa using hi))
  clear h hi
  go_enter Try.func10, Try.ntmps10
  go_wp2_with (first | (go_at_call 28; refine HAS.out.mono ?_; rintro e w1 ⟨rfl, rfl⟩))
  go_ret
  exact ⟨rfl, rfl⟩
theorem leave_no (h : Gr w base g rb v s) {i : Int} (hi : ¬ (0 ≤ i ∧ i < s.rd.length)) : Calls Try.prog 11 #[.pointer (some ⟨g, 0, none⟩), .int .i64 i] w fun e w' => e = .returned (.int .i64 1) ∧ w = w' := by
  have HAS := Lib.hid (has_any h (i := i) (r := false) (by simpa using hi))
  clear h hi
  go_enter Try.func11, Try.ntmps11
  go_wp2_with (first | (go_at_call 28; refine HAS.out.mono ?_; rintro e w1 ⟨rfl, rfl⟩))
  go_ret
  exact ⟨rfl, rfl⟩
def GS.enter (s : GS) (i : Nat) (x : Int × Int) : GS := { s with rd := s.rd.set i (wrap64 (x.1 + 1), x.2) }
theorem enter_yes (h : Gr w base g rb v s) {i : Nat} {x : Int × Int} (hx : s.rd[i]? = some x) : Calls Try.prog 10 #[.pointer (some ⟨g, 0, none⟩), .int .i64 i] w fun e w' => e = .returned (.int .i64 0) ∧ Gr w' base g rb v (s.enter i x) ∧ Frm [rb] w w' := by
  have hi := (List.getElem?_eq_some_iff.1 hx).1
  have HAS := Lib.hid (has_any h (i := i) (r := true) (by simp; omega))
  have c0 : w.cell? ⟨g, 0, none⟩ = some (.slice (some ⟨rb, 0, none⟩) s.rd.length s.rd.length) := h.hg.cell 0
  have y0 : w.cell? ⟨rb, i * 2, none⟩ = some (.int .i64 x.1) := (h.hr.cell _).trans (rcells_at hx).1
  have y1 : w.cell? ⟨rb, i * 2 + 1, none⟩ = some (.int .i64 x.2) := (h.hr.cell _).trans (rcells_at hx).2
  have fz := h.hr.2.1
  have H := Lib.hid h
  have HX := Lib.hid hx
  have hi0 : (0 : Int) ≤ (i : Int) := by omega
  have hi1 : (i : Int) < (s.rd.length : Int) := by omega
  clear h hx
  go_enter Try.func10, Try.ntmps10
  go_wp2_with (first | (go_at_call 28; refine HAS.out.mono ?_; rintro e w1 ⟨rfl, rfl⟩))
  go_ret
  exact ⟨rfl, H.out.turn (by simp) (by omega) (flat2_set s.rd i _ 0 hi x HX.out).1, (Frm.refl _ _).setCell (by simp) _⟩
def GS.leave (s : GS) (i : Nat) (x : Int × Int) : GS := { s with rd := s.rd.set i (wrap64 (x.1 - 1), if wrap64 (x.1 - 1) = 0 then wrap64 (x.2 + 1) else x.2) }
theorem leave_past (h : Gr w base g rb v s) {i : Nat} {x : Int × Int} (hx : s.rd[i]? = some x) (hd : x.1 = 0) : Calls Try.prog 11 #[.pointer (some ⟨g, 0, none⟩), .int .i64 i] w fun e w' => e = .returned (.int .i64 16) ∧ w = w' := by
  have hi := (List.getElem?_eq_some_iff.1 hx).1
  have HAS := Lib.hid (has_any h (i := i) (r := true) (by simp; omega))
  have c0 : w.cell? ⟨g, 0, none⟩ = some (.slice (some ⟨rb, 0, none⟩) s.rd.length s.rd.length) := h.hg.cell 0
  have y0 : w.cell? ⟨rb, i * 2, none⟩ = some (.int .i64 0) := by rw [← hd]; exact (h.hr.cell _).trans (rcells_at hx).1
  have hi0 : (0 : Int) ≤ (i : Int) := by omega
  have hi1 : (i : Int) < (s.rd.length : Int) := by omega
  clear h hx hd
  go_enter Try.func11, Try.ntmps11
  go_wp2_with (first | (go_at_call 28; refine HAS.out.mono ?_; rintro e w1 ⟨rfl, rfl⟩))
  go_ret
  exact ⟨rfl, rfl⟩
theorem leave_yes (h : Gr w base g rb v s) {i : Nat} {x : Int × Int} (hx : s.rd[i]? = some x) (hd : x.1 ≠ 0) : Calls Try.prog 11 #[.pointer (some ⟨g, 0, none⟩), .int .i64 i] w fun e w' => e = .returned (.int .i64 0) ∧ Gr w' base g rb v (s.leave i x) ∧ Frm [rb] w w' := by
  have hi := (List.getElem?_eq_some_iff.1 hx).1
  have HAS := Lib.hid (has_any h (i := i) (r := true) (by simp; omega))
  have c0 : w.cell? ⟨g, 0, none⟩ = some (.slice (some ⟨rb, 0, none⟩) s.rd.length s.rd.length) := h.hg.cell 0
  have y0 : w.cell? ⟨rb, i * 2, none⟩ = some (.int .i64 x.1) := (h.hr.cell _).trans (rcells_at hx).1
  have y1 : w.cell? ⟨rb, i * 2 + 1, none⟩ = some (.int .i64 x.2) := (h.hr.cell _).trans (rcells_at hx).2
  have fz := h.hr.2.1
  have H := Lib.hid h
  have HX := Lib.hid hx
  have hi0 : (0 : Int) ≤ (i : Int) := by omega
  have hi1 : (i : Int) < (s.rd.length : Int) := by omega
  have t1 := H.out.turn (by simp) (by omega) (flat2_set s.rd i (wrap64 (x.1 - 1)) 0 hi x HX.out).1
  have T1 := Lib.hid t1
  clear h hx t1
  by_cases hz : wrap64 (x.1 - 1) = 0
  · go_enter Try.func11, Try.ntmps11
    rw [hz] at T1
    go_wp2_with (first | (go_at_call 28; refine HAS.out.mono ?_; rintro e w1 ⟨rfl, rfl⟩))
    go_ret
    refine ⟨rfl, ?_, ((Frm.refl _ _).setCell (by simp) _).setCell (by simp) _⟩
    have hx1 : (s.rd.set i ((0 : Int), x.2))[i]? = some ((0 : Int), x.2) := List.getElem?_set_self hi
    have := T1.out.turn (j := i * 2 + 1) (rd := s.rd.set i (0, wrap64 (x.2 + 1))) (by simp) (by simp; omega) (by
      have := (flat2_set (s.rd.set i ((0 : Int), x.2)) i 0 (wrap64 (x.2 + 1)) (by simpa using hi) _ hx1).2
      simpa [List.set_set] using this)
    simpa [GS.leave, hz] using this
  · go_enter Try.func11, Try.ntmps11
    go_wp2_with (first | (go_at_call 28; refine HAS.out.mono ?_; rintro e w1 ⟨rfl, rfl⟩))
    go_ret
    refine ⟨rfl, ?_, (Frm.refl _ _).setCell (by simp) _⟩
    simpa [GS.leave, hz] using T1.out
end
end Go.Proofs.Ytedfegbafjmkgaa
