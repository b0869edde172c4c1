/- Chapter 2's machines: what one step does, in plain Lean; the rows in which they lie. -/
import Derived.Test.YtmhmgenchpemkaaMem2
import Derived.Test.YtmhmgenchpemkaaChecked
import Derived.Deep.MidRow
import Derived.Deep.RegionLaw
import Derived.Deep.DeepMust
import Derived.Deep.CutRange
import Derived.Deep.DeepCutAuto
namespace Go.Proofs.Ytmhmgenchpemkaa
open Go.RowKit

structure Mch where
  (kind at_ work a b : Int)
  done : Bool
  (sa sb tries pc count left ra rb : Int)
def Mch.cells (x : Mch) : List Value := [.int .i64 x.kind, .int .i64 x.at_, .int .i64 x.work, .int .i64 x.a, .int .i64 x.b, .bool x.done, .int .i64 x.sa, .int .i64 x.sb, .int .i64 x.tries, .int .i64 x.pc, .int .i64 x.count, .int .i64 x.left, .int .i64 x.ra, .int .i64 x.rb]
def Mch.new (kind at_ work a b : Int) : Mch := ⟨kind, at_, work, a, b, false, 0, 0, 0, 0, 0, 0, 0, 0⟩
def Mch.again (x : Mch) : Mch := { x with pc := 0, tries := wrap64 (x.tries + 1) }

/-- A holder's next access. -/
def holdM (s : MS) (x : Mch) (num : Int) : Mch × MS :=
  if x.pc = 0 then
    if (s.swap x.at_ 0 num).1 then ({ x with left := x.work, pc := if x.work = 0 then 5 else 3 }, (s.swap x.at_ 0 num).2.2) else (x.again, (s.swap x.at_ 0 num).2.2)
  else if x.pc = 3 then ({ x with left := wrap64 (x.left - 1), pc := if wrap64 (x.left - 1) = 0 then 5 else 3 }, (s.load x.at_).2.2)
  else ({ x with done := true }, (s.store x.at_ 0).2)
/-- The last access of a pair. -/
def finishM (s : MS) (x : Mch) : Mch × MS :=
  if x.kind = 2 then ({ x with done := true }, (s.store x.at_ (wrap64 (x.count + 2))).2)
  else if (s.load x.at_).1 = x.count then ({ x with done := true, sa := x.ra, sb := x.rb }, (s.load x.at_).2.2) else (x.again, (s.load x.at_).2.2)
/-- The second access of a pair. -/
def secondM (s : MS) (x : Mch) : Mch × MS :=
  if x.kind = 2 then ({ x with pc := 5 }, (s.store (wrap64 (x.at_ + 2)) x.b).2)
  else ({ x with pc := 5, rb := (s.load (wrap64 (x.at_ + 2))).1 }, (s.load (wrap64 (x.at_ + 2))).2.2)
/-- A Writer's or Reader's next access. -/
def pairM (s : MS) (x : Mch) : Mch × MS :=
  if x.pc = 0 then
    if (s.load x.at_).1 % 2 = 0 then ({ x with count := (s.load x.at_).1, pc := if x.kind = 2 then 1 else 2 }, (s.load x.at_).2.2) else (({ x with count := (s.load x.at_).1 } : Mch).again, (s.load x.at_).2.2)
  else if x.pc = 1 then
    if (s.swap x.at_ x.count (wrap64 (x.count + 1))).1 then ({ x with pc := 2 }, (s.swap x.at_ x.count (wrap64 (x.count + 1))).2.2) else (x.again, (s.swap x.at_ x.count (wrap64 (x.count + 1))).2.2)
  else if x.pc = 2 then
    if x.kind = 2 then ({ x with pc := 3, left := x.work }, (s.store (wrap64 (x.at_ + 1)) x.a).2)
    else ({ x with pc := 3, left := x.work, ra := (s.load (wrap64 (x.at_ + 1))).1 }, (s.load (wrap64 (x.at_ + 1))).2.2)
  else if x.pc = 3 then
    if x.left = 0 then secondM s { x with pc := 4 } else ({ x with left := wrap64 (x.left - 1) }, (s.load x.at_).2.2)
  else if x.pc = 4 then secondM s x
  else finishM s x

/-- The machines L lie in the block f, from o on. -/
def RowsAt (w : World) (f o : Nat) (L : List Mch) : Prop :=
  f < w.heap.size ∧ (∀ j, w.frozen? ⟨f, j, none⟩ = false) ∧ ∀ (i : Nat) (x : Mch), L[i]? = some x → w.rangeAt f (o + i * 14) x.cells
theorem RowsAt.frm {w w' : World} {f o : Nat} {L : List Mch} {l : List Nat} (h : RowsAt w f o L) (hf : Frm l w w') (hn : f ∉ l) : RowsAt w' f o L :=
  ⟨Nat.lt_of_lt_of_le h.1 hf.size, fun j => (World.frozen?_of_block (w := w) (a := ⟨f, j, none⟩) (hf.block f h.1 hn)).trans (h.2.1 j),
    fun i x hx j v hv => (World.cell?_of_block (w := w) (a := ⟨f, o + i * 14 + j, none⟩) (hf.block f h.1 hn)).trans (h.2.2 i x hx j v hv)⟩
theorem RowsAt.below {w w' : World} {f o : Nat} {L : List Mch} (h : RowsAt w f o L) (hb : Below w.heap.size w w') : RowsAt w' f o L := h.frm (l := []) (.of_below hb) (by simp)
theorem Mch.len (x : Mch) : x.cells.length = 14 := rfl
/-- One cell of a row is written. -/
theorem RowsAt.put {w : World} {f o i j : Nat} {L : List Mch} {x x' : Mch} {v : Value} (h : RowsAt w f o L) (hx : L[i]? = some x) (hj : j < 14) (hc : x'.cells = x.cells.set j v) : RowsAt (w.setCell ⟨f, o + i * 14 + j, none⟩ v) f o (L.set i x') := by
  obtain ⟨h1, h2, h3⟩ := h
  have hil := (List.getElem?_eq_some_iff.1 hx).1
  refine ⟨by simpa using h1, fun k => by rw [World.frozen?_setCell]; exact h2 k, fun k y hy c u hu => ?_⟩
  have hc14 : c < 14 := (List.getElem?_eq_some_iff.1 hu).1
  by_cases hk : k = i
  · subst hk
    rw [List.getElem?_set_self hil] at hy
    cases hy
    by_cases hcj : c = j
    · subst hcj
      have := h3 k x hx c _ (List.getElem?_eq_getElem (show c < x.cells.length from hj))
      rw [World.cell?_setCell_same _ _ _ this, ← hu, hc, List.getElem?_set_self (show c < x.cells.length from hj)]
    · rw [World.cell?_setCell_other _ _ _ _ (by intro e; injection e; omega)]
      refine h3 k x hx c u ?_
      rw [← hu, hc, List.getElem?_set_ne (fun e => hcj e.symm)]
  · rw [List.getElem?_set_ne (fun e => hk e.symm)] at hy
    rw [World.cell?_setCell_other _ _ _ _ (by intro e; injection e; omega)]
    exact h3 k y hy c u hu
theorem RowsAt.at {w : World} {f o i : Nat} {L : List Mch} {x : Mch} (h : RowsAt w f o L) (hx : L[i]? = some x) :
    w.cell? ⟨f, o + i * 14, none⟩ = some (.int .i64 x.kind) ∧ w.cell? ⟨f, o + i * 14 + 1, none⟩ = some (.int .i64 x.at_) ∧ w.cell? ⟨f, o + i * 14 + 2, none⟩ = some (.int .i64 x.work) ∧ w.cell? ⟨f, o + i * 14 + 3, none⟩ = some (.int .i64 x.a) ∧ w.cell? ⟨f, o + i * 14 + 4, none⟩ = some (.int .i64 x.b) ∧
    w.cell? ⟨f, o + i * 14 + 5, none⟩ = some (.bool x.done) ∧ w.cell? ⟨f, o + i * 14 + 6, none⟩ = some (.int .i64 x.sa) ∧ w.cell? ⟨f, o + i * 14 + 7, none⟩ = some (.int .i64 x.sb) ∧ w.cell? ⟨f, o + i * 14 + 8, none⟩ = some (.int .i64 x.tries) ∧ w.cell? ⟨f, o + i * 14 + 9, none⟩ = some (.int .i64 x.pc) ∧
    w.cell? ⟨f, o + i * 14 + 10, none⟩ = some (.int .i64 x.count) ∧ w.cell? ⟨f, o + i * 14 + 11, none⟩ = some (.int .i64 x.left) ∧ w.cell? ⟨f, o + i * 14 + 12, none⟩ = some (.int .i64 x.ra) ∧ w.cell? ⟨f, o + i * 14 + 13, none⟩ = some (.int .i64 x.rb) :=
  have r := h.2.2 i x hx
  ⟨r 0 _ rfl, r 1 _ rfl, r 2 _ rfl, r 3 _ rfl, r 4 _ rfl, r 5 _ rfl, r 6 _ rfl, r 7 _ rfl, r 8 _ rfl, r 9 _ rfl, r 10 _ rfl, r 11 _ rfl, r 12 _ rfl, r 13 _ rfl⟩

theorem IsMem.set {w : World} {b c f : Nat} {s : MS} (h : IsMem w b c s) (hfb : f ≠ b) (hfc : f ≠ c) (j : Nat) (v : Value) : IsMem (w.setCell ⟨f, j, none⟩ v) b c s :=
  h.frm (l := [f]) ((Frm.refl _ _).setCell (by simp) _) (by simp; exact fun e => hfb e.symm) (by simp; exact fun e => hfc e.symm)
/-- A row is turned once more. -/
theorem RowsAt.again {w : World} {f o i j : Nat} {L : List Mch} {x y y' : Mch} {v : Value} (h : RowsAt w f o (L.set i y)) (hx : L[i]? = some x) (hj : j < 14) (hc : y'.cells = y.cells.set j v) : RowsAt (w.setCell ⟨f, o + i * 14 + j, none⟩ v) f o (L.set i y') := by
  have := h.put (List.getElem?_set_self (List.getElem?_eq_some_iff.1 hx).1) hj hc
  rwa [List.set_set] at this
theorem Frm.rows {f b c : Nat} {w w1 : World} (h : Frm [b, c] w w1) : Frm [f, b, c] w w1 := h.mono (fun k hk => List.mem_cons_of_mem _ hk)
theorem Frm.row1 {f b c : Nat} {w w1 : World} (h : Frm [f] w w1) : Frm [f, b, c] w w1 := h.mono (fun k hk => by simp at hk; simp [hk])
set_option maxRecDepth 100000 in
theorem again_any {w : World} {f o i : Nat} {L : List Mch} {x : Mch} (h : RowsAt w f o L) (hx : L[i]? = some x) : Calls Try.prog 43 #[.pointer (some ⟨f, o + i * 14, none⟩)] w fun e w' => e = .returned (.tuple #[]) ∧ RowsAt w' f o (L.set i x.again) ∧ Frm [f] w w' := by
  obtain ⟨u0, u1, u2, u3, u4, u5, u6, u7, u8, u9, u10, u11, u12, u13⟩ := h.at hx
  have H := Lib.hid h
  have HX := Lib.hid hx
  have fz := h.2.1
  clear h hx
  go_enter Try.func43, Try.ntmps43
  go_wp2_with fail
  go_end0
  have hil := (List.getElem?_eq_some_iff.1 HX.out).1
  refine ⟨rfl, ?_, ((Frm.refl _ _).setCell (by simp) _).setCell (by simp) _⟩
  have h1 := H.out.put (j := 9) (v := .int .i64 0) (x' := { x with pc := 0 }) HX.out (by omega) rfl
  have h2 := h1.put (j := 8) (v := .int .i64 (wrap64 (x.tries + 1))) (x' := x.again) (List.getElem?_set_self hil) (by omega) rfl
  rw [List.set_set] at h2
  exact h2
end Go.Proofs.Ytmhmgenchpemkaa
