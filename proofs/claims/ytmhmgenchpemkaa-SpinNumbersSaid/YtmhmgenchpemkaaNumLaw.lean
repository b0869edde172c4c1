/- The run of SpinNumbers: the plain law. -/
import Derived.Test.YtmhmgenchpemkaaFair
namespace Go.Proofs.Ytmhmgenchpemkaa
open Go.RowKit

def nj : List Jb := [⟨2, 0, 0, 5, 6⟩, ⟨3, 0, 0, 0, 0⟩]
def nstep (k : Nat) (L : List Mch) (s : MS) : List Mch × MS :=
  match L[k]? with
  | some x => if x.done then (L, s) else (L.set k (stepM s x k).1, (stepM s x k).2)
  | none => (L, s)
def nrun : Nat → List Mch × MS
  | 0 => (nj.map Jb.mch, MS.new 4)
  | i + 1 => nstep (i % 2) (nrun i).1 (nrun i).2
theorem nrun_len : ∀ i, (nrun i).1.length = 2
  | 0 => rfl
  | i + 1 => by
    have := nrun_len i
    rw [nrun, nstep]
    split
    · split <;> simp [this]
    · exact this
def nlast : List Value := [.bool true, .int .i64 0, .int .i64 0, .int .i64 0, .bool true, .int .i64 5, .int .i64 6, .int .i64 1]
theorem nfin : states (nrun 40).1 = nlast := by kernel_rfl
theorem npick : pickOf (nrun 40).1 0 = (0, false) := by kernel_rfl
section
variable {w : World} {b c : Nat} {s : MS} {v : Value} {js : List Jb}
/-- A beginning that is refused. -/
theorem bad_new (hm : IsMem w b c s) (ob : Obj) (hj : JobsAt (w.alloc ob) v js) (hl : js.length ≤ 1000000000) (hn : js.any (fun j => !j.ok s.ws.length) = true) :
    Calls Try.prog 11 #[.pointer (some ⟨b, 0, none⟩), v] (w.alloc ob) fun e w' => e = .returned (.tuple #[.pointer none, .int .i64 1]) ∧ IsMem w' b c s ∧ Below w.heap.size w w' := by
  have b0 : Below w.heap.size w (w.alloc ob) := (Below.refl _ _).alloc (Nat.le_refl _) _
  have m0 : IsMem (w.alloc ob) b c s := hm.frm (l := []) (.of_below b0) (by simp) (by simp)
  refine (run_arg m0 hj hl hn).mono ?_
  rintro e w' ⟨rfl, h⟩
  exact ⟨rfl, m0.frm (l := []) (.of_below h) (by simp) (by simp), b0.trans (h.mono b0.size)⟩
end
theorem nbad1 : ([⟨2, 2, 0, 0, 0⟩] : List Jb).any (fun j => !j.ok (MS.new 4).ws.length) = true := by decide +kernel
theorem nbad2 : ([⟨4, 0, 0, 0, 0⟩] : List Jb).any (fun j => !j.ok (MS.new 4).ws.length) = true := by decide +kernel
theorem nbad3 : ([⟨1, 0, 101, 0, 0⟩] : List Jb).any (fun j => !j.ok (MS.new 4).ws.length) = true := by decide +kernel
def nj9 : List Jb := List.replicate 9 ⟨0, 0, 0, 0, 0⟩
theorem nbad4 : nj9.any (fun j => !j.ok (MS.new 4).ws.length) = true := by decide +kernel
theorem nok : nj.any (fun j => !j.ok (MS.new 4).ws.length) = false := by decide +kernel
theorem nmany : (List.replicate 9 (hjob 0 0)).any (fun j => !j.ok (MS.new 4).ws.length) = false := by decide +kernel
theorem nrun_step {W w : World} {r b c f o cap : Nat} {v : Value} {m : Nat} (h : SysB W w r b c f o cap v (nrun m).1 (nrun m).2) :
    Calls Try.prog 14 #[.pointer (some ⟨r, 0, none⟩), .int .i64 ((m : Int) % 2)] w fun e w' => (∃ v', e = .returned v') ∧ SysB W w' r b c f o cap v (nrun (m + 1)).1 (nrun (m + 1)).2 := by
  have hl := nrun_len m
  have hx : (nrun m).1[m % 2]? = some ((nrun m).1[m % 2]'(by omega)) := List.getElem?_eq_getElem _
  generalize (nrun m).1[m % 2]'(by omega) = x at hx
  rw [show ((m : Int) % 2) = ((m % 2 : Nat) : Int) from by omega, nrun, nstep, hx]
  cases hd : x.done
  · exact (h.step hx hd).mono fun e w' ⟨h1, h2, _⟩ => ⟨⟨_, h1⟩, by simpa [hd] using h2⟩
  · exact (h.past hx hd).mono fun e w' ⟨h1, h2, _⟩ => ⟨⟨_, h1⟩, by simpa [hd] using h2⟩
theorem made9 : madeCells (Value.agg #[.int .i64 0, .int .i64 0, .int .i64 0, .int .i64 0, .int .i64 0]).cells 45 = (nj9.flatMap Jb.cells).toArray := by kernel_rfl
theorem make9 (w : World) : (Instr.makeSlice 27 (.int .i64 9) (.int .i64 9)).run Try.prog w = .ok (.slice (some ⟨w.heap.size, 0, none⟩) 9 9) (w.alloc (.cells (nj9.flatMap Jb.cells).toArray 29)) := by
  obtain ⟨i29, hi, hz0, hz1, hz2⟩ := info_parts info29
  have h := run_make (P := Try.prog) w 27 29 i29 _ Try.underlying27 hi hz0 .i64 .i64 9 9 (by omega) (by omega) (by rw [hz2]; omega) (by omega)
  rw [hz1] at h
  rw [← made9]
  exact h
set_option maxHeartbeats 4000000 in
theorem nil_new (w : World) : Calls Try.prog 11 #[.pointer none, .slice none 0 0] w fun e w' => e = .returned (.tuple #[.pointer none, .int .i64 1]) ∧ Below w.heap.size w w' := by
  go_enter Try.func11, Try.ntmps11
  go_wp2_with fail
  go_ret2
  exact ⟨rfl, (Below.refl _ _).alloc (Nat.le_refl _) _⟩
end Go.Proofs.Ytmhmgenchpemkaa
