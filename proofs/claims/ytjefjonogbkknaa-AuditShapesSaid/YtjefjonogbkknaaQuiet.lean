/- A load of a whole row in a region that draws its order. -/
import Derived.Test.YtjefjonogbkknaaOps
namespace Go.Proofs.Ytjefjonogbkknaa
open Go.RowKit

theorem below_range {w w' : World} {b o : Nat} {cs : List Value} (h : w.rangeAt b o cs) (hb : b < w.heap.size) (hB : Below w.heap.size w w') : w'.rangeAt b o cs := fun j v hj => (hB.cell (p := ⟨b, o + j, none⟩) hb).trans (h j v hj)
theorem quiet_load_mid {P : Program} {o : Oper} {a : Act} {w : World} {K : Act → Prop} (ty : TypeId) (x : Operand) (ho : o.op = .load ty x) (b off : Nat) (hx : a.eval x = .pointer (some ⟨b, off, none⟩)) (cs : List Value) (d : TypeDesc)
    (hu : P.underlying ty = some d) (hd : d.isRow = true) (hi : (P.info? ty).map (·.size) = some cs.length) (hc : w.rangeAt b off cs) (hb : b < w.heap.size)
    (hk : K (a.put o.dst (.agg cs.toArray))) : o.quiet P a (fun w' => ∃ y, w' = graft w y) K := by
  refine ⟨_, fun w' hw => ?_, hk⟩
  obtain ⟨y, rfl⟩ := hw
  unfold Oper.quietAt execOp
  simp only [ho, hx, Instr.loadAt, Instr.sureAddr, Sem.run_bind, Sem.run_pure, Result.andThen_ok, run_loadVar_mid (graft w y) b off ty cs d (below_range hc hb (graft_below w y)) hu hd hi]
  exact ⟨rfl, rfl⟩
end Go.Proofs.Ytjefjonogbkknaa
