/- The walk of (*file.Table).each: the open descriptors, one behind the other. -/
import Derived.RangeFuncBox
import Derived.RangeFuncLeaves
import Derived.RangeFuncCalls
import Derived.RangeFuncBound
import Derived.RangeFuncNested
import Derived.Shelf.Abstract
import Derived.OwnWalkIn
import Derived.TacticsInMore
import Derived.LoopNIn
import Derived.LoopIn
import Derived.Scope
import Derived.Test.YtfmhiamgfhdmmaaTab
namespace Go.Proofs.Ytfmhiamgfhdmmaa
open Go.RowKit Go.Shelf

attribute [local go_sem] Oper.semAt_some

/-- The open descriptors below k. -/
def told (T : Nat → Sl) (k : Nat) : List Nat := (List.range k).filter fun j => (T j).op
theorem told_shut {T : Nat → Sl} {k : Nat} (h : (T k).op = false) : told T (k + 1) = told T k := by
  simp only [told, List.range_succ, List.filter_append, List.filter_cons, h, List.filter_nil, Bool.false_eq_true, if_false, List.append_nil]
theorem told_open {T : Nat → Sl} {k : Nat} (h : (T k).op = true) : told T (k + 1) = told T k ++ [k] := by
  simp only [told, List.range_succ, List.filter_append, List.filter_cons, h, List.filter_nil, if_true]
theorem told_length (T : Nat → Sl) (k : Nat) : (told T k).length ≤ k := by
  unfold told; exact Nat.le_trans (List.length_filter_le _ _) (by simp)
def Sl.file (s : Sl) : Value := .agg #[.int .i64 s.m, .int .i64 s.n, .int .i64 s.f, .int .i64 s.p]

theorem AbidesFrom.new {β : Type} {B : Nat} {J : β → World → Prop} (h : AbidesFrom B J) {s : β} {w : World} (hj : J s w) (o : Obj) : J s (w.alloc o) :=
  h s w _ none hj ⟨rfl, rfl, rfl, by simp, fun k hk _ => ((Below.refl w.heap.size w).alloc (Nat.le_refl _) o).block k hk⟩ (by simp)

section
variable {F : Fence} {n : Nat} {P : Program} {Q : Exit → Act → World → Prop} {a : Act} {w : World} {b : Frame} {k : List Item} {cs : List Frame}
theorem stepR_scope {c : Code} : step P (lone (b.atR a (.code (.scope c) :: k)) cs w) = .next (lone (b.atR a (.code c :: .inScope c :: k)) cs w) :=
  step_lone_go (by simp [stepG, stepG.exec, Frame.atR])
theorem stepR_inScope {c : Code} : step P (lone (b.atR a (.inScope c :: k)) cs w) = .next (lone (b.atR a k) cs w) :=
  step_lone_go (by simp [stepG, stepG.exec, Frame.atR])
/-- A scope that no goto leaves, within a fence. -/
theorem wpIn_scope {c : Code} (h : c.wpIn F n P (Exit.noGoto Q) a w) : (Code.scope c).wpIn F n P Q a w := by
  intro b k cs hro hb hr
  have h0 : (lone (b.atR a (.code (.scope c) :: k)) cs w).fenced P F := fenced_calm hb hr rfl
  obtain ⟨e, a₁, w₁, hq, harr⟩ := h b (.inScope c :: k) cs hro hb hr
  cases e with
  | normal => exact ⟨.normal, a₁, w₁, hq, .head h0 stepR_scope (StepsIn.trans harr (.one (fenced_calm hb hr rfl) stepR_inScope))⟩
  | exit id =>
    have hx : exitTo id (.inScope c :: k) = exitTo id k := by simp [exitTo]
    exact ⟨.exit id, a₁, w₁, hq, fun k' hk => .head h0 stepR_scope (harr.1 k' (by rw [hx]; exact hk)),
      fun hr' hk => let ⟨k₁, h1, h2⟩ := harr.2 hr' (by rw [hx]; exact hk); ⟨k₁, h1, .head h0 stepR_scope h2⟩⟩
  | goto l => exact hq.elim
  | ret => exact ⟨_, a₁, w₁, hq, .of_steps (.one h0 stepR_scope) harr⟩
  | panic ch => exact ⟨_, a₁, w₁, hq, .of_steps (.one h0 stepR_scope) harr⟩
  | outgrown => exact ⟨_, a₁, w₁, hq, .of_steps (.one h0 stepR_scope) harr⟩
end

/-- A whole array is read, as one step of a walk within a fence. -/
theorem wpListIn_load_mid {F : Fence} {n : Nat} {P : Program} {w : World} {ops : Array Oper} {rest : List Oper} {o : Oper} {a : Act} {Q : Exit → Act → World → Prop} (hg : o.guard = none) (ty : TypeId) (x : Operand) (ho : o.op = .load ty x)
    (b off : Nat) (hx : a.eval x = .pointer (some ⟨b, off, none⟩)) (cs : List Value) (d : TypeDesc) (hc : w.rangeAt b off cs) (hu : P.underlying ty = some d) (hd : d.isRow = true) (hi : (P.info? ty).map (·.size) = some cs.length)
    (h : wpListIn F n P ops Q rest (a.put o.dst (.agg cs.toArray)) w) : wpListIn F n P ops Q (o :: rest) a w := by
  refine wpListIn_plain hg fun K hK' => ?_
  unfold Oper.wpIn
  refine ⟨?_, ?_⟩
  · simp [Oper.about, ho]
  · rw [Oper.semAt_plain F _ _ (by rw [ho]; intro c hc'; cases hc')]
    unfold execOp
    simp only [ho, hx, Instr.loadAt, Instr.sureAddr, Sem.run_bind, Sem.run_pure, Result.andThen_ok, run_loadVar_mid w b off ty cs d hc hu hd hi]
    exact hK' _ _ h

theorem info62 : (Try.prog.info? 62).map (·.size) = some 5 := by kernel_rfl
theorem part_row (T : Nat → Sl) (p : Nat) : ∀ k, k < 8 → ∀ w : World, (part 62 (row T p).toArray (k * 5)).run Try.prog w = .ok (.agg (T (p * 8 + k)).cells.toArray) w := by
  intro k hk w
  have e : ((row T p).drop (k * 5)).take 5 = (T (p * 8 + k)).cells := by
    apply List.ext_getElem?
    intro j
    by_cases hj : j < 5
    · rw [List.getElem?_take_of_lt hj, List.getElem?_drop]
      exact row_get T p k j hk hj
    · rw [List.getElem?_eq_none (by simp; omega), List.getElem?_eq_none (by simp [Sl.cells_length]; omega)]
  have hagg : (isAgg 62).run Try.prog w = .ok true w := by
    unfold isAgg
    rw [Sem.run_bind, run_underlying Try.underlying62 w]
    simp
  cases hq : Try.prog.info? 62 with
  | none => have := info62; rw [hq] at this; simp at this
  | some i =>
    have hs : i.size = 5 := by have := info62; rw [hq] at this; simpa using this
    simp [part, hagg, sizeOf, typeInfo, hq, hs, e]

theorem index_row (T : Nat → Sl) (p : Nat) : ∀ k : Nat, k < 8 → ∀ w : World, (Instr.index 63 (.agg (row T p).toArray) (.int .i64 (k : Int))).run Try.prog w = .ok (.agg (T (p * 8 + k)).cells.toArray) w := by
  intro k hk w
  have h0 : (0 : Int) ≤ (k : Int) := by omega
  have h1 : (k : Int) < ((8 : Nat) : Int) := by omega
  have hs : (sizeOf 62).run Try.prog w = .ok 5 w := by
    cases hq : Try.prog.info? 62 with
    | none => have := info62; rw [hq] at this; simp at this
    | some i =>
      have hs : i.size = 5 := by have := info62; rw [hq] at this; simpa using this
      simp [sizeOf, typeInfo, hq, hs]
  have hu := run_underlying Try.underlying63 w
  simp only [Instr.index, asIntOf, Sem.run_bind, Sem.run_pure, Result.andThen_ok, hu, hs, h0, h1, and_self, if_true, Int.toNat_natCast]
  exact part_row T p k hk w

/-- Two blocks lie as they lay. -/
structure K2 (p q : Nat) (W W' : World) : Prop where
  size : W.heap.size ≤ W'.heap.size
  p : W'.heap[p]? = W.heap[p]?
  q : W'.heap[q]? = W.heap[q]?
theorem K2.refl (p q : Nat) (W : World) : K2 p q W W := ⟨Nat.le_refl _, rfl, rfl⟩
theorem K2.trans {p q : Nat} {A B C : World} (h : K2 p q A B) (k : K2 p q B C) : K2 p q A C := ⟨Nat.le_trans h.size k.size, k.p.trans h.p, k.q.trans h.q⟩
theorem K2.alloc {p q : Nat} {A B : World} (h : K2 p q A B) (hp : p < A.heap.size) (hq : q < A.heap.size) (o : Obj) : K2 p q A (B.alloc o) := by
  have hs := h.size
  have B0 : Below B.heap.size B (B.alloc o) := (Below.refl _ B).alloc (Nat.le_refl _) o
  exact h.trans ⟨by simp, B0.block p (by omega), B0.block q (by omega)⟩
theorem IsTb.keep2 {w w' : World} {p b : Nat} {s : TS} (h : IsTb w b s) (hf : K2 p b w w') : IsTb w' b s :=
  ⟨(World.cell?_of_block (w := w) (a := ⟨b, 0, none⟩) hf.q).trans h.c0, fun k j hk hj => (World.cell?_of_block (w := w) (a := ⟨b, 1 + k * 5 + j, none⟩) hf.q).trans (h.cs k j hk hj),
    fun j => (World.frozen?_of_block (w := w) (a := ⟨b, j, none⟩) hf.q).trans (h.fz j), Nat.lt_of_lt_of_le h.lt hf.size⟩

set_option maxRecDepth 100000 in
set_option maxHeartbeats 2000000 in
theorem each1_in (F : Fence) (n : Nat) (h29 : F.fn 29) (hro : F.round = none) (hn : 1 ≤ n) (l Bm b : Nat) (s : TS) (J Jx : List Nat → World → Prop)
    (W : World) (hab : AbidesFrom W.heap.size J)
    (hY : ∀ pre x W, J pre W → pre.length < 64 → YieldAt F (n - 1) Try.prog l #[.int .i64 ((x / 8 : Nat) : Int), (s.T x).file] W fun e W' =>
      (e = .returned (.bool true) ∧ J (pre ++ [x]) W' ∧ K2 Bm b W W') ∨ (e = .returned (.bool false) ∧ Jx (pre ++ [x]) W'))
    (hBm : Bm < W.heap.size) (hBc : W.cell? ⟨Bm, 0, none⟩ = some (.pointer (some ⟨b, 0, none⟩))) (ht : IsTb W b s) (h0 : J [] W) :
    CallsIn F n Try.prog 29 #[.func (.yield l) #[] #[], .pointer (some ⟨Bm, 0, none⟩)] W fun e W' => (∃ v, e = .returned v) ∧
      ((∃ ys, ys = told s.T 64 ∧ J ys W') ∨ (∃ pre, (∃ k, k ≤ 64 ∧ pre = told s.T k) ∧ Jx pre W')) := by
  have HT := Lib.hid ht
  clear ht
  refine callsIn_of_wp Try.func29 rfl h29 ?_ hro
  simp only [Try.ntmps29, List.size_toArray, List.length_cons, List.length_nil, Nat.reduceAdd, Nat.reduceSub, Array.replicate_succ, Array.replicate_zero, List.push_toArray, List.append_toArray, List.nil_append, List.cons_append]
  gi_wp2
  refine wpIn_scope (wpIn_seq (wpIn_label ?_))
  simp only [Exit.then]
  gi_wp2
  gi_loopw [6] (fun i wr => ∃ k : Nat, k ≤ 8 ∧ i = .int .i64 k ∧ J (told s.T (k * 8)) wr ∧ K2 Bm b W wr) (fun i _ => 8 - (intOf i).toNat)
  case atStart => exact ⟨0, by omega, rfl, h0, K2.refl _ _ _⟩
  case round =>
    obtain ⟨p, hp, rfl, hJs, hnx⟩ := hrel
    by_cases hlt : p < 8
    · have hp0 : (0 : Int) ≤ (p : Int) := by omega
      have hp1 : (p : Int) < 8 := by omega
      have hc := (World.cell?_of_block (w := W) (a := ⟨Bm, 0, none⟩) hnx.p).trans hBc
      have R := Lib.hid ((HT.out.keep2 hnx).range hlt)
      obtain ⟨rr, hrr⟩ : ∃ x, row s.T p = x := ⟨_, rfl⟩
      have hpart : Hid (∀ k : Nat, k < 8 → ∀ w : World, (Instr.index 63 (.agg rr.toArray) (.int .i64 (k : Int))).run Try.prog w = .ok (.agg (s.T (p * 8 + k)).cells.toArray) w) := by rw [← hrr]; exact Lib.hid (index_row s.T p)
      have HR := Lib.hid hrr
      clear hrr
      gi_wp2_with (refine wpListIn_load_mid rfl 63 (.tmp 13) rfl b (1 + p * 40) rfl (row s.T p) _ R.out Try.underlying63 rfl (by rw [row_length]; exact info63) ?_; rw [HR.out])
      gi_loopw [15] (fun i wz => ∃ k : Nat, k ≤ 8 ∧ i = .int .i64 k ∧ J (told s.T (p * 8 + k)) wz ∧ K2 Bm b W wz) (fun i _ => 8 - (intOf i).toNat)
      case atStart => exact ⟨0, by omega, rfl, hJs, hnx⟩
      case round =>
        obtain ⟨k, hk, rfl, hJk, hnk⟩ := hrel
        by_cases hlk : k < 8
        · have hk0 : (0 : Int) ≤ (k : Int) := by omega
          have hk1 : (k : Int) < 8 := by omega
          have hpk := hpart.out k hlk
          obtain ⟨y, hy⟩ : ∃ y, s.T (p * 8 + k) = y := ⟨_, rfl⟩
          rw [hy] at hpk
          simp only [Sl.cells] at hpk
          have HY := Lib.hid hy
          have hsz := hnk.size
          clear hy
          have hJa : J (told s.T (p * 8 + k)) (wr.alloc (.cells #[.bool y.op, .int .i64 y.m, .int .i64 y.n, .int .i64 y.f, .int .i64 y.p] 62)) := AbidesFrom.new hab hJk _
          have hBa : K2 Bm b W (wr.alloc (.cells #[.bool y.op, .int .i64 y.m, .int .i64 y.n, .int .i64 y.f, .int .i64 y.p] 62)) := hnk.alloc hBm HT.out.lt _
          cases ho : y.op with
          | true =>
            rw [ho] at hpk hJa hBa
            obtain ⟨fn, tmps, assign, body, hyy, hR⟩ := hY _ (p * 8 + k) _ hJa (Nat.lt_of_le_of_lt (told_length _ _) (by omega))
            rw [show (p * 8 + k) / 8 = p from by omega, HY.out] at hyy
            simp only [Sl.file] at hyy
            have HO := Lib.hid ho
            clear ho
            gi_wp2
            refine hR.mono ?_
            rintro e W3 (⟨rfl, hJ3, hk3⟩ | ⟨rfl, hJx3⟩)
            · gi_wp2
              go_roundw
              case rel => exact ⟨k + 1, by omega, by simp, by rw [← Nat.add_assoc, told_open (by rw [HY.out]; exact HO.out)]; exact hJ3, hBa.trans hk3⟩
              case measure => simp [intOf]; omega
            · gi_wp2
              simp only [Exit.noGoto]
              go_end0
              exact ⟨⟨_, rfl⟩, .inr ⟨_, ⟨p * 8 + k + 1, by omega, (told_open (by rw [HY.out]; exact HO.out)).symm⟩, hJx3⟩⟩
          | false =>
            rw [ho] at hpk hJa hBa
            have HO := Lib.hid ho
            clear ho
            gi_wp2
            refine ⟨by simp, ?_⟩
            gi_wp2
            go_roundw
            case rel => exact ⟨k + 1, by omega, by simp, by rw [← Nat.add_assoc, told_shut (by rw [HY.out]; exact HO.out)]; exact hJa, hBa⟩
            case measure => simp [intOf]; omega
        · obtain rfl : k = 8 := by omega
          gi_wp2
          go_roundw
          case rel => exact ⟨p + 1, by omega, by simp, by rw [show (p + 1) * 8 = p * 8 + 8 from by omega]; exact hJk, hnk⟩
          case measure => simp [intOf]; omega
    · obtain rfl : p = 8 := by omega
      gi_wp2
      simp only [Exit.noGoto]
      go_end0
      exact ⟨⟨_, rfl⟩, .inl ⟨_, rfl, hJs⟩⟩
end Go.Proofs.Ytfmhiamgfhdmmaa
