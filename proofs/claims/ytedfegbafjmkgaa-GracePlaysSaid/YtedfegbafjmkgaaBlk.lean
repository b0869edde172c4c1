/- Chapter 4: the readers that an id waits for, one behind the other. -/
import Derived.RangeFuncBox
import Derived.RangeFuncLeaves
import Derived.RangeFuncCalls
import Derived.RangeFuncBound
import Derived.RangeFuncNested
import Derived.Shelf.Abstract
import Derived.OwnWalkIn
import Derived.TacticsInMore
import Derived.LoopNIn
import Derived.LoopIn
import Derived.Sort.QuietIn
import Derived.Stop.RegionWithIn
import Derived.Test.YtedfegbafjmkgaaGra
namespace Go.Proofs.Ytedfegbafjmkgaa
open Go.RowKit Go.Shelf

attribute [local go_sem] Oper.semAt_some

/-- The readers below k that hold one up. -/
def blkd (rd : List (Int × Int)) (l : List Int) (k : Nat) : List Nat := (List.range k).filter fun j => l.getD j 0 == (rd.getD j (0, 0)).2
theorem blkd_out {rd : List (Int × Int)} {l : List Int} {k : Nat} (h : (l.getD k 0 == (rd.getD k (0, 0)).2) = false) : blkd rd l (k + 1) = blkd rd l k := by
  simp only [blkd, List.range_succ, List.filter_append, List.filter_cons, h, List.filter_nil, Bool.false_eq_true, if_false, List.append_nil]
theorem blkd_in {rd : List (Int × Int)} {l : List Int} {k : Nat} (h : (l.getD k 0 == (rd.getD k (0, 0)).2) = true) : blkd rd l (k + 1) = blkd rd l k ++ [k] := by
  simp only [blkd, List.range_succ, List.filter_append, List.filter_cons, h, List.filter_nil, if_true]
theorem blkd_length (rd : List (Int × Int)) (l : List Int) (k : Nat) : (blkd rd l k).length ≤ k := by
  unfold blkd; exact Nat.le_trans (List.length_filter_le _ _) (by simp)

theorem AbidesFrom.new {β : Type} {B : Nat} {J : β → World → Prop} (h : AbidesFrom B J) {s : β} {w : World} (hj : J s w) (o : Obj) : J s (w.alloc o) :=
  h s w _ none hj ⟨rfl, rfl, rfl, by simp, fun k hk _ => ((Below.refl w.heap.size w).alloc (Nat.le_refl _) o).block k hk⟩ (by simp)

/-- The listed blocks lie as they lay. -/
structure KL (l : List Nat) (W W' : World) : Prop where
  size : W.heap.size ≤ W'.heap.size
  eq : ∀ k ∈ l, W'.heap[k]? = W.heap[k]?
theorem KL.refl (l : List Nat) (W : World) : KL l W W := ⟨Nat.le_refl _, fun _ _ => rfl⟩
theorem KL.trans {l : List Nat} {A B C : World} (h : KL l A B) (k : KL l B C) : KL l A C := ⟨Nat.le_trans h.size k.size, fun x hx => (k.eq x hx).trans (h.eq x hx)⟩
theorem KL.alloc {l : List Nat} {A B : World} (h : KL l A B) (hl : ∀ k ∈ l, k < A.heap.size) (o : Obj) : KL l A (B.alloc o) := by
  have hs := h.size
  have B0 : Below B.heap.size B (B.alloc o) := (Below.refl _ B).alloc (Nat.le_refl _) o
  exact h.trans ⟨by simp, fun k hk => B0.block k (by have := hl k hk; omega)⟩
theorem KL.put {l : List Nat} {B : Nat} (hp : ∀ k ∈ l, k < B) (W : World) (b : Nat) (o o' : Obj) (hl : B ≤ b) (_h : W.heap[b]? = some o) (_ : o.isCells = false) (_ : o.isWalk = false) : KL l W (W.putObj b o') := by
  have g := grownBy_putObj' W b o'
  exact ⟨g.size, fun k hk => World.putObj_heap_other (by have := hp k hk; omega)⟩
theorem KL.set {l : List Nat} {x : Nat} {A B : World} (h : KL l A B) (hp : x ∉ l) (v : Value) : KL l A (B.setCell ⟨x, 0, none⟩ v) :=
  h.trans ⟨by simp, fun k hk => Below.heap_setCell _ _ _ _ (fun e => hp (by have e' : k = x := e; rw [← e']; exact hk))⟩
theorem KL.cell {l : List Nat} {A B : World} (h : KL l A B) {b o : Nat} (hb : b ∈ l) : B.cell? ⟨b, o, none⟩ = A.cell? ⟨b, o, none⟩ := World.cell?_of_block (w := A) (a := ⟨b, o, none⟩) (h.eq b hb)

set_option maxRecDepth 100000 in
set_option maxHeartbeats 2000000 in
theorem blk1_in (n : Nat) (hn : 1 ≤ n) (lp Bg Bw g rb f o cap : Nat) (rd : List (Int × Int)) (li : List Int) (J Jx : List Nat → World → Prop)
    (W : World) (hab : AbidesFrom W.heap.size J)
    (hY : ∀ (pre : List Nat) (x : Nat) (W : World), J pre W → pre.length < rd.length → YieldAt Fence.wide (n - 1) Try.prog lp #[.int .i64 (x : Int)] W fun e W' =>
      (e = .returned (.bool true) ∧ J (pre ++ [x]) W' ∧ KL [Bw, rb, f] W W') ∨ (e = .returned (.bool false) ∧ Jx (pre ++ [x]) W'))
    (hl : ∀ k ∈ [Bw, rb, f], k < W.heap.size) (hn8 : rd.length ≤ 8)
    (hBg : W.cell? ⟨Bg, 0, none⟩ = some (.pointer (some ⟨g, 0, none⟩))) (hg : W.cell? ⟨g, 0, none⟩ = some (.slice (some ⟨rb, 0, none⟩) rd.length rd.length))
    (hBw : W.cell? ⟨Bw, 1, none⟩ = some (.slice (some ⟨f, o, none⟩) rd.length cap))
    (hr : ∀ j, j < rd.length → W.cell? ⟨rb, j * 2, none⟩ = some (.int .i64 (rd.getD j (0, 0)).1) ∧ W.cell? ⟨rb, j * 2 + 1, none⟩ = some (.int .i64 (rd.getD j (0, 0)).2))
    (hf : ∀ j, j < rd.length → W.cell? ⟨f, o + j, none⟩ = some (.int .i64 (li.getD j 0))) (h0 : J [] W) :
    CallsIn Fence.wide n Try.prog 32 #[.func (.yield lp) #[] #[], .pointer (some ⟨Bg, 0, none⟩), .pointer (some ⟨Bw, 0, none⟩)] W fun e W' => (∃ v, e = .returned v) ∧
      ((∃ ys, ys = blkd rd li rd.length ∧ J ys W') ∨ (∃ pre, (∃ k, k ≤ rd.length ∧ pre = blkd rd li k) ∧ Jx pre W')) := by
  refine callsIn_of_wp Try.func32 rfl trivial ?_ rfl
  simp only [Try.ntmps32, List.size_toArray, List.length_cons, List.length_nil, Nat.reduceAdd, Nat.reduceSub, Array.replicate_succ, Array.replicate_zero, List.push_toArray, List.append_toArray, List.nil_append, List.cons_append]
  gi_wp2
  gi_loopw [11] (fun i wr => ∃ k : Nat, k ≤ rd.length ∧ i = .int .i64 k ∧ J (blkd rd li k) wr ∧ KL [Bw, rb, f] W wr) (fun i _ => rd.length - (intOf i).toNat)
  case atStart => exact ⟨0, by omega, rfl, h0, KL.refl _ _⟩
  case round =>
    obtain ⟨k, hk, rfl, hJs, hnx⟩ := hrel
    by_cases hlt : k < rd.length
    · have hk0 : (0 : Int) ≤ (k : Int) := by omega
      have hk1 : (k : Int) < (rd.length : Int) := by omega
      obtain ⟨dp, hdp⟩ : ∃ z, (rd.getD k (0, 0)).1 = z := ⟨_, rfl⟩
      obtain ⟨lf, hlf⟩ : ∃ z, (rd.getD k (0, 0)).2 = z := ⟨_, rfl⟩
      obtain ⟨sn, hsn⟩ : ∃ z, li.getD k 0 = z := ⟨_, rfl⟩
      have c0 : wr.cell? ⟨rb, k * 2, none⟩ = some (.int .i64 dp) := by rw [← hdp]; exact (hnx.cell (by simp)).trans (hr k hlt).1
      have c1 : wr.cell? ⟨rb, k * 2 + 1, none⟩ = some (.int .i64 lf) := by rw [← hlf]; exact (hnx.cell (by simp)).trans (hr k hlt).2
      have c2 : wr.cell? ⟨Bw, 1, none⟩ = some (.slice (some ⟨f, o, none⟩) rd.length cap) := (hnx.cell (by simp)).trans hBw
      have c3 : wr.cell? ⟨f, o + k, none⟩ = some (.int .i64 sn) := by rw [← hsn]; exact (hnx.cell (by simp)).trans (hf k hlt)
      have hsz := hnx.size
      have hl1 := hl Bw (by simp)
      have hl2 := hl rb (by simp)
      have hl3 := hl f (by simp)
      have n1 : ¬ Bw = wr.heap.size := by omega
      have n2 : ¬ f = wr.heap.size := by omega
      have hJa : J (blkd rd li k) (wr.alloc (.cells #[.int .i64 dp, .int .i64 lf] 57)) := AbidesFrom.new hab hJs _
      have hBa : KL [Bw, rb, f] W (wr.alloc (.cells #[.int .i64 dp, .int .i64 lf] 57)) := hnx.alloc hl _
      have HLF := Lib.hid hlf
      have HSN := Lib.hid hsn
      clear hdp hlf hsn
      by_cases he : sn = lf
      · have HE := Lib.hid he
        have hB := blkd_in (rd := rd) (l := li) (k := k) (by rw [HSN.out, HLF.out]; simpa using he)
        have HB := Lib.hid hB
        have d : (sn == lf) = true := by simpa using he
        clear he hB
        gi_wp2
        obtain ⟨w3, hw3⟩ : ∃ w3, wr.alloc (.cells #[.int .i64 dp, .int .i64 lf] 57) = w3 := ⟨_, rfl⟩
        obtain ⟨bx, hbx⟩ : ∃ bx, wr.heap.size = bx := ⟨_, rfl⟩
        have e2 : w3.cell? ⟨Bw, 1, none⟩ = some (.slice (some ⟨f, o, none⟩) rd.length cap) := by rw [← hw3, World.cell?_alloc_old _ _ _ n1]; exact c2
        have e3 : w3.cell? ⟨f, o + k, none⟩ = some (.int .i64 sn) := by rw [← hw3, World.cell?_alloc_old _ _ _ n2]; exact c3
        have e4 : w3.cell? ⟨bx, 1, none⟩ = some (.int .i64 lf) := by rw [← hw3, ← hbx]; exact World.cell?_alloc_new _ _ _ _
        rw [hw3] at hJa hBa ⊢
        rw [hbx]
        clear hw3 hbx c0 c1 c2 c3
        have hJd : J (blkd rd li k) w3.drew := hab _ _ _ none hJa ⟨rfl, rfl, rfl, Nat.le_refl _, fun _ _ _ => rfl⟩ (by simp)
        obtain ⟨fn, tmps, assign, body, hy, hR⟩ := hY _ k _ hJd (Nat.lt_of_le_of_lt (blkd_length _ _ _) hlt)
        have hR' : RoundIn Fence.wide (n - 1) Try.prog lp fn tmps assign body w3.drew fun e W' => ∃ bb, e = .returned (.bool bb) ∧ (bb = true → J (blkd rd li k ++ [k]) W' ∧ KL [Bw, rb, f] w3.drew W') ∧ (bb = false → Jx (blkd rd li k ++ [k]) W') := hR.mono (by
          rintro e W' (⟨rfl, q1, q2⟩ | ⟨rfl, q1⟩)
          · exact ⟨true, rfl, fun _ => ⟨q1, q2⟩, fun h => Bool.noConfusion h⟩
          · exact ⟨false, rfl, fun h => Bool.noConfusion h, fun _ => q1⟩)
        clear hR
        gi_region_with (refine hR'.mono ?_; rintro e W3 ⟨bb, rfl, ht, hff⟩)
        all_goals (try exact trivial)
        all_goals (simp only [Act.put, List.getElem_toArray, List.getElem_cons_succ, List.getElem_cons_zero, List.setIfInBounds_toArray, List.set_cons_zero, List.set_cons_succ, Exit.then])
        all_goals cases bb
        all_goals first
          | (have q := hff rfl
             clear ht hff
             gi_wp2
             refine bodyPost_ret (results_none rfl _ _ _) rfl ?_
             exact ⟨⟨_, rfl⟩, .inr ⟨_, ⟨k + 1, by omega, HB.out.symm⟩, q⟩⟩)
          | (obtain ⟨q1, q2⟩ := ht rfl
             clear ht hff
             gi_wp2
             go_roundw
             case rel => exact ⟨k + 1, by omega, by simp, by rw [HB.out]; exact q1, hBa.trans ⟨q2.size, q2.eq⟩⟩
             case measure => simp [intOf]; omega)
      · have hB := blkd_out (rd := rd) (l := li) (k := k) (by rw [HSN.out, HLF.out]; simpa using he)
        have HB := Lib.hid hB
        have d : (sn == lf) = false := by simpa using he
        have d2 : decide (sn = lf) = false := by simpa using he
        clear hB
        gi_wp2
        obtain ⟨w3, hw3⟩ : ∃ w3, wr.alloc (.cells #[.int .i64 dp, .int .i64 lf] 57) = w3 := ⟨_, rfl⟩
        obtain ⟨bx, hbx⟩ : ∃ bx, wr.heap.size = bx := ⟨_, rfl⟩
        have e2 : w3.cell? ⟨Bw, 1, none⟩ = some (.slice (some ⟨f, o, none⟩) rd.length cap) := by rw [← hw3, World.cell?_alloc_old _ _ _ n1]; exact c2
        have e3 : w3.cell? ⟨f, o + k, none⟩ = some (.int .i64 sn) := by rw [← hw3, World.cell?_alloc_old _ _ _ n2]; exact c3
        have e4 : w3.cell? ⟨bx, 1, none⟩ = some (.int .i64 lf) := by rw [← hw3, ← hbx]; exact World.cell?_alloc_new _ _ _ _
        rw [hw3] at hJa hBa ⊢
        rw [hbx]
        clear hw3 hbx c0 c1 c2 c3
        refine wpIn_region_quiet_lit rfl (by kernel_rfl) (by kernel_rfl) ?_
        repeat (gi_big_quiet_step (fail))
        refine BigFrame.wpQuietIn_skip (fun _ _ _ _ => trivial) rfl ?_
        simp only [Act.put, List.setIfInBounds_toArray, List.set_cons_zero, List.set_cons_succ]
        repeat (gi_big_quiet_step (fail))
        refine wpQuietIn_nil ?_
        rintro _ ⟨nq, rfl⟩
        gi_wp2
        go_roundw
        case rel => exact ⟨k + 1, by omega, by simp, by rw [HB.out]; exact hab _ _ _ none hJa ⟨rfl, rfl, rfl, Nat.le_refl _, fun _ _ _ => rfl⟩ (by simp), hBa.trans ⟨Nat.le_refl _, fun _ _ => rfl⟩⟩
        case measure => simp [intOf]; omega
    · obtain rfl : k = rd.length := by omega
      gi_wp2
      go_end0
      exact ⟨⟨_, rfl⟩, .inl ⟨_, rfl, hJs⟩⟩
end Go.Proofs.Ytedfegbafjmkgaa
