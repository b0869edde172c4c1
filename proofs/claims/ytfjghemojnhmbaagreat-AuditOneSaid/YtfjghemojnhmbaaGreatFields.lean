/- Fields, as the program has it and by the words. -/
import Derived.Test.YtfjghemojnhmbaaGreatCopy
namespace Go.Proofs.YtfjghemojnhmbaaGreat
open Go.RowKit

def stat0 (r : Res) : Bool := statI r Res.zero
def statOk (r : Res) : Bool := decide (1 ≤ r.s0 ∧ 1 ≤ r.s1 ∧ r.s1 ≤ 3 ∧ 0 ≤ r.s2 ∧ r.s2 ≤ 4095)
/-- A result has nothing that its call does not answer. -/
def fldI (op : Int) (r : Res) : Bool :=
  if r.w = 0 then
    if op = 3 ∨ op = 6 ∨ op = 7 then decide (r.ds.length = 0 ∧ r.ss.length = 0) && stat0 r
    else if op = 5 ∨ op = 12 then decide (r.n = 0 ∧ r.ss.length = 0) && stat0 r
    else if op = 18 then decide (r.n = 0 ∧ r.ds.length = 0) && stat0 r
    else if op = 14 then statOk r && decide (r.n = 0 ∧ r.ds.length = 0 ∧ r.ss.length = 0)
    else decide (r.n = 0 ∧ r.ds.length = 0 ∧ r.ss.length = 0) && stat0 r
  else decide (r.n = 0 ∧ r.ds.length = 0 ∧ r.ss.length = 0) && stat0 r
theorem wr1 (a : Nat) (h : a ≤ 140737488351232) : wrap64 (a : Int) = a := by
  unfold wrap64
  omega
theorem wr2 (a b : Nat) (h : a ≤ 140737488351232) (h' : b ≤ 140737488351232) : wrap64 ((a : Int) + (b : Int)) = (a : Int) + b := by
  unfold wrap64
  omega

set_option maxRecDepth 100000 in
set_option maxHeartbeats 1000000 in
theorem fields_3 {w : World} {r : Res} (g0 : r.w = 0) {y z : Value} (hy : Den 1 w y (byts r.ds)) (hz : Den 16 w z (strs r.ss)) :
    Calls Tryz.prog 15 #[.int .i64 3, .agg (r.cells y z).toArray] w fun e w' => e = .returned (.bool (fldI 3 r)) ∧ Below w.heap.size w w' := by
  obtain ⟨A, hA⟩ : ∃ A : Array Value, A = (r.cells y z).toArray := ⟨_, rfl⟩
  rw [← hA]
  have H1 : Hid (Holds (w.alloc (.cells A 40)) w.heap.size (r.cells y z).toArray) := Lib.hid (by rw [← hA]; exact Holds.new _ _ _)
  have HW : Hid (Below w.heap.size w (w.alloc (.cells A 40))) := Lib.hid ((Below.refl w.heap.size w).alloc (Nat.le_refl _) _)
  obtain ⟨p1, k1, rfl⟩ := hy.value
  obtain ⟨p2, k2, rfl⟩ := hz.value
  have n1 : (byts r.ds).length = r.ds.length := by simp [byts]
  have n2 : (strs r.ss).length = r.ss.length := by simp [strs]
  obtain ⟨nd, hnd⟩ : ∃ n, r.ds.length = n := ⟨_, rfl⟩
  obtain ⟨ns, hns⟩ : ∃ n, r.ss.length = n := ⟨_, rfl⟩
  rw [n1, n2, hnd, hns] at H1
  have bd : nd ≤ 140737488351232 := by have := hy.most.1; omega
  have bs : ns ≤ 140737488351232 := by have := hz.most.1; omega
  have HND := Lib.hid hnd
  have HNS := Lib.hid hns
  clear hA hy hz n1 n2 hnd hns
  have sq : ∀ w, (binOp .eql 38 (.agg #[.int .i64 r.s0, .int .i64 r.s1, .int .i64 r.s2, .int .i64 r.s3, .int .i64 r.s4, .int .i64 r.s5, .int .i64 r.s6]) (.agg #[.int .i64 0, .int .i64 0, .int .i64 0, .int .i64 0, .int .i64 0, .int .i64 0, .int .i64 0])).run Tryz.prog w = .ok (.bool (stat0 r)) w := fun w => stat_run r Res.zero w
  go_enter Tryz.func15, Tryz.ntmps15
  go_upto_region 1 with fail
  obtain ⟨W, hW⟩ : ∃ W, w.alloc (.cells A 40) = W := ⟨_, rfl⟩
  obtain ⟨B, hB⟩ : ∃ B, w.heap.size = B := ⟨_, rfl⟩
  have hle : w.heap.size ≤ B := by omega
  rw [hW] at H1 HW ⊢
  rw [hB] at H1 ⊢
  clear hW hB
  obtain ⟨u0, u1, u2, u3, u4, u5, u6, u7, u8, u9, u10⟩ := Res.at H1.out
  have f1 := H1.out.2.1
  have fl := H1.out.2.2
  have g0b : (r.w == 0) = true := by simpa using g0
  rcases Nat.eq_zero_or_pos nd with e | hd
  · subst e
    rcases Nat.eq_zero_or_pos ns with e | hs
    · subst e
      have G : Hid (fldI 3 r = stat0 r) := Lib.hid (by simp [fldI, HND.out, HNS.out, *])
      clear HND HNS
      go_wp2_with fail
      go_ret
      exact ⟨by rw [G.out]; try rfl, by repeat (first | with_reducible exact HW.out | with_reducible refine Below.setCell ?_ (by first | omega | (dsimp only; omega)) _ | with_reducible refine Below.alloc ?_ (by have := HW.out.size; first | omega | (simp; omega)) _)⟩
    · have hs1 : ¬ (ns : Int) = 0 := by omega
      have hs2 : ¬ ns = 0 := by omega
      have hs3 : (ns : Int) > 0 := by omega
      have hs5 : ¬ wrap64 (ns : Int) = 0 := by rw [wr1 ns bs]; exact hs1
      have G : Hid (fldI 3 r = false) := Lib.hid (by simp [fldI, HND.out, HNS.out, *])
      clear HND HNS
      go_wp2_with fail
      go_ret
      exact ⟨by rw [G.out]; try rfl, by repeat (first | with_reducible exact HW.out | with_reducible refine Below.setCell ?_ (by first | omega | (dsimp only; omega)) _ | with_reducible refine Below.alloc ?_ (by have := HW.out.size; first | omega | (simp; omega)) _)⟩
  · have hd1 : ¬ (nd : Int) = 0 := by omega
    have hd2 : ¬ nd = 0 := by omega
    have hd3 : (nd : Int) > 0 := by omega
    have hd5 : ¬ wrap64 (nd : Int) = 0 := by rw [wr1 nd bd]; exact hd1
    have hd4 : ¬ (nd : Int) + (ns : Int) = 0 := by omega
    have hd6 : ¬ wrap64 ((nd : Int) + (ns : Int)) = 0 := by rw [wr2 nd ns bd bs]; exact hd4
    have G : Hid (fldI 3 r = false) := Lib.hid (by simp [fldI, HND.out, HNS.out, *])
    clear HND HNS
    go_wp2_with fail
    go_ret
    exact ⟨by rw [G.out]; try rfl, by repeat (first | with_reducible exact HW.out | with_reducible refine Below.setCell ?_ (by first | omega | (dsimp only; omega)) _ | with_reducible refine Below.alloc ?_ (by have := HW.out.size; first | omega | (simp; omega)) _)⟩
set_option maxRecDepth 100000 in
set_option maxHeartbeats 1000000 in
theorem fields_6 {w : World} {r : Res} (g0 : r.w = 0) {y z : Value} (hy : Den 1 w y (byts r.ds)) (hz : Den 16 w z (strs r.ss)) :
    Calls Tryz.prog 15 #[.int .i64 6, .agg (r.cells y z).toArray] w fun e w' => e = .returned (.bool (fldI 6 r)) ∧ Below w.heap.size w w' := by
  obtain ⟨A, hA⟩ : ∃ A : Array Value, A = (r.cells y z).toArray := ⟨_, rfl⟩
  rw [← hA]
  have H1 : Hid (Holds (w.alloc (.cells A 40)) w.heap.size (r.cells y z).toArray) := Lib.hid (by rw [← hA]; exact Holds.new _ _ _)
  have HW : Hid (Below w.heap.size w (w.alloc (.cells A 40))) := Lib.hid ((Below.refl w.heap.size w).alloc (Nat.le_refl _) _)
  obtain ⟨p1, k1, rfl⟩ := hy.value
  obtain ⟨p2, k2, rfl⟩ := hz.value
  have n1 : (byts r.ds).length = r.ds.length := by simp [byts]
  have n2 : (strs r.ss).length = r.ss.length := by simp [strs]
  obtain ⟨nd, hnd⟩ : ∃ n, r.ds.length = n := ⟨_, rfl⟩
  obtain ⟨ns, hns⟩ : ∃ n, r.ss.length = n := ⟨_, rfl⟩
  rw [n1, n2, hnd, hns] at H1
  have bd : nd ≤ 140737488351232 := by have := hy.most.1; omega
  have bs : ns ≤ 140737488351232 := by have := hz.most.1; omega
  have HND := Lib.hid hnd
  have HNS := Lib.hid hns
  clear hA hy hz n1 n2 hnd hns
  have sq : ∀ w, (binOp .eql 38 (.agg #[.int .i64 r.s0, .int .i64 r.s1, .int .i64 r.s2, .int .i64 r.s3, .int .i64 r.s4, .int .i64 r.s5, .int .i64 r.s6]) (.agg #[.int .i64 0, .int .i64 0, .int .i64 0, .int .i64 0, .int .i64 0, .int .i64 0, .int .i64 0])).run Tryz.prog w = .ok (.bool (stat0 r)) w := fun w => stat_run r Res.zero w
  go_enter Tryz.func15, Tryz.ntmps15
  go_upto_region 1 with fail
  obtain ⟨W, hW⟩ : ∃ W, w.alloc (.cells A 40) = W := ⟨_, rfl⟩
  obtain ⟨B, hB⟩ : ∃ B, w.heap.size = B := ⟨_, rfl⟩
  have hle : w.heap.size ≤ B := by omega
  rw [hW] at H1 HW ⊢
  rw [hB] at H1 ⊢
  clear hW hB
  obtain ⟨u0, u1, u2, u3, u4, u5, u6, u7, u8, u9, u10⟩ := Res.at H1.out
  have f1 := H1.out.2.1
  have fl := H1.out.2.2
  have g0b : (r.w == 0) = true := by simpa using g0
  rcases Nat.eq_zero_or_pos nd with e | hd
  · subst e
    rcases Nat.eq_zero_or_pos ns with e | hs
    · subst e
      have G : Hid (fldI 6 r = stat0 r) := Lib.hid (by simp [fldI, HND.out, HNS.out, *])
      clear HND HNS
      go_wp2_with fail
      go_ret
      exact ⟨by rw [G.out]; try rfl, by repeat (first | with_reducible exact HW.out | with_reducible refine Below.setCell ?_ (by first | omega | (dsimp only; omega)) _ | with_reducible refine Below.alloc ?_ (by have := HW.out.size; first | omega | (simp; omega)) _)⟩
    · have hs1 : ¬ (ns : Int) = 0 := by omega
      have hs2 : ¬ ns = 0 := by omega
      have hs3 : (ns : Int) > 0 := by omega
      have hs5 : ¬ wrap64 (ns : Int) = 0 := by rw [wr1 ns bs]; exact hs1
      have G : Hid (fldI 6 r = false) := Lib.hid (by simp [fldI, HND.out, HNS.out, *])
      clear HND HNS
      go_wp2_with fail
      go_ret
      exact ⟨by rw [G.out]; try rfl, by repeat (first | with_reducible exact HW.out | with_reducible refine Below.setCell ?_ (by first | omega | (dsimp only; omega)) _ | with_reducible refine Below.alloc ?_ (by have := HW.out.size; first | omega | (simp; omega)) _)⟩
  · have hd1 : ¬ (nd : Int) = 0 := by omega
    have hd2 : ¬ nd = 0 := by omega
    have hd3 : (nd : Int) > 0 := by omega
    have hd5 : ¬ wrap64 (nd : Int) = 0 := by rw [wr1 nd bd]; exact hd1
    have hd4 : ¬ (nd : Int) + (ns : Int) = 0 := by omega
    have hd6 : ¬ wrap64 ((nd : Int) + (ns : Int)) = 0 := by rw [wr2 nd ns bd bs]; exact hd4
    have G : Hid (fldI 6 r = false) := Lib.hid (by simp [fldI, HND.out, HNS.out, *])
    clear HND HNS
    go_wp2_with fail
    go_ret
    exact ⟨by rw [G.out]; try rfl, by repeat (first | with_reducible exact HW.out | with_reducible refine Below.setCell ?_ (by first | omega | (dsimp only; omega)) _ | with_reducible refine Below.alloc ?_ (by have := HW.out.size; first | omega | (simp; omega)) _)⟩
set_option maxRecDepth 100000 in
set_option maxHeartbeats 1000000 in
theorem fields_7 {w : World} {r : Res} (g0 : r.w = 0) {y z : Value} (hy : Den 1 w y (byts r.ds)) (hz : Den 16 w z (strs r.ss)) :
    Calls Tryz.prog 15 #[.int .i64 7, .agg (r.cells y z).toArray] w fun e w' => e = .returned (.bool (fldI 7 r)) ∧ Below w.heap.size w w' := by
  obtain ⟨A, hA⟩ : ∃ A : Array Value, A = (r.cells y z).toArray := ⟨_, rfl⟩
  rw [← hA]
  have H1 : Hid (Holds (w.alloc (.cells A 40)) w.heap.size (r.cells y z).toArray) := Lib.hid (by rw [← hA]; exact Holds.new _ _ _)
  have HW : Hid (Below w.heap.size w (w.alloc (.cells A 40))) := Lib.hid ((Below.refl w.heap.size w).alloc (Nat.le_refl _) _)
  obtain ⟨p1, k1, rfl⟩ := hy.value
  obtain ⟨p2, k2, rfl⟩ := hz.value
  have n1 : (byts r.ds).length = r.ds.length := by simp [byts]
  have n2 : (strs r.ss).length = r.ss.length := by simp [strs]
  obtain ⟨nd, hnd⟩ : ∃ n, r.ds.length = n := ⟨_, rfl⟩
  obtain ⟨ns, hns⟩ : ∃ n, r.ss.length = n := ⟨_, rfl⟩
  rw [n1, n2, hnd, hns] at H1
  have bd : nd ≤ 140737488351232 := by have := hy.most.1; omega
  have bs : ns ≤ 140737488351232 := by have := hz.most.1; omega
  have HND := Lib.hid hnd
  have HNS := Lib.hid hns
  clear hA hy hz n1 n2 hnd hns
  have sq : ∀ w, (binOp .eql 38 (.agg #[.int .i64 r.s0, .int .i64 r.s1, .int .i64 r.s2, .int .i64 r.s3, .int .i64 r.s4, .int .i64 r.s5, .int .i64 r.s6]) (.agg #[.int .i64 0, .int .i64 0, .int .i64 0, .int .i64 0, .int .i64 0, .int .i64 0, .int .i64 0])).run Tryz.prog w = .ok (.bool (stat0 r)) w := fun w => stat_run r Res.zero w
  go_enter Tryz.func15, Tryz.ntmps15
  go_upto_region 1 with fail
  obtain ⟨W, hW⟩ : ∃ W, w.alloc (.cells A 40) = W := ⟨_, rfl⟩
  obtain ⟨B, hB⟩ : ∃ B, w.heap.size = B := ⟨_, rfl⟩
  have hle : w.heap.size ≤ B := by omega
  rw [hW] at H1 HW ⊢
  rw [hB] at H1 ⊢
  clear hW hB
  obtain ⟨u0, u1, u2, u3, u4, u5, u6, u7, u8, u9, u10⟩ := Res.at H1.out
  have f1 := H1.out.2.1
  have fl := H1.out.2.2
  have g0b : (r.w == 0) = true := by simpa using g0
  rcases Nat.eq_zero_or_pos nd with e | hd
  · subst e
    rcases Nat.eq_zero_or_pos ns with e | hs
    · subst e
      have G : Hid (fldI 7 r = stat0 r) := Lib.hid (by simp [fldI, HND.out, HNS.out, *])
      clear HND HNS
      go_wp2_with fail
      go_ret
      exact ⟨by rw [G.out]; try rfl, by repeat (first | with_reducible exact HW.out | with_reducible refine Below.setCell ?_ (by first | omega | (dsimp only; omega)) _ | with_reducible refine Below.alloc ?_ (by have := HW.out.size; first | omega | (simp; omega)) _)⟩
    · have hs1 : ¬ (ns : Int) = 0 := by omega
      have hs2 : ¬ ns = 0 := by omega
      have hs3 : (ns : Int) > 0 := by omega
      have hs5 : ¬ wrap64 (ns : Int) = 0 := by rw [wr1 ns bs]; exact hs1
      have G : Hid (fldI 7 r = false) := Lib.hid (by simp [fldI, HND.out, HNS.out, *])
      clear HND HNS
      go_wp2_with fail
      go_ret
      exact ⟨by rw [G.out]; try rfl, by repeat (first | with_reducible exact HW.out | with_reducible refine Below.setCell ?_ (by first | omega | (dsimp only; omega)) _ | with_reducible refine Below.alloc ?_ (by have := HW.out.size; first | omega | (simp; omega)) _)⟩
  · have hd1 : ¬ (nd : Int) = 0 := by omega
    have hd2 : ¬ nd = 0 := by omega
    have hd3 : (nd : Int) > 0 := by omega
    have hd5 : ¬ wrap64 (nd : Int) = 0 := by rw [wr1 nd bd]; exact hd1
    have hd4 : ¬ (nd : Int) + (ns : Int) = 0 := by omega
    have hd6 : ¬ wrap64 ((nd : Int) + (ns : Int)) = 0 := by rw [wr2 nd ns bd bs]; exact hd4
    have G : Hid (fldI 7 r = false) := Lib.hid (by simp [fldI, HND.out, HNS.out, *])
    clear HND HNS
    go_wp2_with fail
    go_ret
    exact ⟨by rw [G.out]; try rfl, by repeat (first | with_reducible exact HW.out | with_reducible refine Below.setCell ?_ (by first | omega | (dsimp only; omega)) _ | with_reducible refine Below.alloc ?_ (by have := HW.out.size; first | omega | (simp; omega)) _)⟩
set_option maxRecDepth 100000 in
set_option maxHeartbeats 1000000 in
theorem fields_5 {w : World} {r : Res} (g0 : r.w = 0) {y z : Value} (hy : Den 1 w y (byts r.ds)) (hz : Den 16 w z (strs r.ss)) :
    Calls Tryz.prog 15 #[.int .i64 5, .agg (r.cells y z).toArray] w fun e w' => e = .returned (.bool (fldI 5 r)) ∧ Below w.heap.size w w' := by
  obtain ⟨A, hA⟩ : ∃ A : Array Value, A = (r.cells y z).toArray := ⟨_, rfl⟩
  rw [← hA]
  have H1 : Hid (Holds (w.alloc (.cells A 40)) w.heap.size (r.cells y z).toArray) := Lib.hid (by rw [← hA]; exact Holds.new _ _ _)
  have HW : Hid (Below w.heap.size w (w.alloc (.cells A 40))) := Lib.hid ((Below.refl w.heap.size w).alloc (Nat.le_refl _) _)
  obtain ⟨p1, k1, rfl⟩ := hy.value
  obtain ⟨p2, k2, rfl⟩ := hz.value
  have n1 : (byts r.ds).length = r.ds.length := by simp [byts]
  have n2 : (strs r.ss).length = r.ss.length := by simp [strs]
  obtain ⟨nd, hnd⟩ : ∃ n, r.ds.length = n := ⟨_, rfl⟩
  obtain ⟨ns, hns⟩ : ∃ n, r.ss.length = n := ⟨_, rfl⟩
  rw [n1, n2, hnd, hns] at H1
  have bd : nd ≤ 140737488351232 := by have := hy.most.1; omega
  have bs : ns ≤ 140737488351232 := by have := hz.most.1; omega
  have HND := Lib.hid hnd
  have HNS := Lib.hid hns
  clear hA hy hz n1 n2 hnd hns
  have sq : ∀ w, (binOp .eql 38 (.agg #[.int .i64 r.s0, .int .i64 r.s1, .int .i64 r.s2, .int .i64 r.s3, .int .i64 r.s4, .int .i64 r.s5, .int .i64 r.s6]) (.agg #[.int .i64 0, .int .i64 0, .int .i64 0, .int .i64 0, .int .i64 0, .int .i64 0, .int .i64 0])).run Tryz.prog w = .ok (.bool (stat0 r)) w := fun w => stat_run r Res.zero w
  go_enter Tryz.func15, Tryz.ntmps15
  go_upto_region 1 with fail
  obtain ⟨W, hW⟩ : ∃ W, w.alloc (.cells A 40) = W := ⟨_, rfl⟩
  obtain ⟨B, hB⟩ : ∃ B, w.heap.size = B := ⟨_, rfl⟩
  have hle : w.heap.size ≤ B := by omega
  rw [hW] at H1 HW ⊢
  rw [hB] at H1 ⊢
  clear hW hB
  obtain ⟨u0, u1, u2, u3, u4, u5, u6, u7, u8, u9, u10⟩ := Res.at H1.out
  have f1 := H1.out.2.1
  have fl := H1.out.2.2
  have g0b : (r.w == 0) = true := by simpa using g0
  by_cases gn : r.n = 0
  · rcases Nat.eq_zero_or_pos ns with e | hs
    · subst e
      have G : Hid (fldI 5 r = stat0 r) := Lib.hid (by simp [fldI, HNS.out, *])
      clear HND HNS
      go_wp2_with fail
      go_ret
      exact ⟨by rw [G.out]; try rfl, by repeat (first | with_reducible exact HW.out | with_reducible refine Below.setCell ?_ (by first | omega | (dsimp only; omega)) _ | with_reducible refine Below.alloc ?_ (by have := HW.out.size; first | omega | (simp; omega)) _)⟩
    · have hs1 : ¬ (ns : Int) = 0 := by omega
      have hs2 : ¬ ns = 0 := by omega
      have hs3 : (ns : Int) > 0 := by omega
      have hs5 : ¬ wrap64 (ns : Int) = 0 := by rw [wr1 ns bs]; exact hs1
      have G : Hid (fldI 5 r = false) := Lib.hid (by simp [fldI, HNS.out, *])
      clear HND HNS
      go_wp2_with fail
      go_ret
      exact ⟨by rw [G.out]; try rfl, by repeat (first | with_reducible exact HW.out | with_reducible refine Below.setCell ?_ (by first | omega | (dsimp only; omega)) _ | with_reducible refine Below.alloc ?_ (by have := HW.out.size; first | omega | (simp; omega)) _)⟩
  · have G : Hid (fldI 5 r = false) := Lib.hid (by simp [fldI, HNS.out, *])
    clear HND HNS
    go_wp2_with fail
    go_ret
    exact ⟨by rw [G.out]; try rfl, by repeat (first | with_reducible exact HW.out | with_reducible refine Below.setCell ?_ (by first | omega | (dsimp only; omega)) _ | with_reducible refine Below.alloc ?_ (by have := HW.out.size; first | omega | (simp; omega)) _)⟩
set_option maxRecDepth 100000 in
set_option maxHeartbeats 1000000 in
theorem fields_12 {w : World} {r : Res} (g0 : r.w = 0) {y z : Value} (hy : Den 1 w y (byts r.ds)) (hz : Den 16 w z (strs r.ss)) :
    Calls Tryz.prog 15 #[.int .i64 12, .agg (r.cells y z).toArray] w fun e w' => e = .returned (.bool (fldI 12 r)) ∧ Below w.heap.size w w' := by
  obtain ⟨A, hA⟩ : ∃ A : Array Value, A = (r.cells y z).toArray := ⟨_, rfl⟩
  rw [← hA]
  have H1 : Hid (Holds (w.alloc (.cells A 40)) w.heap.size (r.cells y z).toArray) := Lib.hid (by rw [← hA]; exact Holds.new _ _ _)
  have HW : Hid (Below w.heap.size w (w.alloc (.cells A 40))) := Lib.hid ((Below.refl w.heap.size w).alloc (Nat.le_refl _) _)
  obtain ⟨p1, k1, rfl⟩ := hy.value
  obtain ⟨p2, k2, rfl⟩ := hz.value
  have n1 : (byts r.ds).length = r.ds.length := by simp [byts]
  have n2 : (strs r.ss).length = r.ss.length := by simp [strs]
  obtain ⟨nd, hnd⟩ : ∃ n, r.ds.length = n := ⟨_, rfl⟩
  obtain ⟨ns, hns⟩ : ∃ n, r.ss.length = n := ⟨_, rfl⟩
  rw [n1, n2, hnd, hns] at H1
  have bd : nd ≤ 140737488351232 := by have := hy.most.1; omega
  have bs : ns ≤ 140737488351232 := by have := hz.most.1; omega
  have HND := Lib.hid hnd
  have HNS := Lib.hid hns
  clear hA hy hz n1 n2 hnd hns
  have sq : ∀ w, (binOp .eql 38 (.agg #[.int .i64 r.s0, .int .i64 r.s1, .int .i64 r.s2, .int .i64 r.s3, .int .i64 r.s4, .int .i64 r.s5, .int .i64 r.s6]) (.agg #[.int .i64 0, .int .i64 0, .int .i64 0, .int .i64 0, .int .i64 0, .int .i64 0, .int .i64 0])).run Tryz.prog w = .ok (.bool (stat0 r)) w := fun w => stat_run r Res.zero w
  go_enter Tryz.func15, Tryz.ntmps15
  go_upto_region 1 with fail
  obtain ⟨W, hW⟩ : ∃ W, w.alloc (.cells A 40) = W := ⟨_, rfl⟩
  obtain ⟨B, hB⟩ : ∃ B, w.heap.size = B := ⟨_, rfl⟩
  have hle : w.heap.size ≤ B := by omega
  rw [hW] at H1 HW ⊢
  rw [hB] at H1 ⊢
  clear hW hB
  obtain ⟨u0, u1, u2, u3, u4, u5, u6, u7, u8, u9, u10⟩ := Res.at H1.out
  have f1 := H1.out.2.1
  have fl := H1.out.2.2
  have g0b : (r.w == 0) = true := by simpa using g0
  by_cases gn : r.n = 0
  · rcases Nat.eq_zero_or_pos ns with e | hs
    · subst e
      have G : Hid (fldI 12 r = stat0 r) := Lib.hid (by simp [fldI, HNS.out, *])
      clear HND HNS
      go_wp2_with fail
      go_ret
      exact ⟨by rw [G.out]; try rfl, by repeat (first | with_reducible exact HW.out | with_reducible refine Below.setCell ?_ (by first | omega | (dsimp only; omega)) _ | with_reducible refine Below.alloc ?_ (by have := HW.out.size; first | omega | (simp; omega)) _)⟩
    · have hs1 : ¬ (ns : Int) = 0 := by omega
      have hs2 : ¬ ns = 0 := by omega
      have hs3 : (ns : Int) > 0 := by omega
      have hs5 : ¬ wrap64 (ns : Int) = 0 := by rw [wr1 ns bs]; exact hs1
      have G : Hid (fldI 12 r = false) := Lib.hid (by simp [fldI, HNS.out, *])
      clear HND HNS
      go_wp2_with fail
      go_ret
      exact ⟨by rw [G.out]; try rfl, by repeat (first | with_reducible exact HW.out | with_reducible refine Below.setCell ?_ (by first | omega | (dsimp only; omega)) _ | with_reducible refine Below.alloc ?_ (by have := HW.out.size; first | omega | (simp; omega)) _)⟩
  · have G : Hid (fldI 12 r = false) := Lib.hid (by simp [fldI, HNS.out, *])
    clear HND HNS
    go_wp2_with fail
    go_ret
    exact ⟨by rw [G.out]; try rfl, by repeat (first | with_reducible exact HW.out | with_reducible refine Below.setCell ?_ (by first | omega | (dsimp only; omega)) _ | with_reducible refine Below.alloc ?_ (by have := HW.out.size; first | omega | (simp; omega)) _)⟩
set_option maxRecDepth 100000 in
set_option maxHeartbeats 1000000 in
theorem fields_18 {w : World} {r : Res} (g0 : r.w = 0) {y z : Value} (hy : Den 1 w y (byts r.ds)) (hz : Den 16 w z (strs r.ss)) :
    Calls Tryz.prog 15 #[.int .i64 18, .agg (r.cells y z).toArray] w fun e w' => e = .returned (.bool (fldI 18 r)) ∧ Below w.heap.size w w' := by
  obtain ⟨A, hA⟩ : ∃ A : Array Value, A = (r.cells y z).toArray := ⟨_, rfl⟩
  rw [← hA]
  have H1 : Hid (Holds (w.alloc (.cells A 40)) w.heap.size (r.cells y z).toArray) := Lib.hid (by rw [← hA]; exact Holds.new _ _ _)
  have HW : Hid (Below w.heap.size w (w.alloc (.cells A 40))) := Lib.hid ((Below.refl w.heap.size w).alloc (Nat.le_refl _) _)
  obtain ⟨p1, k1, rfl⟩ := hy.value
  obtain ⟨p2, k2, rfl⟩ := hz.value
  have n1 : (byts r.ds).length = r.ds.length := by simp [byts]
  have n2 : (strs r.ss).length = r.ss.length := by simp [strs]
  obtain ⟨nd, hnd⟩ : ∃ n, r.ds.length = n := ⟨_, rfl⟩
  obtain ⟨ns, hns⟩ : ∃ n, r.ss.length = n := ⟨_, rfl⟩
  rw [n1, n2, hnd, hns] at H1
  have bd : nd ≤ 140737488351232 := by have := hy.most.1; omega
  have bs : ns ≤ 140737488351232 := by have := hz.most.1; omega
  have HND := Lib.hid hnd
  have HNS := Lib.hid hns
  clear hA hy hz n1 n2 hnd hns
  have sq : ∀ w, (binOp .eql 38 (.agg #[.int .i64 r.s0, .int .i64 r.s1, .int .i64 r.s2, .int .i64 r.s3, .int .i64 r.s4, .int .i64 r.s5, .int .i64 r.s6]) (.agg #[.int .i64 0, .int .i64 0, .int .i64 0, .int .i64 0, .int .i64 0, .int .i64 0, .int .i64 0])).run Tryz.prog w = .ok (.bool (stat0 r)) w := fun w => stat_run r Res.zero w
  go_enter Tryz.func15, Tryz.ntmps15
  go_upto_region 1 with fail
  obtain ⟨W, hW⟩ : ∃ W, w.alloc (.cells A 40) = W := ⟨_, rfl⟩
  obtain ⟨B, hB⟩ : ∃ B, w.heap.size = B := ⟨_, rfl⟩
  have hle : w.heap.size ≤ B := by omega
  rw [hW] at H1 HW ⊢
  rw [hB] at H1 ⊢
  clear hW hB
  obtain ⟨u0, u1, u2, u3, u4, u5, u6, u7, u8, u9, u10⟩ := Res.at H1.out
  have f1 := H1.out.2.1
  have fl := H1.out.2.2
  have g0b : (r.w == 0) = true := by simpa using g0
  by_cases gn : r.n = 0
  · rcases Nat.eq_zero_or_pos nd with e | hd
    · subst e
      have G : Hid (fldI 18 r = stat0 r) := Lib.hid (by simp [fldI, HND.out, *])
      clear HND HNS
      go_wp2_with fail
      go_ret
      exact ⟨by rw [G.out]; try rfl, by repeat (first | with_reducible exact HW.out | with_reducible refine Below.setCell ?_ (by first | omega | (dsimp only; omega)) _ | with_reducible refine Below.alloc ?_ (by have := HW.out.size; first | omega | (simp; omega)) _)⟩
    · have hd1 : ¬ (nd : Int) = 0 := by omega
      have hd2 : ¬ nd = 0 := by omega
      have hd3 : (nd : Int) > 0 := by omega
      have hd5 : ¬ wrap64 (nd : Int) = 0 := by rw [wr1 nd bd]; exact hd1
      have G : Hid (fldI 18 r = false) := Lib.hid (by simp [fldI, HND.out, *])
      clear HND HNS
      go_wp2_with fail
      go_ret
      exact ⟨by rw [G.out]; try rfl, by repeat (first | with_reducible exact HW.out | with_reducible refine Below.setCell ?_ (by first | omega | (dsimp only; omega)) _ | with_reducible refine Below.alloc ?_ (by have := HW.out.size; first | omega | (simp; omega)) _)⟩
  · have G : Hid (fldI 18 r = false) := Lib.hid (by simp [fldI, HND.out, *])
    clear HND HNS
    go_wp2_with fail
    go_ret
    exact ⟨by rw [G.out]; try rfl, by repeat (first | with_reducible exact HW.out | with_reducible refine Below.setCell ?_ (by first | omega | (dsimp only; omega)) _ | with_reducible refine Below.alloc ?_ (by have := HW.out.size; first | omega | (simp; omega)) _)⟩
set_option maxRecDepth 100000 in
set_option maxHeartbeats 1000000 in
theorem fields_14 {w : World} {r : Res} (g0 : r.w = 0) {y z : Value} (hy : Den 1 w y (byts r.ds)) (hz : Den 16 w z (strs r.ss)) :
    Calls Tryz.prog 15 #[.int .i64 14, .agg (r.cells y z).toArray] w fun e w' => e = .returned (.bool (fldI 14 r)) ∧ Below w.heap.size w w' := by
  obtain ⟨A, hA⟩ : ∃ A : Array Value, A = (r.cells y z).toArray := ⟨_, rfl⟩
  rw [← hA]
  have H1 : Hid (Holds (w.alloc (.cells A 40)) w.heap.size (r.cells y z).toArray) := Lib.hid (by rw [← hA]; exact Holds.new _ _ _)
  have HW : Hid (Below w.heap.size w (w.alloc (.cells A 40))) := Lib.hid ((Below.refl w.heap.size w).alloc (Nat.le_refl _) _)
  obtain ⟨p1, k1, rfl⟩ := hy.value
  obtain ⟨p2, k2, rfl⟩ := hz.value
  have n1 : (byts r.ds).length = r.ds.length := by simp [byts]
  have n2 : (strs r.ss).length = r.ss.length := by simp [strs]
  obtain ⟨nd, hnd⟩ : ∃ n, r.ds.length = n := ⟨_, rfl⟩
  obtain ⟨ns, hns⟩ : ∃ n, r.ss.length = n := ⟨_, rfl⟩
  rw [n1, n2, hnd, hns] at H1
  have bd : nd ≤ 140737488351232 := by have := hy.most.1; omega
  have bs : ns ≤ 140737488351232 := by have := hz.most.1; omega
  have HND := Lib.hid hnd
  have HNS := Lib.hid hns
  clear hA hy hz n1 n2 hnd hns
  have sq : ∀ w, (binOp .eql 38 (.agg #[.int .i64 r.s0, .int .i64 r.s1, .int .i64 r.s2, .int .i64 r.s3, .int .i64 r.s4, .int .i64 r.s5, .int .i64 r.s6]) (.agg #[.int .i64 0, .int .i64 0, .int .i64 0, .int .i64 0, .int .i64 0, .int .i64 0, .int .i64 0])).run Tryz.prog w = .ok (.bool (stat0 r)) w := fun w => stat_run r Res.zero w
  have sz : ∀ w, (binOp .eql 38 (.agg #[.int .i64 0, .int .i64 0, .int .i64 0, .int .i64 0, .int .i64 0, .int .i64 0, .int .i64 0]) (.agg #[.int .i64 0, .int .i64 0, .int .i64 0, .int .i64 0, .int .i64 0, .int .i64 0, .int .i64 0])).run Tryz.prog w = .ok (.bool true) w := fun w => stat_run Res.zero Res.zero w
  go_enter Tryz.func15, Tryz.ntmps15
  go_upto_region 1 with fail
  obtain ⟨W, hW⟩ : ∃ W, w.alloc (.cells A 40) = W := ⟨_, rfl⟩
  obtain ⟨B, hB⟩ : ∃ B, w.heap.size = B := ⟨_, rfl⟩
  have hle : w.heap.size ≤ B := by omega
  rw [hW] at H1 HW ⊢
  rw [hB] at H1 ⊢
  clear hW hB
  obtain ⟨u0, u1, u2, u3, u4, u5, u6, u7, u8, u9, u10⟩ := Res.at H1.out
  have f1 := H1.out.2.1
  have fl := H1.out.2.2
  have g0b : (r.w == 0) = true := by simpa using g0
  by_cases t0 : r.s0 < 1
  · have t0c : ¬ 1 ≤ r.s0 := by omega
    have G : Hid (fldI 14 r = false) := Lib.hid (by simp [fldI, statOk, HND.out, HNS.out, *])
    clear HND HNS
    go_wp2_with fail
    go_ret
    exact ⟨by rw [G.out]; try rfl, by repeat (first | with_reducible exact HW.out | with_reducible refine Below.setCell ?_ (by first | omega | (dsimp only; omega)) _ | with_reducible refine Below.alloc ?_ (by have := HW.out.size; first | omega | (simp; omega)) _)⟩
  · have t0b : ¬ r.s0 < 1 := t0
    have t0c : 1 ≤ r.s0 := by omega
    by_cases t1 : r.s1 < 1
    · have t1c : ¬ 1 ≤ r.s1 := by omega
      have G : Hid (fldI 14 r = false) := Lib.hid (by simp [fldI, statOk, HND.out, HNS.out, *])
      clear HND HNS
      go_wp2_with fail
      go_ret
      exact ⟨by rw [G.out]; try rfl, by repeat (first | with_reducible exact HW.out | with_reducible refine Below.setCell ?_ (by first | omega | (dsimp only; omega)) _ | with_reducible refine Below.alloc ?_ (by have := HW.out.size; first | omega | (simp; omega)) _)⟩
    · have t1c : 1 ≤ r.s1 := by omega
      by_cases t2 : 3 < r.s1
      · have t2c : ¬ r.s1 ≤ 3 := by omega
        have t2d : r.s1 > 3 := by omega
        have G : Hid (fldI 14 r = false) := Lib.hid (by simp [fldI, statOk, HND.out, HNS.out, *])
        clear HND HNS
        go_wp2_with fail
        go_ret
        exact ⟨by rw [G.out]; try rfl, by repeat (first | with_reducible exact HW.out | with_reducible refine Below.setCell ?_ (by first | omega | (dsimp only; omega)) _ | with_reducible refine Below.alloc ?_ (by have := HW.out.size; first | omega | (simp; omega)) _)⟩
      · have t2c : r.s1 ≤ 3 := by omega
        by_cases t3 : r.s2 < 0
        · have t3c : ¬ 0 ≤ r.s2 := by omega
          have G : Hid (fldI 14 r = false) := Lib.hid (by simp [fldI, statOk, HND.out, HNS.out, *])
          clear HND HNS
          go_wp2_with fail
          go_ret
          exact ⟨by rw [G.out]; try rfl, by repeat (first | with_reducible exact HW.out | with_reducible refine Below.setCell ?_ (by first | omega | (dsimp only; omega)) _ | with_reducible refine Below.alloc ?_ (by have := HW.out.size; first | omega | (simp; omega)) _)⟩
        · have t3c : 0 ≤ r.s2 := by omega
          by_cases t4 : 4095 < r.s2
          · have t4c : ¬ r.s2 ≤ 4095 := by omega
            have t4d : r.s2 > 4095 := by omega
            have G : Hid (fldI 14 r = false) := Lib.hid (by simp [fldI, statOk, HND.out, HNS.out, *])
            clear HND HNS
            go_wp2_with fail
            go_ret
            exact ⟨by rw [G.out]; try rfl, by repeat (first | with_reducible exact HW.out | with_reducible refine Below.setCell ?_ (by first | omega | (dsimp only; omega)) _ | with_reducible refine Below.alloc ?_ (by have := HW.out.size; first | omega | (simp; omega)) _)⟩
          · have t4c : r.s2 ≤ 4095 := by omega
            by_cases gn : r.n = 0
            · rcases Nat.eq_zero_or_pos nd with e | hd
              · subst e
                rcases Nat.eq_zero_or_pos ns with e | hs
                · subst e
                  have G : Hid (fldI 14 r = true) := Lib.hid (by simp [fldI, statOk, HND.out, HNS.out, *])
                  clear HND HNS
                  go_wp2_with fail
                  go_ret
                  exact ⟨by rw [G.out]; try rfl, by repeat (first | with_reducible exact HW.out | with_reducible refine Below.setCell ?_ (by first | omega | (dsimp only; omega)) _ | with_reducible refine Below.alloc ?_ (by have := HW.out.size; first | omega | (simp; omega)) _)⟩
                · have hs1 : ¬ (ns : Int) = 0 := by omega
                  have hs2 : ¬ ns = 0 := by omega
                  have hs3 : (ns : Int) > 0 := by omega
                  have hs5 : ¬ wrap64 (ns : Int) = 0 := by rw [wr1 ns bs]; exact hs1
                  have G : Hid (fldI 14 r = false) := Lib.hid (by simp [fldI, statOk, HND.out, HNS.out, *])
                  clear HND HNS
                  go_wp2_with fail
                  go_ret
                  exact ⟨by rw [G.out]; try rfl, by repeat (first | with_reducible exact HW.out | with_reducible refine Below.setCell ?_ (by first | omega | (dsimp only; omega)) _ | with_reducible refine Below.alloc ?_ (by have := HW.out.size; first | omega | (simp; omega)) _)⟩
              · have hd1 : ¬ (nd : Int) = 0 := by omega
                have hd2 : ¬ nd = 0 := by omega
                have hd3 : (nd : Int) > 0 := by omega
                have hd5 : ¬ wrap64 (nd : Int) = 0 := by rw [wr1 nd bd]; exact hd1
                have hd4 : ¬ (nd : Int) + (ns : Int) = 0 := by omega
                have hd6 : ¬ wrap64 ((nd : Int) + (ns : Int)) = 0 := by rw [wr2 nd ns bd bs]; exact hd4
                have G : Hid (fldI 14 r = false) := Lib.hid (by simp [fldI, statOk, HND.out, HNS.out, *])
                clear HND HNS
                go_wp2_with fail
                go_ret
                exact ⟨by rw [G.out]; try rfl, by repeat (first | with_reducible exact HW.out | with_reducible refine Below.setCell ?_ (by first | omega | (dsimp only; omega)) _ | with_reducible refine Below.alloc ?_ (by have := HW.out.size; first | omega | (simp; omega)) _)⟩
            · have G : Hid (fldI 14 r = false) := Lib.hid (by simp [fldI, statOk, HND.out, HNS.out, *])
              clear HND HNS
              go_wp2_with fail
              go_ret
              exact ⟨by rw [G.out]; try rfl, by repeat (first | with_reducible exact HW.out | with_reducible refine Below.setCell ?_ (by first | omega | (dsimp only; omega)) _ | with_reducible refine Below.alloc ?_ (by have := HW.out.size; first | omega | (simp; omega)) _)⟩
set_option maxRecDepth 100000 in
set_option maxHeartbeats 1000000 in
theorem fields_other {w : World} {r : Res} (op : Int) (g0 : r.w = 0) (o3 : ¬ op = 3) (o6 : ¬ op = 6) (o7 : ¬ op = 7) (o5 : ¬ op = 5) (o12 : ¬ op = 12) (o18 : ¬ op = 18) (o14 : ¬ op = 14) {y z : Value} (hy : Den 1 w y (byts r.ds)) (hz : Den 16 w z (strs r.ss)) :
    Calls Tryz.prog 15 #[.int .i64 op, .agg (r.cells y z).toArray] w fun e w' => e = .returned (.bool (fldI op r)) ∧ Below w.heap.size w w' := by
  obtain ⟨A, hA⟩ : ∃ A : Array Value, A = (r.cells y z).toArray := ⟨_, rfl⟩
  rw [← hA]
  have H1 : Hid (Holds (w.alloc (.cells A 40)) w.heap.size (r.cells y z).toArray) := Lib.hid (by rw [← hA]; exact Holds.new _ _ _)
  have HW : Hid (Below w.heap.size w (w.alloc (.cells A 40))) := Lib.hid ((Below.refl w.heap.size w).alloc (Nat.le_refl _) _)
  obtain ⟨p1, k1, rfl⟩ := hy.value
  obtain ⟨p2, k2, rfl⟩ := hz.value
  have n1 : (byts r.ds).length = r.ds.length := by simp [byts]
  have n2 : (strs r.ss).length = r.ss.length := by simp [strs]
  obtain ⟨nd, hnd⟩ : ∃ n, r.ds.length = n := ⟨_, rfl⟩
  obtain ⟨ns, hns⟩ : ∃ n, r.ss.length = n := ⟨_, rfl⟩
  rw [n1, n2, hnd, hns] at H1
  have bd : nd ≤ 140737488351232 := by have := hy.most.1; omega
  have bs : ns ≤ 140737488351232 := by have := hz.most.1; omega
  have HND := Lib.hid hnd
  have HNS := Lib.hid hns
  clear hA hy hz n1 n2 hnd hns
  have sq : ∀ w, (binOp .eql 38 (.agg #[.int .i64 r.s0, .int .i64 r.s1, .int .i64 r.s2, .int .i64 r.s3, .int .i64 r.s4, .int .i64 r.s5, .int .i64 r.s6]) (.agg #[.int .i64 0, .int .i64 0, .int .i64 0, .int .i64 0, .int .i64 0, .int .i64 0, .int .i64 0])).run Tryz.prog w = .ok (.bool (stat0 r)) w := fun w => stat_run r Res.zero w
  go_enter Tryz.func15, Tryz.ntmps15
  go_upto_region 1 with fail
  obtain ⟨W, hW⟩ : ∃ W, w.alloc (.cells A 40) = W := ⟨_, rfl⟩
  obtain ⟨B, hB⟩ : ∃ B, w.heap.size = B := ⟨_, rfl⟩
  have hle : w.heap.size ≤ B := by omega
  rw [hW] at H1 HW ⊢
  rw [hB] at H1 ⊢
  clear hW hB
  obtain ⟨u0, u1, u2, u3, u4, u5, u6, u7, u8, u9, u10⟩ := Res.at H1.out
  have f1 := H1.out.2.1
  have fl := H1.out.2.2
  have g0b : (r.w == 0) = true := by simpa using g0
  have e3 : (op == 3) = false := by simpa using o3
  have e6 : (op == 6) = false := by simpa using o6
  have e7 : (op == 7) = false := by simpa using o7
  have e5 : (op == 5) = false := by simpa using o5
  have e12 : (op == 12) = false := by simpa using o12
  have e18 : (op == 18) = false := by simpa using o18
  have e14 : (op == 14) = false := by simpa using o14
  by_cases gn : r.n = 0
  · rcases Nat.eq_zero_or_pos nd with e | hd
    · subst e
      rcases Nat.eq_zero_or_pos ns with e | hs
      · subst e
        have G : Hid (fldI op r = stat0 r) := Lib.hid (by simp [fldI, HND.out, HNS.out, *])
        clear HND HNS
        go_wp2_with fail
        go_ret
        exact ⟨by rw [G.out]; try rfl, by repeat (first | with_reducible exact HW.out | with_reducible refine Below.setCell ?_ (by first | omega | (dsimp only; omega)) _ | with_reducible refine Below.alloc ?_ (by have := HW.out.size; first | omega | (simp; omega)) _)⟩
      · have hs1 : ¬ (ns : Int) = 0 := by omega
        have hs2 : ¬ ns = 0 := by omega
        have hs3 : (ns : Int) > 0 := by omega
        have hs5 : ¬ wrap64 (ns : Int) = 0 := by rw [wr1 ns bs]; exact hs1
        have G : Hid (fldI op r = false) := Lib.hid (by simp [fldI, HND.out, HNS.out, *])
        clear HND HNS
        go_wp2_with fail
        go_ret
        exact ⟨by rw [G.out]; try rfl, by repeat (first | with_reducible exact HW.out | with_reducible refine Below.setCell ?_ (by first | omega | (dsimp only; omega)) _ | with_reducible refine Below.alloc ?_ (by have := HW.out.size; first | omega | (simp; omega)) _)⟩
    · have hd1 : ¬ (nd : Int) = 0 := by omega
      have hd2 : ¬ nd = 0 := by omega
      have hd3 : (nd : Int) > 0 := by omega
      have hd5 : ¬ wrap64 (nd : Int) = 0 := by rw [wr1 nd bd]; exact hd1
      have hd4 : ¬ (nd : Int) + (ns : Int) = 0 := by omega
      have hd6 : ¬ wrap64 ((nd : Int) + (ns : Int)) = 0 := by rw [wr2 nd ns bd bs]; exact hd4
      have G : Hid (fldI op r = false) := Lib.hid (by simp [fldI, HND.out, HNS.out, *])
      clear HND HNS
      go_wp2_with fail
      go_ret
      exact ⟨by rw [G.out]; try rfl, by repeat (first | with_reducible exact HW.out | with_reducible refine Below.setCell ?_ (by first | omega | (dsimp only; omega)) _ | with_reducible refine Below.alloc ?_ (by have := HW.out.size; first | omega | (simp; omega)) _)⟩
  · have G : Hid (fldI op r = false) := Lib.hid (by simp [fldI, HND.out, HNS.out, *])
    clear HND HNS
    go_wp2_with fail
    go_ret
    exact ⟨by rw [G.out]; try rfl, by repeat (first | with_reducible exact HW.out | with_reducible refine Below.setCell ?_ (by first | omega | (dsimp only; omega)) _ | with_reducible refine Below.alloc ?_ (by have := HW.out.size; first | omega | (simp; omega)) _)⟩
set_option maxRecDepth 100000 in
set_option maxHeartbeats 1000000 in
theorem fields_bad {w : World} {r : Res} (op : Int) (g0 : ¬ r.w = 0) {y z : Value} (hy : Den 1 w y (byts r.ds)) (hz : Den 16 w z (strs r.ss)) :
    Calls Tryz.prog 15 #[.int .i64 op, .agg (r.cells y z).toArray] w fun e w' => e = .returned (.bool (fldI op r)) ∧ Below w.heap.size w w' := by
  obtain ⟨A, hA⟩ : ∃ A : Array Value, A = (r.cells y z).toArray := ⟨_, rfl⟩
  rw [← hA]
  have H1 : Hid (Holds (w.alloc (.cells A 40)) w.heap.size (r.cells y z).toArray) := Lib.hid (by rw [← hA]; exact Holds.new _ _ _)
  have HW : Hid (Below w.heap.size w (w.alloc (.cells A 40))) := Lib.hid ((Below.refl w.heap.size w).alloc (Nat.le_refl _) _)
  obtain ⟨p1, k1, rfl⟩ := hy.value
  obtain ⟨p2, k2, rfl⟩ := hz.value
  have n1 : (byts r.ds).length = r.ds.length := by simp [byts]
  have n2 : (strs r.ss).length = r.ss.length := by simp [strs]
  obtain ⟨nd, hnd⟩ : ∃ n, r.ds.length = n := ⟨_, rfl⟩
  obtain ⟨ns, hns⟩ : ∃ n, r.ss.length = n := ⟨_, rfl⟩
  rw [n1, n2, hnd, hns] at H1
  have bd : nd ≤ 140737488351232 := by have := hy.most.1; omega
  have bs : ns ≤ 140737488351232 := by have := hz.most.1; omega
  have HND := Lib.hid hnd
  have HNS := Lib.hid hns
  clear hA hy hz n1 n2 hnd hns
  have sq : ∀ w, (binOp .eql 38 (.agg #[.int .i64 r.s0, .int .i64 r.s1, .int .i64 r.s2, .int .i64 r.s3, .int .i64 r.s4, .int .i64 r.s5, .int .i64 r.s6]) (.agg #[.int .i64 0, .int .i64 0, .int .i64 0, .int .i64 0, .int .i64 0, .int .i64 0, .int .i64 0])).run Tryz.prog w = .ok (.bool (stat0 r)) w := fun w => stat_run r Res.zero w
  go_enter Tryz.func15, Tryz.ntmps15
  go_upto_region 1 with fail
  obtain ⟨W, hW⟩ : ∃ W, w.alloc (.cells A 40) = W := ⟨_, rfl⟩
  obtain ⟨B, hB⟩ : ∃ B, w.heap.size = B := ⟨_, rfl⟩
  have hle : w.heap.size ≤ B := by omega
  rw [hW] at H1 HW ⊢
  rw [hB] at H1 ⊢
  clear hW hB
  obtain ⟨u0, u1, u2, u3, u4, u5, u6, u7, u8, u9, u10⟩ := Res.at H1.out
  have f1 := H1.out.2.1
  have fl := H1.out.2.2
  have g0b : (r.w == 0) = false := by simpa using g0
  by_cases gn : r.n = 0
  · rcases Nat.eq_zero_or_pos nd with e | hd
    · subst e
      rcases Nat.eq_zero_or_pos ns with e | hs
      · subst e
        have G : Hid (fldI op r = stat0 r) := Lib.hid (by simp [fldI, HND.out, HNS.out, *])
        clear HND HNS
        go_wp2_with fail
        go_ret
        exact ⟨by rw [G.out]; try rfl, by repeat (first | with_reducible exact HW.out | with_reducible refine Below.setCell ?_ (by first | omega | (dsimp only; omega)) _ | with_reducible refine Below.alloc ?_ (by have := HW.out.size; first | omega | (simp; omega)) _)⟩
      · have hs1 : ¬ (ns : Int) = 0 := by omega
        have hs2 : ¬ ns = 0 := by omega
        have hs3 : (ns : Int) > 0 := by omega
        have hs5 : ¬ wrap64 (ns : Int) = 0 := by rw [wr1 ns bs]; exact hs1
        have G : Hid (fldI op r = false) := Lib.hid (by simp [fldI, HND.out, HNS.out, *])
        clear HND HNS
        go_wp2_with fail
        go_ret
        exact ⟨by rw [G.out]; try rfl, by repeat (first | with_reducible exact HW.out | with_reducible refine Below.setCell ?_ (by first | omega | (dsimp only; omega)) _ | with_reducible refine Below.alloc ?_ (by have := HW.out.size; first | omega | (simp; omega)) _)⟩
    · have hd1 : ¬ (nd : Int) = 0 := by omega
      have hd2 : ¬ nd = 0 := by omega
      have hd3 : (nd : Int) > 0 := by omega
      have hd5 : ¬ wrap64 (nd : Int) = 0 := by rw [wr1 nd bd]; exact hd1
      have hd4 : ¬ (nd : Int) + (ns : Int) = 0 := by omega
      have hd6 : ¬ wrap64 ((nd : Int) + (ns : Int)) = 0 := by rw [wr2 nd ns bd bs]; exact hd4
      have G : Hid (fldI op r = false) := Lib.hid (by simp [fldI, HND.out, HNS.out, *])
      clear HND HNS
      go_wp2_with fail
      go_ret
      exact ⟨by rw [G.out]; try rfl, by repeat (first | with_reducible exact HW.out | with_reducible refine Below.setCell ?_ (by first | omega | (dsimp only; omega)) _ | with_reducible refine Below.alloc ?_ (by have := HW.out.size; first | omega | (simp; omega)) _)⟩
  · have G : Hid (fldI op r = false) := Lib.hid (by simp [fldI, HND.out, HNS.out, *])
    clear HND HNS
    go_wp2_with fail
    go_ret
    exact ⟨by rw [G.out]; try rfl, by repeat (first | with_reducible exact HW.out | with_reducible refine Below.setCell ?_ (by first | omega | (dsimp only; omega)) _ | with_reducible refine Below.alloc ?_ (by have := HW.out.size; first | omega | (simp; omega)) _)⟩
theorem fields_any {w : World} (op : Int) {r : Res} {y z : Value} (hy : Den 1 w y (byts r.ds)) (hz : Den 16 w z (strs r.ss)) :
    Calls Tryz.prog 15 #[.int .i64 op, .agg (r.cells y z).toArray] w fun e w' => e = .returned (.bool (fldI op r)) ∧ Below w.heap.size w w' := by
  by_cases g0 : r.w = 0
  · by_cases o3 : op = 3
    · subst o3; exact fields_3 g0 hy hz
    by_cases o6 : op = 6
    · subst o6; exact fields_6 g0 hy hz
    by_cases o7 : op = 7
    · subst o7; exact fields_7 g0 hy hz
    by_cases o5 : op = 5
    · subst o5; exact fields_5 g0 hy hz
    by_cases o12 : op = 12
    · subst o12; exact fields_12 g0 hy hz
    by_cases o18 : op = 18
    · subst o18; exact fields_18 g0 hy hz
    by_cases o14 : op = 14
    · subst o14; exact fields_14 g0 hy hz
    exact fields_other op g0 o3 o6 o7 o5 o12 o18 o14 hy hz
  · exact fields_bad op g0 hy hz
end Go.Proofs.YtfjghemojnhmbaaGreat
