/- Fields, by the words. -/
import Derived.Test.YtjefjonogbkknaaFields
namespace Go.Proofs.Ytjefjonogbkknaa
open Go.RowKit

def Res.why (r : Res) : Res := ⟨r.w, 0, 0, 0, 0, 0, 0, 0, 0, [], []⟩
theorem bytesOf_nil (ds : List Int) : (Lib.bytesOf ds == Lib.bytesOf []) = decide (ds.length = 0) := by
  cases ds with
  | nil => simp
  | cons a l =>
    simp only [List.length_cons]
    rw [show decide (l.length + 1 = 0) = false from by simp, beq_eq_false_iff_ne]
    intro e
    have := congrArg List.length e
    simp [Lib.bytesOf] at this
theorem same_why (r : Res) : sameI r r.why = (decide (r.n = 0 ∧ r.ds.length = 0 ∧ r.ss.length = 0) && stat0 r) := by
  have e : statI r r.why = stat0 r := rfl
  unfold sameI
  rw [e, show r.why.w = r.w from rfl, show r.why.n = 0 from rfl, show r.why.ds = [] from rfl, show r.why.ss = [] from rfl, bytesOf_nil]
  by_cases h1 : r.n = 0 <;> by_cases h2 : r.ds.length = 0 <;> by_cases h3 : r.ss = [] <;> simp [h1, h2, h3]
set_option maxRecDepth 100000 in
set_option maxHeartbeats 1000000 in
theorem ref_3 {w : World} {r : Res} (g0 : r.w = 0) {y z : Value} (hy : Den 1 w y (byts r.ds)) (hz : Den 16 w z (strs r.ss)) :
    Calls Try.prog 7 #[.int .i64 3, .agg (r.cells y z).toArray] w fun e w' => e = .returned (.bool (fldI 3 r)) ∧ Below w.heap.size w w' := by
  obtain ⟨A, hA⟩ : ∃ A : Array Value, A = (r.cells y z).toArray := ⟨_, rfl⟩
  rw [← hA]
  have H1 : Hid (Holds (w.alloc (.cells A 29)) w.heap.size (r.cells y z).toArray) := Lib.hid (by rw [← hA]; exact Holds.new _ _ _)
  have HW : Hid (Below w.heap.size w (w.alloc (.cells A 29))) := Lib.hid ((Below.refl w.heap.size w).alloc (Nat.le_refl _) _)
  obtain ⟨p1, k1, rfl⟩ := hy.value
  obtain ⟨p2, k2, rfl⟩ := hz.value
  have n1 : (byts r.ds).length = r.ds.length := by simp [byts]
  have n2 : (strs r.ss).length = r.ss.length := by simp [strs]
  obtain ⟨nd, hnd⟩ : ∃ n, r.ds.length = n := ⟨_, rfl⟩
  obtain ⟨ns, hns⟩ : ∃ n, r.ss.length = n := ⟨_, rfl⟩
  rw [n1, n2, hnd, hns] at H1
  have bd : nd ≤ 140737488351232 := by have := hy.most.1; omega
  have bs : ns ≤ 140737488351232 := by have := hz.most.1; omega
  have HND := Lib.hid hnd
  have HNS := Lib.hid hns
  clear hy hz n1 n2 hnd hns
  clear hA
  have sq : ∀ w, (binOp .eql 27 (.agg #[.int .i64 r.s0, .int .i64 r.s1, .int .i64 r.s2, .int .i64 r.s3, .int .i64 r.s4, .int .i64 r.s5, .int .i64 r.s6]) (.agg #[.int .i64 0, .int .i64 0, .int .i64 0, .int .i64 0, .int .i64 0, .int .i64 0, .int .i64 0])).run Try.prog w = .ok (.bool (stat0 r)) w := fun w => stat_run r Res.zero w
  go_enter Try.func7, Try.ntmps7
  go_upto_region 1 with fail
  obtain ⟨W, hW⟩ : ∃ W, w.alloc (.cells A 29) = W := ⟨_, rfl⟩
  obtain ⟨B, hB⟩ : ∃ B, w.heap.size = B := ⟨_, rfl⟩
  have hle : w.heap.size ≤ B := by omega
  rw [hW] at H1 HW ⊢
  rw [hB] at H1 ⊢
  clear hW hB
  obtain ⟨u0, u1, u2, u3, u4, u5, u6, u7, u8, u9, u10⟩ := Res.at H1.out
  have f1 := H1.out.2.1
  have fl := H1.out.2.2
  have g0b : (r.w == 0) = true := by simpa using g0
  rcases Nat.eq_zero_or_pos nd with e | hd
  · subst e
    rcases Nat.eq_zero_or_pos ns with e | hs
    · subst e
      have G : Hid (fldI 3 r = stat0 r) := Lib.hid (by simp [fldI, statOk, HND.out, HNS.out, *])
      clear HND HNS
      go_wp2_with fail
      go_ret
      exact ⟨by rw [G.out]; try rfl, by repeat (first | with_reducible exact HW.out | with_reducible refine Below.setCell ?_ (by first | omega | (dsimp only; omega)) _ | with_reducible refine Below.alloc ?_ (by have := HW.out.size; first | omega | (simp; omega)) _)⟩
    · have hs1 : ¬ (ns : Int) = 0 := by omega
      have hs2 : ¬ ns = 0 := by omega
      have hs3 : (ns : Int) > 0 := by omega
      have G : Hid (fldI 3 r = false) := Lib.hid (by simp [fldI, statOk, HND.out, HNS.out, *])
      clear HND HNS
      go_wp2_with fail
      go_ret
      exact ⟨by rw [G.out]; try rfl, by repeat (first | with_reducible exact HW.out | with_reducible refine Below.setCell ?_ (by first | omega | (dsimp only; omega)) _ | with_reducible refine Below.alloc ?_ (by have := HW.out.size; first | omega | (simp; omega)) _)⟩
  · have hd1 : ¬ (nd : Int) = 0 := by omega
    have hd2 : ¬ nd = 0 := by omega
    have hd3 : (nd : Int) > 0 := by omega
    have G : Hid (fldI 3 r = false) := Lib.hid (by simp [fldI, statOk, HND.out, HNS.out, *])
    clear HND HNS
    go_wp2_with fail
    go_ret
    exact ⟨by rw [G.out]; try rfl, by repeat (first | with_reducible exact HW.out | with_reducible refine Below.setCell ?_ (by first | omega | (dsimp only; omega)) _ | with_reducible refine Below.alloc ?_ (by have := HW.out.size; first | omega | (simp; omega)) _)⟩
set_option maxRecDepth 100000 in
set_option maxHeartbeats 1000000 in
theorem ref_6 {w : World} {r : Res} (g0 : r.w = 0) {y z : Value} (hy : Den 1 w y (byts r.ds)) (hz : Den 16 w z (strs r.ss)) :
    Calls Try.prog 7 #[.int .i64 6, .agg (r.cells y z).toArray] w fun e w' => e = .returned (.bool (fldI 6 r)) ∧ Below w.heap.size w w' := by
  obtain ⟨A, hA⟩ : ∃ A : Array Value, A = (r.cells y z).toArray := ⟨_, rfl⟩
  rw [← hA]
  have H1 : Hid (Holds (w.alloc (.cells A 29)) w.heap.size (r.cells y z).toArray) := Lib.hid (by rw [← hA]; exact Holds.new _ _ _)
  have HW : Hid (Below w.heap.size w (w.alloc (.cells A 29))) := Lib.hid ((Below.refl w.heap.size w).alloc (Nat.le_refl _) _)
  obtain ⟨p1, k1, rfl⟩ := hy.value
  obtain ⟨p2, k2, rfl⟩ := hz.value
  have n1 : (byts r.ds).length = r.ds.length := by simp [byts]
  have n2 : (strs r.ss).length = r.ss.length := by simp [strs]
  obtain ⟨nd, hnd⟩ : ∃ n, r.ds.length = n := ⟨_, rfl⟩
  obtain ⟨ns, hns⟩ : ∃ n, r.ss.length = n := ⟨_, rfl⟩
  rw [n1, n2, hnd, hns] at H1
  have bd : nd ≤ 140737488351232 := by have := hy.most.1; omega
  have bs : ns ≤ 140737488351232 := by have := hz.most.1; omega
  have HND := Lib.hid hnd
  have HNS := Lib.hid hns
  clear hy hz n1 n2 hnd hns
  clear hA
  have sq : ∀ w, (binOp .eql 27 (.agg #[.int .i64 r.s0, .int .i64 r.s1, .int .i64 r.s2, .int .i64 r.s3, .int .i64 r.s4, .int .i64 r.s5, .int .i64 r.s6]) (.agg #[.int .i64 0, .int .i64 0, .int .i64 0, .int .i64 0, .int .i64 0, .int .i64 0, .int .i64 0])).run Try.prog w = .ok (.bool (stat0 r)) w := fun w => stat_run r Res.zero w
  go_enter Try.func7, Try.ntmps7
  go_upto_region 1 with fail
  obtain ⟨W, hW⟩ : ∃ W, w.alloc (.cells A 29) = W := ⟨_, rfl⟩
  obtain ⟨B, hB⟩ : ∃ B, w.heap.size = B := ⟨_, rfl⟩
  have hle : w.heap.size ≤ B := by omega
  rw [hW] at H1 HW ⊢
  rw [hB] at H1 ⊢
  clear hW hB
  obtain ⟨u0, u1, u2, u3, u4, u5, u6, u7, u8, u9, u10⟩ := Res.at H1.out
  have f1 := H1.out.2.1
  have fl := H1.out.2.2
  have g0b : (r.w == 0) = true := by simpa using g0
  rcases Nat.eq_zero_or_pos nd with e | hd
  · subst e
    rcases Nat.eq_zero_or_pos ns with e | hs
    · subst e
      have G : Hid (fldI 6 r = stat0 r) := Lib.hid (by simp [fldI, statOk, HND.out, HNS.out, *])
      clear HND HNS
      go_wp2_with fail
      go_ret
      exact ⟨by rw [G.out]; try rfl, by repeat (first | with_reducible exact HW.out | with_reducible refine Below.setCell ?_ (by first | omega | (dsimp only; omega)) _ | with_reducible refine Below.alloc ?_ (by have := HW.out.size; first | omega | (simp; omega)) _)⟩
    · have hs1 : ¬ (ns : Int) = 0 := by omega
      have hs2 : ¬ ns = 0 := by omega
      have hs3 : (ns : Int) > 0 := by omega
      have G : Hid (fldI 6 r = false) := Lib.hid (by simp [fldI, statOk, HND.out, HNS.out, *])
      clear HND HNS
      go_wp2_with fail
      go_ret
      exact ⟨by rw [G.out]; try rfl, by repeat (first | with_reducible exact HW.out | with_reducible refine Below.setCell ?_ (by first | omega | (dsimp only; omega)) _ | with_reducible refine Below.alloc ?_ (by have := HW.out.size; first | omega | (simp; omega)) _)⟩
  · have hd1 : ¬ (nd : Int) = 0 := by omega
    have hd2 : ¬ nd = 0 := by omega
    have hd3 : (nd : Int) > 0 := by omega
    have G : Hid (fldI 6 r = false) := Lib.hid (by simp [fldI, statOk, HND.out, HNS.out, *])
    clear HND HNS
    go_wp2_with fail
    go_ret
    exact ⟨by rw [G.out]; try rfl, by repeat (first | with_reducible exact HW.out | with_reducible refine Below.setCell ?_ (by first | omega | (dsimp only; omega)) _ | with_reducible refine Below.alloc ?_ (by have := HW.out.size; first | omega | (simp; omega)) _)⟩
set_option maxRecDepth 100000 in
set_option maxHeartbeats 1000000 in
theorem ref_7 {w : World} {r : Res} (g0 : r.w = 0) {y z : Value} (hy : Den 1 w y (byts r.ds)) (hz : Den 16 w z (strs r.ss)) :
    Calls Try.prog 7 #[.int .i64 7, .agg (r.cells y z).toArray] w fun e w' => e = .returned (.bool (fldI 7 r)) ∧ Below w.heap.size w w' := by
  obtain ⟨A, hA⟩ : ∃ A : Array Value, A = (r.cells y z).toArray := ⟨_, rfl⟩
  rw [← hA]
  have H1 : Hid (Holds (w.alloc (.cells A 29)) w.heap.size (r.cells y z).toArray) := Lib.hid (by rw [← hA]; exact Holds.new _ _ _)
  have HW : Hid (Below w.heap.size w (w.alloc (.cells A 29))) := Lib.hid ((Below.refl w.heap.size w).alloc (Nat.le_refl _) _)
  obtain ⟨p1, k1, rfl⟩ := hy.value
  obtain ⟨p2, k2, rfl⟩ := hz.value
  have n1 : (byts r.ds).length = r.ds.length := by simp [byts]
  have n2 : (strs r.ss).length = r.ss.length := by simp [strs]
  obtain ⟨nd, hnd⟩ : ∃ n, r.ds.length = n := ⟨_, rfl⟩
  obtain ⟨ns, hns⟩ : ∃ n, r.ss.length = n := ⟨_, rfl⟩
  rw [n1, n2, hnd, hns] at H1
  have bd : nd ≤ 140737488351232 := by have := hy.most.1; omega
  have bs : ns ≤ 140737488351232 := by have := hz.most.1; omega
  have HND := Lib.hid hnd
  have HNS := Lib.hid hns
  clear hy hz n1 n2 hnd hns
  clear hA
  have sq : ∀ w, (binOp .eql 27 (.agg #[.int .i64 r.s0, .int .i64 r.s1, .int .i64 r.s2, .int .i64 r.s3, .int .i64 r.s4, .int .i64 r.s5, .int .i64 r.s6]) (.agg #[.int .i64 0, .int .i64 0, .int .i64 0, .int .i64 0, .int .i64 0, .int .i64 0, .int .i64 0])).run Try.prog w = .ok (.bool (stat0 r)) w := fun w => stat_run r Res.zero w
  go_enter Try.func7, Try.ntmps7
  go_upto_region 1 with fail
  obtain ⟨W, hW⟩ : ∃ W, w.alloc (.cells A 29) = W := ⟨_, rfl⟩
  obtain ⟨B, hB⟩ : ∃ B, w.heap.size = B := ⟨_, rfl⟩
  have hle : w.heap.size ≤ B := by omega
  rw [hW] at H1 HW ⊢
  rw [hB] at H1 ⊢
  clear hW hB
  obtain ⟨u0, u1, u2, u3, u4, u5, u6, u7, u8, u9, u10⟩ := Res.at H1.out
  have f1 := H1.out.2.1
  have fl := H1.out.2.2
  have g0b : (r.w == 0) = true := by simpa using g0
  rcases Nat.eq_zero_or_pos nd with e | hd
  · subst e
    rcases Nat.eq_zero_or_pos ns with e | hs
    · subst e
      have G : Hid (fldI 7 r = stat0 r) := Lib.hid (by simp [fldI, statOk, HND.out, HNS.out, *])
      clear HND HNS
      go_wp2_with fail
      go_ret
      exact ⟨by rw [G.out]; try rfl, by repeat (first | with_reducible exact HW.out | with_reducible refine Below.setCell ?_ (by first | omega | (dsimp only; omega)) _ | with_reducible refine Below.alloc ?_ (by have := HW.out.size; first | omega | (simp; omega)) _)⟩
    · have hs1 : ¬ (ns : Int) = 0 := by omega
      have hs2 : ¬ ns = 0 := by omega
      have hs3 : (ns : Int) > 0 := by omega
      have G : Hid (fldI 7 r = false) := Lib.hid (by simp [fldI, statOk, HND.out, HNS.out, *])
      clear HND HNS
      go_wp2_with fail
      go_ret
      exact ⟨by rw [G.out]; try rfl, by repeat (first | with_reducible exact HW.out | with_reducible refine Below.setCell ?_ (by first | omega | (dsimp only; omega)) _ | with_reducible refine Below.alloc ?_ (by have := HW.out.size; first | omega | (simp; omega)) _)⟩
  · have hd1 : ¬ (nd : Int) = 0 := by omega
    have hd2 : ¬ nd = 0 := by omega
    have hd3 : (nd : Int) > 0 := by omega
    have G : Hid (fldI 7 r = false) := Lib.hid (by simp [fldI, statOk, HND.out, HNS.out, *])
    clear HND HNS
    go_wp2_with fail
    go_ret
    exact ⟨by rw [G.out]; try rfl, by repeat (first | with_reducible exact HW.out | with_reducible refine Below.setCell ?_ (by first | omega | (dsimp only; omega)) _ | with_reducible refine Below.alloc ?_ (by have := HW.out.size; first | omega | (simp; omega)) _)⟩
set_option maxRecDepth 100000 in
set_option maxHeartbeats 1000000 in
theorem ref_5 {w : World} {r : Res} (g0 : r.w = 0) {y z : Value} (hy : Den 1 w y (byts r.ds)) (hz : Den 16 w z (strs r.ss)) :
    Calls Try.prog 7 #[.int .i64 5, .agg (r.cells y z).toArray] w fun e w' => e = .returned (.bool (fldI 5 r)) ∧ Below w.heap.size w w' := by
  obtain ⟨A, hA⟩ : ∃ A : Array Value, A = (r.cells y z).toArray := ⟨_, rfl⟩
  rw [← hA]
  have H1 : Hid (Holds (w.alloc (.cells A 29)) w.heap.size (r.cells y z).toArray) := Lib.hid (by rw [← hA]; exact Holds.new _ _ _)
  have HW : Hid (Below w.heap.size w (w.alloc (.cells A 29))) := Lib.hid ((Below.refl w.heap.size w).alloc (Nat.le_refl _) _)
  obtain ⟨p1, k1, rfl⟩ := hy.value
  obtain ⟨p2, k2, rfl⟩ := hz.value
  have n1 : (byts r.ds).length = r.ds.length := by simp [byts]
  have n2 : (strs r.ss).length = r.ss.length := by simp [strs]
  obtain ⟨nd, hnd⟩ : ∃ n, r.ds.length = n := ⟨_, rfl⟩
  obtain ⟨ns, hns⟩ : ∃ n, r.ss.length = n := ⟨_, rfl⟩
  rw [n1, n2, hnd, hns] at H1
  have bd : nd ≤ 140737488351232 := by have := hy.most.1; omega
  have bs : ns ≤ 140737488351232 := by have := hz.most.1; omega
  have HND := Lib.hid hnd
  have HNS := Lib.hid hns
  clear hy hz n1 n2 hnd hns
  clear hA
  have sq : ∀ w, (binOp .eql 27 (.agg #[.int .i64 r.s0, .int .i64 r.s1, .int .i64 r.s2, .int .i64 r.s3, .int .i64 r.s4, .int .i64 r.s5, .int .i64 r.s6]) (.agg #[.int .i64 0, .int .i64 0, .int .i64 0, .int .i64 0, .int .i64 0, .int .i64 0, .int .i64 0])).run Try.prog w = .ok (.bool (stat0 r)) w := fun w => stat_run r Res.zero w
  go_enter Try.func7, Try.ntmps7
  go_upto_region 1 with fail
  obtain ⟨W, hW⟩ : ∃ W, w.alloc (.cells A 29) = W := ⟨_, rfl⟩
  obtain ⟨B, hB⟩ : ∃ B, w.heap.size = B := ⟨_, rfl⟩
  have hle : w.heap.size ≤ B := by omega
  rw [hW] at H1 HW ⊢
  rw [hB] at H1 ⊢
  clear hW hB
  obtain ⟨u0, u1, u2, u3, u4, u5, u6, u7, u8, u9, u10⟩ := Res.at H1.out
  have f1 := H1.out.2.1
  have fl := H1.out.2.2
  have g0b : (r.w == 0) = true := by simpa using g0
  by_cases gn : r.n = 0
  · rcases Nat.eq_zero_or_pos ns with e | hs
    · subst e
      have G : Hid (fldI 5 r = stat0 r) := Lib.hid (by simp [fldI, statOk, HND.out, HNS.out, *])
      clear HND HNS
      go_wp2_with fail
      go_ret
      exact ⟨by rw [G.out]; try rfl, by repeat (first | with_reducible exact HW.out | with_reducible refine Below.setCell ?_ (by first | omega | (dsimp only; omega)) _ | with_reducible refine Below.alloc ?_ (by have := HW.out.size; first | omega | (simp; omega)) _)⟩
    · have hs1 : ¬ (ns : Int) = 0 := by omega
      have hs2 : ¬ ns = 0 := by omega
      have hs3 : (ns : Int) > 0 := by omega
      have G : Hid (fldI 5 r = false) := Lib.hid (by simp [fldI, statOk, HND.out, HNS.out, *])
      clear HND HNS
      go_wp2_with fail
      go_ret
      exact ⟨by rw [G.out]; try rfl, by repeat (first | with_reducible exact HW.out | with_reducible refine Below.setCell ?_ (by first | omega | (dsimp only; omega)) _ | with_reducible refine Below.alloc ?_ (by have := HW.out.size; first | omega | (simp; omega)) _)⟩
  · have G : Hid (fldI 5 r = false) := Lib.hid (by simp [fldI, statOk, HND.out, HNS.out, *])
    clear HND HNS
    go_wp2_with fail
    go_ret
    exact ⟨by rw [G.out]; try rfl, by repeat (first | with_reducible exact HW.out | with_reducible refine Below.setCell ?_ (by first | omega | (dsimp only; omega)) _ | with_reducible refine Below.alloc ?_ (by have := HW.out.size; first | omega | (simp; omega)) _)⟩
set_option maxRecDepth 100000 in
set_option maxHeartbeats 1000000 in
theorem ref_12 {w : World} {r : Res} (g0 : r.w = 0) {y z : Value} (hy : Den 1 w y (byts r.ds)) (hz : Den 16 w z (strs r.ss)) :
    Calls Try.prog 7 #[.int .i64 12, .agg (r.cells y z).toArray] w fun e w' => e = .returned (.bool (fldI 12 r)) ∧ Below w.heap.size w w' := by
  obtain ⟨A, hA⟩ : ∃ A : Array Value, A = (r.cells y z).toArray := ⟨_, rfl⟩
  rw [← hA]
  have H1 : Hid (Holds (w.alloc (.cells A 29)) w.heap.size (r.cells y z).toArray) := Lib.hid (by rw [← hA]; exact Holds.new _ _ _)
  have HW : Hid (Below w.heap.size w (w.alloc (.cells A 29))) := Lib.hid ((Below.refl w.heap.size w).alloc (Nat.le_refl _) _)
  obtain ⟨p1, k1, rfl⟩ := hy.value
  obtain ⟨p2, k2, rfl⟩ := hz.value
  have n1 : (byts r.ds).length = r.ds.length := by simp [byts]
  have n2 : (strs r.ss).length = r.ss.length := by simp [strs]
  obtain ⟨nd, hnd⟩ : ∃ n, r.ds.length = n := ⟨_, rfl⟩
  obtain ⟨ns, hns⟩ : ∃ n, r.ss.length = n := ⟨_, rfl⟩
  rw [n1, n2, hnd, hns] at H1
  have bd : nd ≤ 140737488351232 := by have := hy.most.1; omega
  have bs : ns ≤ 140737488351232 := by have := hz.most.1; omega
  have HND := Lib.hid hnd
  have HNS := Lib.hid hns
  clear hy hz n1 n2 hnd hns
  clear hA
  have sq : ∀ w, (binOp .eql 27 (.agg #[.int .i64 r.s0, .int .i64 r.s1, .int .i64 r.s2, .int .i64 r.s3, .int .i64 r.s4, .int .i64 r.s5, .int .i64 r.s6]) (.agg #[.int .i64 0, .int .i64 0, .int .i64 0, .int .i64 0, .int .i64 0, .int .i64 0, .int .i64 0])).run Try.prog w = .ok (.bool (stat0 r)) w := fun w => stat_run r Res.zero w
  go_enter Try.func7, Try.ntmps7
  go_upto_region 1 with fail
  obtain ⟨W, hW⟩ : ∃ W, w.alloc (.cells A 29) = W := ⟨_, rfl⟩
  obtain ⟨B, hB⟩ : ∃ B, w.heap.size = B := ⟨_, rfl⟩
  have hle : w.heap.size ≤ B := by omega
  rw [hW] at H1 HW ⊢
  rw [hB] at H1 ⊢
  clear hW hB
  obtain ⟨u0, u1, u2, u3, u4, u5, u6, u7, u8, u9, u10⟩ := Res.at H1.out
  have f1 := H1.out.2.1
  have fl := H1.out.2.2
  have g0b : (r.w == 0) = true := by simpa using g0
  by_cases gn : r.n = 0
  · rcases Nat.eq_zero_or_pos ns with e | hs
    · subst e
      have G : Hid (fldI 12 r = stat0 r) := Lib.hid (by simp [fldI, statOk, HND.out, HNS.out, *])
      clear HND HNS
      go_wp2_with fail
      go_ret
      exact ⟨by rw [G.out]; try rfl, by repeat (first | with_reducible exact HW.out | with_reducible refine Below.setCell ?_ (by first | omega | (dsimp only; omega)) _ | with_reducible refine Below.alloc ?_ (by have := HW.out.size; first | omega | (simp; omega)) _)⟩
    · have hs1 : ¬ (ns : Int) = 0 := by omega
      have hs2 : ¬ ns = 0 := by omega
      have hs3 : (ns : Int) > 0 := by omega
      have G : Hid (fldI 12 r = false) := Lib.hid (by simp [fldI, statOk, HND.out, HNS.out, *])
      clear HND HNS
      go_wp2_with fail
      go_ret
      exact ⟨by rw [G.out]; try rfl, by repeat (first | with_reducible exact HW.out | with_reducible refine Below.setCell ?_ (by first | omega | (dsimp only; omega)) _ | with_reducible refine Below.alloc ?_ (by have := HW.out.size; first | omega | (simp; omega)) _)⟩
  · have G : Hid (fldI 12 r = false) := Lib.hid (by simp [fldI, statOk, HND.out, HNS.out, *])
    clear HND HNS
    go_wp2_with fail
    go_ret
    exact ⟨by rw [G.out]; try rfl, by repeat (first | with_reducible exact HW.out | with_reducible refine Below.setCell ?_ (by first | omega | (dsimp only; omega)) _ | with_reducible refine Below.alloc ?_ (by have := HW.out.size; first | omega | (simp; omega)) _)⟩
set_option maxRecDepth 100000 in
set_option maxHeartbeats 1000000 in
theorem ref_18 {w : World} {r : Res} (g0 : r.w = 0) {y z : Value} (hy : Den 1 w y (byts r.ds)) (hz : Den 16 w z (strs r.ss)) :
    Calls Try.prog 7 #[.int .i64 18, .agg (r.cells y z).toArray] w fun e w' => e = .returned (.bool (fldI 18 r)) ∧ Below w.heap.size w w' := by
  obtain ⟨A, hA⟩ : ∃ A : Array Value, A = (r.cells y z).toArray := ⟨_, rfl⟩
  rw [← hA]
  have H1 : Hid (Holds (w.alloc (.cells A 29)) w.heap.size (r.cells y z).toArray) := Lib.hid (by rw [← hA]; exact Holds.new _ _ _)
  have HW : Hid (Below w.heap.size w (w.alloc (.cells A 29))) := Lib.hid ((Below.refl w.heap.size w).alloc (Nat.le_refl _) _)
  obtain ⟨p1, k1, rfl⟩ := hy.value
  obtain ⟨p2, k2, rfl⟩ := hz.value
  have n1 : (byts r.ds).length = r.ds.length := by simp [byts]
  have n2 : (strs r.ss).length = r.ss.length := by simp [strs]
  obtain ⟨nd, hnd⟩ : ∃ n, r.ds.length = n := ⟨_, rfl⟩
  obtain ⟨ns, hns⟩ : ∃ n, r.ss.length = n := ⟨_, rfl⟩
  rw [n1, n2, hnd, hns] at H1
  have bd : nd ≤ 140737488351232 := by have := hy.most.1; omega
  have bs : ns ≤ 140737488351232 := by have := hz.most.1; omega
  have HND := Lib.hid hnd
  have HNS := Lib.hid hns
  clear hy hz n1 n2 hnd hns
  clear hA
  have sq : ∀ w, (binOp .eql 27 (.agg #[.int .i64 r.s0, .int .i64 r.s1, .int .i64 r.s2, .int .i64 r.s3, .int .i64 r.s4, .int .i64 r.s5, .int .i64 r.s6]) (.agg #[.int .i64 0, .int .i64 0, .int .i64 0, .int .i64 0, .int .i64 0, .int .i64 0, .int .i64 0])).run Try.prog w = .ok (.bool (stat0 r)) w := fun w => stat_run r Res.zero w
  go_enter Try.func7, Try.ntmps7
  go_upto_region 1 with fail
  obtain ⟨W, hW⟩ : ∃ W, w.alloc (.cells A 29) = W := ⟨_, rfl⟩
  obtain ⟨B, hB⟩ : ∃ B, w.heap.size = B := ⟨_, rfl⟩
  have hle : w.heap.size ≤ B := by omega
  rw [hW] at H1 HW ⊢
  rw [hB] at H1 ⊢
  clear hW hB
  obtain ⟨u0, u1, u2, u3, u4, u5, u6, u7, u8, u9, u10⟩ := Res.at H1.out
  have f1 := H1.out.2.1
  have fl := H1.out.2.2
  have g0b : (r.w == 0) = true := by simpa using g0
  by_cases gn : r.n = 0
  · rcases Nat.eq_zero_or_pos nd with e | hd
    · subst e
      have G : Hid (fldI 18 r = stat0 r) := Lib.hid (by simp [fldI, statOk, HND.out, HNS.out, *])
      clear HND HNS
      go_wp2_with fail
      go_ret
      exact ⟨by rw [G.out]; try rfl, by repeat (first | with_reducible exact HW.out | with_reducible refine Below.setCell ?_ (by first | omega | (dsimp only; omega)) _ | with_reducible refine Below.alloc ?_ (by have := HW.out.size; first | omega | (simp; omega)) _)⟩
    · have hd1 : ¬ (nd : Int) = 0 := by omega
      have hd2 : ¬ nd = 0 := by omega
      have hd3 : (nd : Int) > 0 := by omega
      have G : Hid (fldI 18 r = false) := Lib.hid (by simp [fldI, statOk, HND.out, HNS.out, *])
      clear HND HNS
      go_wp2_with fail
      go_ret
      exact ⟨by rw [G.out]; try rfl, by repeat (first | with_reducible exact HW.out | with_reducible refine Below.setCell ?_ (by first | omega | (dsimp only; omega)) _ | with_reducible refine Below.alloc ?_ (by have := HW.out.size; first | omega | (simp; omega)) _)⟩
  · have G : Hid (fldI 18 r = false) := Lib.hid (by simp [fldI, statOk, HND.out, HNS.out, *])
    clear HND HNS
    go_wp2_with fail
    go_ret
    exact ⟨by rw [G.out]; try rfl, by repeat (first | with_reducible exact HW.out | with_reducible refine Below.setCell ?_ (by first | omega | (dsimp only; omega)) _ | with_reducible refine Below.alloc ?_ (by have := HW.out.size; first | omega | (simp; omega)) _)⟩
set_option maxRecDepth 100000 in
set_option maxHeartbeats 1000000 in
theorem ref_14 {w : World} {r : Res} (g0 : r.w = 0) {y z : Value} (hy : Den 1 w y (byts r.ds)) (hz : Den 16 w z (strs r.ss)) :
    Calls Try.prog 7 #[.int .i64 14, .agg (r.cells y z).toArray] w fun e w' => e = .returned (.bool (fldI 14 r)) ∧ Below w.heap.size w w' := by
  obtain ⟨A, hA⟩ : ∃ A : Array Value, A = (r.cells y z).toArray := ⟨_, rfl⟩
  rw [← hA]
  have H1 : Hid (Holds (w.alloc (.cells A 29)) w.heap.size (r.cells y z).toArray) := Lib.hid (by rw [← hA]; exact Holds.new _ _ _)
  have HW : Hid (Below w.heap.size w (w.alloc (.cells A 29))) := Lib.hid ((Below.refl w.heap.size w).alloc (Nat.le_refl _) _)
  obtain ⟨p1, k1, rfl⟩ := hy.value
  obtain ⟨p2, k2, rfl⟩ := hz.value
  have n1 : (byts r.ds).length = r.ds.length := by simp [byts]
  have n2 : (strs r.ss).length = r.ss.length := by simp [strs]
  obtain ⟨nd, hnd⟩ : ∃ n, r.ds.length = n := ⟨_, rfl⟩
  obtain ⟨ns, hns⟩ : ∃ n, r.ss.length = n := ⟨_, rfl⟩
  rw [n1, n2, hnd, hns] at H1
  have bd : nd ≤ 140737488351232 := by have := hy.most.1; omega
  have bs : ns ≤ 140737488351232 := by have := hz.most.1; omega
  have HND := Lib.hid hnd
  have HNS := Lib.hid hns
  clear hy hz n1 n2 hnd hns
  clear hA
  have sq : ∀ w, (binOp .eql 27 (.agg #[.int .i64 r.s0, .int .i64 r.s1, .int .i64 r.s2, .int .i64 r.s3, .int .i64 r.s4, .int .i64 r.s5, .int .i64 r.s6]) (.agg #[.int .i64 0, .int .i64 0, .int .i64 0, .int .i64 0, .int .i64 0, .int .i64 0, .int .i64 0])).run Try.prog w = .ok (.bool (stat0 r)) w := fun w => stat_run r Res.zero w
  go_enter Try.func7, Try.ntmps7
  go_upto_region 1 with fail
  obtain ⟨W, hW⟩ : ∃ W, w.alloc (.cells A 29) = W := ⟨_, rfl⟩
  obtain ⟨B, hB⟩ : ∃ B, w.heap.size = B := ⟨_, rfl⟩
  have hle : w.heap.size ≤ B := by omega
  rw [hW] at H1 HW ⊢
  rw [hB] at H1 ⊢
  clear hW hB
  obtain ⟨u0, u1, u2, u3, u4, u5, u6, u7, u8, u9, u10⟩ := Res.at H1.out
  have f1 := H1.out.2.1
  have fl := H1.out.2.2
  have g0b : (r.w == 0) = true := by simpa using g0
  by_cases gn : r.n = 0
  · rcases Nat.eq_zero_or_pos nd with e | hd
    · subst e
      rcases Nat.eq_zero_or_pos ns with e | hs
      · subst e
        by_cases t0 : r.s0 < 1
        · have t0c : ¬ 1 ≤ r.s0 := by omega
          have t0d : ¬ r.s0 ≥ 1 := by omega
          have G : Hid (fldI 14 r = false) := Lib.hid (by simp [fldI, statOk, HND.out, HNS.out, *])
          clear HND HNS
          go_wp2_with fail
          go_ret
          exact ⟨by rw [G.out]; try rfl, by repeat (first | with_reducible exact HW.out | with_reducible refine Below.setCell ?_ (by first | omega | (dsimp only; omega)) _ | with_reducible refine Below.alloc ?_ (by have := HW.out.size; first | omega | (simp; omega)) _)⟩
        · have t0b : ¬ r.s0 < 1 := t0
          have t0c : 1 ≤ r.s0 := by omega
          have t0d : r.s0 ≥ 1 := by omega
          by_cases t1 : r.s1 < 1
          · have t1c : ¬ 1 ≤ r.s1 := by omega
            have t1d : ¬ r.s1 ≥ 1 := by omega
            have G : Hid (fldI 14 r = false) := Lib.hid (by simp [fldI, statOk, HND.out, HNS.out, *])
            clear HND HNS
            go_wp2_with fail
            go_ret
            exact ⟨by rw [G.out]; try rfl, by repeat (first | with_reducible exact HW.out | with_reducible refine Below.setCell ?_ (by first | omega | (dsimp only; omega)) _ | with_reducible refine Below.alloc ?_ (by have := HW.out.size; first | omega | (simp; omega)) _)⟩
          · have t1c : 1 ≤ r.s1 := by omega
            have t1d : r.s1 ≥ 1 := by omega
            by_cases t2 : 3 < r.s1
            · have t2c : ¬ r.s1 ≤ 3 := by omega
              have t2d : r.s1 > 3 := by omega
              have G : Hid (fldI 14 r = false) := Lib.hid (by simp [fldI, statOk, HND.out, HNS.out, *])
              clear HND HNS
              go_wp2_with fail
              go_ret
              exact ⟨by rw [G.out]; try rfl, by repeat (first | with_reducible exact HW.out | with_reducible refine Below.setCell ?_ (by first | omega | (dsimp only; omega)) _ | with_reducible refine Below.alloc ?_ (by have := HW.out.size; first | omega | (simp; omega)) _)⟩
            · have t2c : r.s1 ≤ 3 := by omega
              by_cases t3 : r.s2 < 0
              · have t3c : ¬ 0 ≤ r.s2 := by omega
                have t3d : ¬ r.s2 ≥ 0 := by omega
                have G : Hid (fldI 14 r = false) := Lib.hid (by simp [fldI, statOk, HND.out, HNS.out, *])
                clear HND HNS
                go_wp2_with fail
                go_ret
                exact ⟨by rw [G.out]; try rfl, by repeat (first | with_reducible exact HW.out | with_reducible refine Below.setCell ?_ (by first | omega | (dsimp only; omega)) _ | with_reducible refine Below.alloc ?_ (by have := HW.out.size; first | omega | (simp; omega)) _)⟩
              · have t3c : 0 ≤ r.s2 := by omega
                have t3d : r.s2 ≥ 0 := by omega
                by_cases t4 : 4095 < r.s2
                · have t4c : ¬ r.s2 ≤ 4095 := by omega
                  have t4d : r.s2 > 4095 := by omega
                  have G : Hid (fldI 14 r = false) := Lib.hid (by simp [fldI, statOk, HND.out, HNS.out, *])
                  clear HND HNS
                  go_wp2_with fail
                  go_ret
                  exact ⟨by rw [G.out]; try rfl, by repeat (first | with_reducible exact HW.out | with_reducible refine Below.setCell ?_ (by first | omega | (dsimp only; omega)) _ | with_reducible refine Below.alloc ?_ (by have := HW.out.size; first | omega | (simp; omega)) _)⟩
                · have t4c : r.s2 ≤ 4095 := by omega
                  have G : Hid (fldI 14 r = true) := Lib.hid (by simp [fldI, statOk, HND.out, HNS.out, *])
                  clear HND HNS
                  go_wp2_with fail
                  go_ret
                  exact ⟨by rw [G.out]; try rfl, by repeat (first | with_reducible exact HW.out | with_reducible refine Below.setCell ?_ (by first | omega | (dsimp only; omega)) _ | with_reducible refine Below.alloc ?_ (by have := HW.out.size; first | omega | (simp; omega)) _)⟩
      · have hs1 : ¬ (ns : Int) = 0 := by omega
        have hs2 : ¬ ns = 0 := by omega
        have hs3 : (ns : Int) > 0 := by omega
        have G : Hid (fldI 14 r = false) := Lib.hid (by simp [fldI, statOk, HND.out, HNS.out, *])
        clear HND HNS
        go_wp2_with fail
        go_ret
        exact ⟨by rw [G.out]; try rfl, by repeat (first | with_reducible exact HW.out | with_reducible refine Below.setCell ?_ (by first | omega | (dsimp only; omega)) _ | with_reducible refine Below.alloc ?_ (by have := HW.out.size; first | omega | (simp; omega)) _)⟩
    · have hd1 : ¬ (nd : Int) = 0 := by omega
      have hd2 : ¬ nd = 0 := by omega
      have hd3 : (nd : Int) > 0 := by omega
      have G : Hid (fldI 14 r = false) := Lib.hid (by simp [fldI, statOk, HND.out, HNS.out, *])
      clear HND HNS
      go_wp2_with fail
      go_ret
      exact ⟨by rw [G.out]; try rfl, by repeat (first | with_reducible exact HW.out | with_reducible refine Below.setCell ?_ (by first | omega | (dsimp only; omega)) _ | with_reducible refine Below.alloc ?_ (by have := HW.out.size; first | omega | (simp; omega)) _)⟩
  · have G : Hid (fldI 14 r = false) := Lib.hid (by simp [fldI, statOk, HND.out, HNS.out, *])
    clear HND HNS
    go_wp2_with fail
    go_ret
    exact ⟨by rw [G.out]; try rfl, by repeat (first | with_reducible exact HW.out | with_reducible refine Below.setCell ?_ (by first | omega | (dsimp only; omega)) _ | with_reducible refine Below.alloc ?_ (by have := HW.out.size; first | omega | (simp; omega)) _)⟩
set_option maxRecDepth 100000 in
set_option maxHeartbeats 1000000 in
theorem ref_other {w : World} {r : Res} (op : Int) (g0 : r.w = 0) (o3 : ¬ op = 3) (o6 : ¬ op = 6) (o7 : ¬ op = 7) (o5 : ¬ op = 5) (o12 : ¬ op = 12) (o18 : ¬ op = 18) (o14 : ¬ op = 14) {y z : Value} (hy : Den 1 w y (byts r.ds)) (hz : Den 16 w z (strs r.ss)) :
    Calls Try.prog 7 #[.int .i64 op, .agg (r.cells y z).toArray] w fun e w' => e = .returned (.bool (fldI op r)) ∧ Below w.heap.size w w' := by
  obtain ⟨A, hA⟩ : ∃ A : Array Value, A = (r.cells y z).toArray := ⟨_, rfl⟩
  rw [← hA]
  have H1 : Hid (Holds (w.alloc (.cells A 29)) w.heap.size (r.cells y z).toArray) := Lib.hid (by rw [← hA]; exact Holds.new _ _ _)
  have HW : Hid (Below w.heap.size w (w.alloc (.cells A 29))) := Lib.hid ((Below.refl w.heap.size w).alloc (Nat.le_refl _) _)
  obtain ⟨p1, k1, rfl⟩ := hy.value
  obtain ⟨p2, k2, rfl⟩ := hz.value
  have n1 : (byts r.ds).length = r.ds.length := by simp [byts]
  have n2 : (strs r.ss).length = r.ss.length := by simp [strs]
  obtain ⟨nd, hnd⟩ : ∃ n, r.ds.length = n := ⟨_, rfl⟩
  obtain ⟨ns, hns⟩ : ∃ n, r.ss.length = n := ⟨_, rfl⟩
  rw [n1, n2, hnd, hns] at H1
  have bd : nd ≤ 140737488351232 := by have := hy.most.1; omega
  have bs : ns ≤ 140737488351232 := by have := hz.most.1; omega
  have HND := Lib.hid hnd
  have HNS := Lib.hid hns
  clear hy hz n1 n2 hnd hns
  clear hA
  have sq : ∀ w, (binOp .eql 27 (.agg #[.int .i64 r.s0, .int .i64 r.s1, .int .i64 r.s2, .int .i64 r.s3, .int .i64 r.s4, .int .i64 r.s5, .int .i64 r.s6]) (.agg #[.int .i64 0, .int .i64 0, .int .i64 0, .int .i64 0, .int .i64 0, .int .i64 0, .int .i64 0])).run Try.prog w = .ok (.bool (stat0 r)) w := fun w => stat_run r Res.zero w
  go_enter Try.func7, Try.ntmps7
  go_upto_region 1 with fail
  obtain ⟨W, hW⟩ : ∃ W, w.alloc (.cells A 29) = W := ⟨_, rfl⟩
  obtain ⟨B, hB⟩ : ∃ B, w.heap.size = B := ⟨_, rfl⟩
  have hle : w.heap.size ≤ B := by omega
  rw [hW] at H1 HW ⊢
  rw [hB] at H1 ⊢
  clear hW hB
  obtain ⟨u0, u1, u2, u3, u4, u5, u6, u7, u8, u9, u10⟩ := Res.at H1.out
  have f1 := H1.out.2.1
  have fl := H1.out.2.2
  have g0b : (r.w == 0) = true := by simpa using g0
  have e3 : (op == 3) = false := by simpa using o3
  have e6 : (op == 6) = false := by simpa using o6
  have e7 : (op == 7) = false := by simpa using o7
  have e5 : (op == 5) = false := by simpa using o5
  have e12 : (op == 12) = false := by simpa using o12
  have e18 : (op == 18) = false := by simpa using o18
  have e14 : (op == 14) = false := by simpa using o14
  by_cases gn : r.n = 0
  · rcases Nat.eq_zero_or_pos nd with e | hd
    · subst e
      rcases Nat.eq_zero_or_pos ns with e | hs
      · subst e
        have G : Hid (fldI op r = stat0 r) := Lib.hid (by simp [fldI, statOk, HND.out, HNS.out, *])
        clear HND HNS
        go_wp2_with fail
        go_ret
        exact ⟨by rw [G.out]; try rfl, by repeat (first | with_reducible exact HW.out | with_reducible refine Below.setCell ?_ (by first | omega | (dsimp only; omega)) _ | with_reducible refine Below.alloc ?_ (by have := HW.out.size; first | omega | (simp; omega)) _)⟩
      · have hs1 : ¬ (ns : Int) = 0 := by omega
        have hs2 : ¬ ns = 0 := by omega
        have hs3 : (ns : Int) > 0 := by omega
        have G : Hid (fldI op r = false) := Lib.hid (by simp [fldI, statOk, HND.out, HNS.out, *])
        clear HND HNS
        go_wp2_with fail
        go_ret
        exact ⟨by rw [G.out]; try rfl, by repeat (first | with_reducible exact HW.out | with_reducible refine Below.setCell ?_ (by first | omega | (dsimp only; omega)) _ | with_reducible refine Below.alloc ?_ (by have := HW.out.size; first | omega | (simp; omega)) _)⟩
    · have hd1 : ¬ (nd : Int) = 0 := by omega
      have hd2 : ¬ nd = 0 := by omega
      have hd3 : (nd : Int) > 0 := by omega
      have G : Hid (fldI op r = false) := Lib.hid (by simp [fldI, statOk, HND.out, HNS.out, *])
      clear HND HNS
      go_wp2_with fail
      go_ret
      exact ⟨by rw [G.out]; try rfl, by repeat (first | with_reducible exact HW.out | with_reducible refine Below.setCell ?_ (by first | omega | (dsimp only; omega)) _ | with_reducible refine Below.alloc ?_ (by have := HW.out.size; first | omega | (simp; omega)) _)⟩
  · have G : Hid (fldI op r = false) := Lib.hid (by simp [fldI, statOk, HND.out, HNS.out, *])
    clear HND HNS
    go_wp2_with fail
    go_ret
    exact ⟨by rw [G.out]; try rfl, by repeat (first | with_reducible exact HW.out | with_reducible refine Below.setCell ?_ (by first | omega | (dsimp only; omega)) _ | with_reducible refine Below.alloc ?_ (by have := HW.out.size; first | omega | (simp; omega)) _)⟩
set_option maxRecDepth 100000 in
set_option maxHeartbeats 1000000 in
theorem ref_bad {w : World} {r : Res} (op : Int) (g0 : ¬ r.w = 0) {y z : Value} (hy : Den 1 w y (byts r.ds)) (hz : Den 16 w z (strs r.ss)) :
    Calls Try.prog 7 #[.int .i64 op, .agg (r.cells y z).toArray] w fun e w' => e = .returned (.bool (fldI op r)) ∧ Below w.heap.size w w' := by
  obtain ⟨A, hA⟩ : ∃ A : Array Value, A = (r.cells y z).toArray := ⟨_, rfl⟩
  rw [← hA]
  have H1 : Hid (Holds (w.alloc (.cells A 29)) w.heap.size (r.cells y z).toArray) := Lib.hid (by rw [← hA]; exact Holds.new _ _ _)
  have HW : Hid (Below w.heap.size w (w.alloc (.cells A 29))) := Lib.hid ((Below.refl w.heap.size w).alloc (Nat.le_refl _) _)
  have DY := Lib.hid (hy.below HW.out)
  have DZ := Lib.hid (hz.below HW.out)
  obtain ⟨p1, k1, rfl⟩ := hy.value
  obtain ⟨p2, k2, rfl⟩ := hz.value
  have n1 : (byts r.ds).length = r.ds.length := by simp [byts]
  have n2 : (strs r.ss).length = r.ss.length := by simp [strs]
  obtain ⟨nd, hnd⟩ : ∃ n, r.ds.length = n := ⟨_, rfl⟩
  obtain ⟨ns, hns⟩ : ∃ n, r.ss.length = n := ⟨_, rfl⟩
  rw [n1, n2, hnd, hns] at H1
  rw [n1, hnd] at DY
  rw [n2, hns] at DZ
  have bd : nd ≤ 140737488351232 := by have := hy.most.1; omega
  have bs : ns ≤ 140737488351232 := by have := hz.most.1; omega
  have HND := Lib.hid hnd
  have HNS := Lib.hid hns
  clear hy hz n1 n2 hnd hns
  have sq : ∀ w, (binOp .eql 27 (.agg #[.int .i64 r.s0, .int .i64 r.s1, .int .i64 r.s2, .int .i64 r.s3, .int .i64 r.s4, .int .i64 r.s5, .int .i64 r.s6]) (.agg #[.int .i64 0, .int .i64 0, .int .i64 0, .int .i64 0, .int .i64 0, .int .i64 0, .int .i64 0])).run Try.prog w = .ok (.bool (stat0 r)) w := fun w => stat_run r Res.zero w
  go_enter Try.func7, Try.ntmps7
  have HA := Lib.hid hA
  clear hA
  go_upto_region 1 with fail
  obtain ⟨W, hW⟩ : ∃ W, w.alloc (.cells A 29) = W := ⟨_, rfl⟩
  obtain ⟨B, hB⟩ : ∃ B, w.heap.size = B := ⟨_, rfl⟩
  have hle : w.heap.size ≤ B := by omega
  rw [hW] at H1 HW DY DZ ⊢
  rw [hB] at H1 ⊢
  clear hW hB
  obtain ⟨u0, u1, u2, u3, u4, u5, u6, u7, u8, u9, u10⟩ := Res.at H1.out
  have f1 := H1.out.2.1
  have fl := H1.out.2.2
  have g0b : (r.w == 0) = false := by simpa using g0
  obtain ⟨V, hV⟩ : ∃ V, V = sameI r r.why := ⟨_, rfl⟩
  have HV := Lib.hid hV.symm
  have G : Hid (fldI op r = V) := Lib.hid (by rw [hV, same_why]; simp [fldI, g0])
  clear hV
  go_wp2_with (first | (go_at_call 13; refine (result_any (b := r.why) DY.out DZ.out (Den.nil 1 _) (Den.nil 16 _)).mono ?_; rintro e w5 ⟨rfl, b5⟩; rw [HV.out]; have HW := Lib.hid (HW.out.trans (b5.mono HW.out.size)); clear b5))
  go_ret
  exact ⟨by rw [G.out]; rfl, by repeat (first | with_reducible exact HW.out | with_reducible refine Below.setCell ?_ (by first | omega | (dsimp only; omega)) _ | with_reducible refine Below.alloc ?_ (by have := HW.out.size; first | omega | (simp; omega)) _)⟩
theorem fields_any {w : World} (op : Int) {r : Res} {y z : Value} (hy : Den 1 w y (byts r.ds)) (hz : Den 16 w z (strs r.ss)) :
    Calls Try.prog 6 #[.int .i64 op, .agg (r.cells y z).toArray] w fun e w' => e = .returned (.bool (fldI op r)) ∧ Below w.heap.size w w' := by
  by_cases g0 : r.w = 0
  · by_cases o3 : op = 3
    · subst o3; exact fields_3 g0 hy hz
    by_cases o6 : op = 6
    · subst o6; exact fields_6 g0 hy hz
    by_cases o7 : op = 7
    · subst o7; exact fields_7 g0 hy hz
    by_cases o5 : op = 5
    · subst o5; exact fields_5 g0 hy hz
    by_cases o12 : op = 12
    · subst o12; exact fields_12 g0 hy hz
    by_cases o18 : op = 18
    · subst o18; exact fields_18 g0 hy hz
    by_cases o14 : op = 14
    · subst o14; exact fields_14 g0 hy hz
    exact fields_other op g0 o3 o6 o7 o5 o12 o18 o14 hy hz
  · exact fields_bad op g0 hy hz
theorem ref_any {w : World} (op : Int) {r : Res} {y z : Value} (hy : Den 1 w y (byts r.ds)) (hz : Den 16 w z (strs r.ss)) :
    Calls Try.prog 7 #[.int .i64 op, .agg (r.cells y z).toArray] w fun e w' => e = .returned (.bool (fldI op r)) ∧ Below w.heap.size w w' := by
  by_cases g0 : r.w = 0
  · by_cases o3 : op = 3
    · subst o3; exact ref_3 g0 hy hz
    by_cases o6 : op = 6
    · subst o6; exact ref_6 g0 hy hz
    by_cases o7 : op = 7
    · subst o7; exact ref_7 g0 hy hz
    by_cases o5 : op = 5
    · subst o5; exact ref_5 g0 hy hz
    by_cases o12 : op = 12
    · subst o12; exact ref_12 g0 hy hz
    by_cases o18 : op = 18
    · subst o18; exact ref_18 g0 hy hz
    by_cases o14 : op = 14
    · subst o14; exact ref_14 g0 hy hz
    exact ref_other op g0 o3 o6 o7 o5 o12 o18 o14 hy hz
  · exact ref_bad op g0 hy hz
end Go.Proofs.Ytjefjonogbkknaa
