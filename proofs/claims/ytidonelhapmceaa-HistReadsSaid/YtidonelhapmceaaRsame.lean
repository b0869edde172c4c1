/- The walk of the reference's Same. -/
import Derived.Test.YtidonelhapmceaaKeep
namespace Go.Proofs.Ytidonelhapmceaa
open Go.RowKit

set_option maxRecDepth 100000 in
set_option maxHeartbeats 8000000 in
theorem rsame_any {w : World} {a b : Res} {y z y' z' : Value} (hy : Den 1 w y (byts a.ds)) (hz : Den 16 w z (strs a.ss)) (hy' : Den 1 w y' (byts b.ds)) (hz' : Den 16 w z' (strs b.ss)) :
    Calls Try.prog 17 #[.agg (a.cells y z).toArray, .agg (b.cells y' z').toArray] w fun e w' => e = .returned (.bool (sameI a b)) ∧ Below w.heap.size w w' := by
  obtain ⟨A, hA⟩ : ∃ A : Array Value, A = (a.cells y z).toArray := ⟨_, rfl⟩
  obtain ⟨B, hB⟩ : ∃ B : Array Value, B = (b.cells y' z').toArray := ⟨_, rfl⟩
  rw [← hA, ← hB]
  have H1 : Hid (Holds ((w.alloc (.cells A 33)).alloc (.cells B 33)) w.heap.size (a.cells y z).toArray) := Lib.hid (by rw [← hA]; exact (Holds.new _ _ _).alloc _)
  have H2 : Hid (Holds ((w.alloc (.cells A 33)).alloc (.cells B 33)) (w.heap.size + 1) (b.cells y' z').toArray) := Lib.hid (by
    have := Holds.new (w.alloc (.cells A 33)) B 33
    rw [← hB]
    simpa using this)
  have HW : Hid (Below w.heap.size w ((w.alloc (.cells A 33)).alloc (.cells B 33))) := Lib.hid (((Below.refl w.heap.size w).alloc (Nat.le_refl _) _).alloc (by simp) _)
  have DY := Lib.hid (hy.below HW.out)
  have DZ := Lib.hid (hz.below HW.out)
  have DY' := Lib.hid (hy'.below HW.out)
  have DZ' := Lib.hid (hz'.below HW.out)
  obtain ⟨p1, k1, rfl⟩ := hy.value
  obtain ⟨p2, k2, rfl⟩ := hz.value
  obtain ⟨p3, k3, rfl⟩ := hy'.value
  obtain ⟨p4, k4, rfl⟩ := hz'.value
  obtain ⟨u0, u1, u2, u3, u4, u5, u6, u7, u8, u9, u10⟩ := Res.at H1.out
  obtain ⟨v0, v1, v2, v3, v4, v5, v6, v7, v8, v9, v10⟩ := Res.at H2.out
  have sq := stat_run a b
  have sq' := stat_run' a b
  clear hA hB hy hz hy' hz'
  have q1 := DY.out.convert 26 5 Try.underlying26 Try.underlying5 9 Try.underlying9
  have q2 := DY'.out.convert 26 5 Try.underlying26 Try.underlying5 9 Try.underlying9
  have q3 := Lib.strOfNums_toList a.ds
  have q4 := Lib.strOfNums_toList b.ds
  have la : (strs a.ss).length = a.ss.length := by simp [strs]
  have lb : (strs b.ss).length = b.ss.length := by simp [strs]
  rw [la] at u3 DZ
  rw [lb] at v3 DZ'
  have ma := DZ.out.most.2
  unfold maxLen at ma
  clear la lb
  go_enter Try.func17, Try.ntmps17
  by_cases g1 : a.w = b.w
  · by_cases g2 : a.n = b.n
    · by_cases g3 : (Lib.bytesOf a.ds == Lib.bytesOf b.ds) = true
      · by_cases g4 : a.ss.length = b.ss.length
        · by_cases g5 : statI a b = true
          · have G : Hid (sameI a b = decide (a.ss = b.ss)) := Lib.hid (by simp [sameI, g1, g2, g3, g5])
            have HL := Lib.hid g4
            have i4 : (a.ss.length : Int) = (b.ss.length : Int) := by omega
            rw [← g4] at v3 DZ'
            clear g4
            have WW : Hid (Below w.heap.size w ((w.alloc (.cells A 33)).alloc (.cells B 33))) := HW
            have HA := Lib.hid H1.out
            go_wp2_with fail
            generalize hW : (w.alloc (.cells A 33)).alloc (.cells B 33) = W at *
            clear hW
            go_loopw [5] (fun iv wr => ∃ i : Nat, i ≤ a.ss.length ∧ iv = .int .i64 i ∧ Hid ((∀ j : Nat, j < i → a.ss[j]? = b.ss[j]?) ∧ Below W.heap.size W wr)) (fun iv _ => a.ss.length - (intOf iv).toNat)
            case atStart => exact ⟨0, by omega, rfl, fun j h => absurd h (by omega), Below.refl _ _⟩
            case round =>
              obtain ⟨i, hi, rfl, HI⟩ := hrel
              have hlt1 := H1.out.lt
              have hlt2 := H2.out.lt
              have w3 : wr.cell? ⟨w.heap.size, 3, none⟩ = some (.slice p2 a.ss.length k2) := (HI.out.2.cell (p := ⟨w.heap.size, 3, none⟩) hlt1).trans u3
              have w3' : wr.cell? ⟨w.heap.size + 1, 3, none⟩ = some (.slice p4 a.ss.length k4) := (HI.out.2.cell (p := ⟨w.heap.size + 1, 3, none⟩) hlt2).trans v3
              clear hlt1 hlt2
              by_cases hlt : i < a.ss.length
              · have h0 : (0 : Int) ≤ (i : Int) := by omega
                have h1 : (i : Int) < (a.ss.length : Int) := by omega
                have hib : i < b.ss.length := by have := HL.out; omega
                obtain ⟨x, hx⟩ : ∃ x, a.ss[i]'hlt = x := ⟨_, rfl⟩
                obtain ⟨y, hy⟩ : ∃ y, b.ss[i]'hib = y := ⟨_, rfl⟩
                have HX := Lib.hid (show a.ss[i]? = some x by rw [List.getElem?_eq_getElem hlt, hx])
                have HY := Lib.hid (show b.ss[i]? = some y by rw [List.getElem?_eq_getElem hib, hy])
                obtain ⟨bu, ou, rfl, cu⟩ := (DZ.out.below HI.out.2).at (by omega)
                obtain ⟨bv, ov, rfl, cv⟩ := (DZ'.out.below HI.out.2).at (by omega)
                have c1 : wr.cell? ⟨bu, ou + i, none⟩ = some (.string x) := by rw [cu i hlt, strs_get hlt, hx]
                have c2 : wr.cell? ⟨bv, ov + i, none⟩ = some (.string y) := by rw [cv i hlt, strs_get hib, hy]
                clear cu cv hx hy hib
                by_cases hxy : x = y
                · subst hxy
                  go_wp2_with fail
                  go_quiet (fail)
                  go_wp2_with fail
                  go_roundw
                  case rel => exact ⟨i + 1, by omega, by go_num, fun j hj => by
                    by_cases e : j = i
                    · subst e; rw [HX.out, HY.out]
                    · exact HI.out.1 j (by omega), below_drewN HI.out.2 nq⟩
                  case measure => simp [intOf]; omega
                · have d1 : (x.toList == y.toList) = false := beq_eq_false_iff_ne.2 (fun e => hxy (bytes_inj e))
                  have HXY := Lib.hid hxy
                  clear hxy
                  go_wp2_with fail
                  go_quiet (fail)
                  go_wp2_with fail
                  go_ret
                  refine ⟨?_, WW.out.trans ((below_drewN HI.out.2 nq).mono WW.out.size)⟩
                  have hne : ¬ a.ss = b.ss := fun e => by
                    have := HX.out
                    rw [e, HY.out] at this
                    exact HXY.out (Option.some.inj this).symm
                  rw [G.out, decide_eq_false hne]
                  rfl
              · obtain rfl : i = a.ss.length := by omega
                have e1 : ¬ (a.ss.length : Int) < (a.ss.length : Int) := by omega
                go_wp2_with fail
                go_ret
                have he : a.ss = b.ss := List.ext_getElem? fun j => by
                  rcases Nat.lt_or_ge j a.ss.length with h | h
                  · exact HI.out.1 j h
                  · have := HL.out
                    rw [List.getElem?_eq_none h, List.getElem?_eq_none (by omega)]
                exact ⟨by rw [G.out, decide_eq_true he]; rfl, WW.out.trans (HI.out.2.mono WW.out.size)⟩
          · have G : Hid (sameI a b = false) := Lib.hid (by simp [sameI, g5])
            have g5 : statI a b = false := by simpa using g5
            have i4 : (a.ss.length : Int) = (b.ss.length : Int) := by omega
            go_wp2_with fail
            go_ret
            exact ⟨by rw [G.out]; rfl, HW.out⟩
        · have G : Hid (sameI a b = false) := Lib.hid (by
            have : ¬ a.ss = b.ss := fun e => g4 (by rw [e])
            simp [sameI, this])
          have d4 : ((a.ss.length : Int) != (b.ss.length : Int)) = true := by rw [bne_iff_ne]; omega
          have d4' : ¬ (a.ss.length : Int) = (b.ss.length : Int) := by omega
          go_wp2_with fail
          go_ret
          exact ⟨by rw [G.out]; rfl, HW.out⟩
      · have G : Hid (sameI a b = false) := Lib.hid (by simp [sameI, g3])
        have g3 : (Lib.bytesOf a.ds == Lib.bytesOf b.ds) = false := by simpa using g3
        go_wp2_with fail
        go_ret
        exact ⟨by rw [G.out]; rfl, HW.out⟩
    · have G : Hid (sameI a b = false) := Lib.hid (by simp [sameI, g2])
      have d2 : (a.n == b.n) = false := beq_eq_false_iff_ne.2 g2
      have d2' : (a.n != b.n) = true := bne_iff_ne.2 g2
      go_wp2_with fail
      go_ret
      exact ⟨by rw [G.out]; rfl, HW.out⟩
  · have G : Hid (sameI a b = false) := Lib.hid (by simp [sameI, g1])
    have d1 : (a.w == b.w) = false := beq_eq_false_iff_ne.2 g1
    have d1' : (a.w != b.w) = true := bne_iff_ne.2 g1
    go_wp2_with fail
    go_ret
    exact ⟨by rw [G.out]; rfl, HW.out⟩
end Go.Proofs.Ytidonelhapmceaa
