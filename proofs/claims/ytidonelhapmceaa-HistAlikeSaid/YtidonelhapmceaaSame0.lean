/- Results held against one another, whatever their slices' elements take. -/
import Derived.Test.YtidonelhapmceaaSame
namespace Go.Proofs.Ytidonelhapmceaa
open Go.RowKit

set_option maxRecDepth 100000 in
set_option maxHeartbeats 4000000 in
theorem equals0_any {m1 m2 : Nat} {w : World} {u v : Value} {a b : List ByteArray} (hu : Den m1 w u (strs a)) (hv : Den m2 w v (strs b)) : Calls Try.prog 24 #[u, v] w fun e w' => e = .returned (.bool (decide (a = b))) ∧ Below w.heap.size w w' := by
  obtain ⟨p, c, rfl⟩ := hu.value
  obtain ⟨q, d, rfl⟩ := hv.value
  have la : (strs a).length = a.length := by simp [strs]
  have lb : (strs b).length = b.length := by simp [strs]
  rw [la] at hu ⊢
  rw [lb] at hv ⊢
  have ma := hu.most.2
  unfold maxLen at ma
  clear la lb
  by_cases hl : a.length = b.length
  · rw [← hl] at hv ⊢
    have HU := Lib.hid hu
    have HV := Lib.hid hv
    have HL := Lib.hid hl
    clear hu hv hl
    go_enter Try.func24, Try.ntmps24
    go_wp2_with fail
    go_loopw [13] (fun iv wr => ∃ i : Nat, i ≤ a.length ∧ iv = .int .i64 i ∧ Hid ((∀ j : Nat, j < i → a[j]? = b[j]?) ∧ Below w.heap.size w wr)) (fun iv _ => a.length - (intOf iv).toNat)
    case atStart => exact ⟨0, by omega, rfl, fun j h => absurd h (by omega), Below.refl _ _⟩
    case round =>
      obtain ⟨i, hi, rfl, HI⟩ := hrel
      by_cases hlt : i < a.length
      · have h0 : (0 : Int) ≤ (i : Int) := by omega
        have h1 : (i : Int) < (a.length : Int) := by omega
        have hib : i < b.length := by have := HL.out; omega
        obtain ⟨x, hx⟩ : ∃ x, a[i]'hlt = x := ⟨_, rfl⟩
        obtain ⟨y, hy⟩ : ∃ y, b[i]'hib = y := ⟨_, rfl⟩
        have HX := Lib.hid (show a[i]? = some x by rw [List.getElem?_eq_getElem hlt, hx])
        have HY := Lib.hid (show b[i]? = some y by rw [List.getElem?_eq_getElem hib, hy])
        obtain ⟨bu, ou, rfl, cu⟩ := (HU.out.below HI.out.2).at (by omega)
        obtain ⟨bv, ov, rfl, cv⟩ := (HV.out.below HI.out.2).at (by omega)
        have c1 : wr.cell? ⟨bu, ou + i, none⟩ = some (.string x) := by rw [cu i hlt, strs_get hlt, hx]
        have c2 : wr.cell? ⟨bv, ov + i, none⟩ = some (.string y) := by rw [cv i hlt, strs_get hib, hy]
        clear cu cv hx hy hib
        by_cases hxy : x = y
        · subst hxy
          go_wp2_with fail
          go_quiet (fail)
          go_wp2_with fail
          go_roundw
          case rel => exact ⟨i + 1, by omega, by go_num, fun j hj => by
            by_cases e : j = i
            · subst e; rw [HX.out, HY.out]
            · exact HI.out.1 j (by omega), below_drewN HI.out.2 nq⟩
          case measure => simp [intOf]; omega
        · have d1 : (x.toList == y.toList) = false := beq_eq_false_iff_ne.2 (fun e => hxy (bytes_inj e))
          have HXY := Lib.hid hxy
          clear hxy
          go_wp2_with fail
          go_quiet (fail)
          go_wp2_with fail
          go_ret
          refine ⟨?_, below_drewN HI.out.2 nq⟩
          have hne : ¬ a = b := fun e => by
            have := HX.out
            rw [e, HY.out] at this
            exact HXY.out (Option.some.inj this).symm
          rw [decide_eq_false hne]
          rfl
      · obtain rfl : i = a.length := by omega
        have e1 : ¬ (a.length : Int) < (a.length : Int) := by omega
        go_wp2_with fail
        go_ret
        have he : a = b := List.ext_getElem? fun j => by
          rcases Nat.lt_or_ge j a.length with h | h
          · exact HI.out.1 j h
          · have := HL.out
            rw [List.getElem?_eq_none h, List.getElem?_eq_none (by omega)]
        exact ⟨by rw [decide_eq_true he]; rfl, HI.out.2⟩
  · have hl' : ¬ (a.length : Int) = (b.length : Int) := by omega
    have d1 : ((a.length : Int) != (b.length : Int)) = true := by rw [bne_iff_ne]; omega
    have HL := Lib.hid hl
    clear hu hv hl
    go_enter Try.func24, Try.ntmps24
    go_wp2_with fail
    go_ret
    exact ⟨by rw [decide_eq_false (fun e => HL.out (by rw [e]))]; rfl, Below.refl _ _⟩

set_option maxRecDepth 100000 in
theorem bytes0_any {m1 m2 : Nat} {w : World} {u v : Value} {a b : List Int} (hu : Den m1 w u (byts a)) (hv : Den m2 w v (byts b)) : Calls Try.prog 23 #[u, v] w fun e w' => e = .returned (.bool (Lib.bytesOf a == Lib.bytesOf b)) ∧ Below w.heap.size w w' := by
  obtain ⟨p, c, rfl⟩ := hu.value
  obtain ⟨q, d, rfl⟩ := hv.value
  have e1 := hu.convert 26 5 Try.underlying26 Try.underlying5 9 Try.underlying9
  have e2 := hv.convert 26 5 Try.underlying26 Try.underlying5 9 Try.underlying9
  rw [← Lib.strOfNums_toList, ← Lib.strOfNums_toList]
  clear hu hv
  go_enter Try.func23, Try.ntmps23
  go_wp2_with fail
  go_ret
  exact ⟨rfl, Below.refl _ _⟩

set_option maxRecDepth 100000 in
set_option maxHeartbeats 8000000 in
theorem same0_any {m1 m2 m3 m4 : Nat} {w : World} {a b : Res} {y z y' z' : Value} (hy : Den m1 w y (byts a.ds)) (hz : Den m2 w z (strs a.ss)) (hy' : Den m3 w y' (byts b.ds)) (hz' : Den m4 w z' (strs b.ss)) :
    Calls Try.prog 16 #[.agg (a.cells y z).toArray, .agg (b.cells y' z').toArray] w fun e w' => e = .returned (.bool (sameI a b)) ∧ Below w.heap.size w w' := by
  obtain ⟨A, hA⟩ : ∃ A : Array Value, A = (a.cells y z).toArray := ⟨_, rfl⟩
  obtain ⟨B, hB⟩ : ∃ B : Array Value, B = (b.cells y' z').toArray := ⟨_, rfl⟩
  rw [← hA, ← hB]
  have H1 : Hid (Holds ((w.alloc (.cells A 33)).alloc (.cells B 33)) w.heap.size (a.cells y z).toArray) := Lib.hid (by rw [← hA]; exact (Holds.new _ _ _).alloc _)
  have H2 : Hid (Holds ((w.alloc (.cells A 33)).alloc (.cells B 33)) (w.heap.size + 1) (b.cells y' z').toArray) := Lib.hid (by
    have := Holds.new (w.alloc (.cells A 33)) B 33
    rw [← hB]
    simpa using this)
  have HW : Hid (Below w.heap.size w ((w.alloc (.cells A 33)).alloc (.cells B 33))) := Lib.hid (((Below.refl w.heap.size w).alloc (Nat.le_refl _) _).alloc (by simp) _)
  have DY := Lib.hid (hy.below HW.out)
  have DZ := Lib.hid (hz.below HW.out)
  have DY' := Lib.hid (hy'.below HW.out)
  have DZ' := Lib.hid (hz'.below HW.out)
  obtain ⟨p1, k1, rfl⟩ := hy.value
  obtain ⟨p2, k2, rfl⟩ := hz.value
  obtain ⟨p3, k3, rfl⟩ := hy'.value
  obtain ⟨p4, k4, rfl⟩ := hz'.value
  obtain ⟨u0, u1, u2, u3, u4, u5, u6, u7, u8, u9, u10⟩ := Res.at H1.out
  obtain ⟨v0, v1, v2, v3, v4, v5, v6, v7, v8, v9, v10⟩ := Res.at H2.out
  have sq := stat_run a b
  have sq' := stat_run' a b
  clear hA hB hy hz hy' hz'
  go_enter Try.func16, Try.ntmps16
  by_cases g1 : a.w = b.w
  · by_cases g2 : a.n = b.n
    · by_cases g3 : (Lib.bytesOf a.ds == Lib.bytesOf b.ds) = true
      · by_cases g4 : a.ss = b.ss
        · have G : Hid (sameI a b = statI a b) := Lib.hid (by simp [sameI, g1, g2, g3, g4])
          have G4 := Lib.hid (decide_eq_true g4)
          have G3 := Lib.hid g3
          clear g3
          clear g4
          go_wp2_with (first | (go_at_call 23; refine (bytes0_any DY.out DY'.out).mono ?_; rintro e w5 ⟨rfl, b5⟩; rw [G3.out]; have HW := Lib.hid (HW.out.trans (b5.mono HW.out.size)); have H1 := Lib.hid (H1.out.below b5); have H2 := Lib.hid (H2.out.below b5); have DY := Lib.hid (DY.out.below b5); have DZ := Lib.hid (DZ.out.below b5); have DY' := Lib.hid (DY'.out.below b5); have DZ' := Lib.hid (DZ'.out.below b5); obtain ⟨u0, u1, u2, u3, u4, u5, u6, u7, u8, u9, u10⟩ := Res.at H1.out; obtain ⟨v0, v1, v2, v3, v4, v5, v6, v7, v8, v9, v10⟩ := Res.at H2.out; clear b5) | (go_at_call 24; refine (equals0_any DZ.out DZ'.out).mono ?_; rintro e w5 ⟨rfl, b5⟩; rw [G4.out]; have HW := Lib.hid (HW.out.trans (b5.mono HW.out.size)); have H1 := Lib.hid (H1.out.below b5); have H2 := Lib.hid (H2.out.below b5); have DY := Lib.hid (DY.out.below b5); have DZ := Lib.hid (DZ.out.below b5); have DY' := Lib.hid (DY'.out.below b5); have DZ' := Lib.hid (DZ'.out.below b5); obtain ⟨u0, u1, u2, u3, u4, u5, u6, u7, u8, u9, u10⟩ := Res.at H1.out; obtain ⟨v0, v1, v2, v3, v4, v5, v6, v7, v8, v9, v10⟩ := Res.at H2.out; clear b5))
          go_ret
          exact ⟨by rw [G.out]; rfl, HW.out⟩
        · have G : Hid (sameI a b = false) := Lib.hid (by simp [sameI, g4])
          have G4 := Lib.hid (decide_eq_false g4)
          clear g4
          have G3 := Lib.hid g3
          clear g3
          go_wp2_with (first | (go_at_call 23; refine (bytes0_any DY.out DY'.out).mono ?_; rintro e w5 ⟨rfl, b5⟩; rw [G3.out]; have HW := Lib.hid (HW.out.trans (b5.mono HW.out.size)); have H1 := Lib.hid (H1.out.below b5); have H2 := Lib.hid (H2.out.below b5); have DY := Lib.hid (DY.out.below b5); have DZ := Lib.hid (DZ.out.below b5); have DY' := Lib.hid (DY'.out.below b5); have DZ' := Lib.hid (DZ'.out.below b5); obtain ⟨u0, u1, u2, u3, u4, u5, u6, u7, u8, u9, u10⟩ := Res.at H1.out; obtain ⟨v0, v1, v2, v3, v4, v5, v6, v7, v8, v9, v10⟩ := Res.at H2.out; clear b5) | (go_at_call 24; refine (equals0_any DZ.out DZ'.out).mono ?_; rintro e w5 ⟨rfl, b5⟩; rw [G4.out]; have HW := Lib.hid (HW.out.trans (b5.mono HW.out.size)); have H1 := Lib.hid (H1.out.below b5); have H2 := Lib.hid (H2.out.below b5); have DY := Lib.hid (DY.out.below b5); have DZ := Lib.hid (DZ.out.below b5); have DY' := Lib.hid (DY'.out.below b5); have DZ' := Lib.hid (DZ'.out.below b5); obtain ⟨u0, u1, u2, u3, u4, u5, u6, u7, u8, u9, u10⟩ := Res.at H1.out; obtain ⟨v0, v1, v2, v3, v4, v5, v6, v7, v8, v9, v10⟩ := Res.at H2.out; clear b5))
          go_ret
          exact ⟨by rw [G.out]; rfl, HW.out⟩
      · have G : Hid (sameI a b = false) := Lib.hid (by simp [sameI, g3])
        have g3 : (Lib.bytesOf a.ds == Lib.bytesOf b.ds) = false := by simpa using g3
        have G4 := Lib.hid (trivial)
        have G3 := Lib.hid g3
        clear g3
        go_wp2_with (first | (go_at_call 23; refine (bytes0_any DY.out DY'.out).mono ?_; rintro e w5 ⟨rfl, b5⟩; rw [G3.out]; have HW := Lib.hid (HW.out.trans (b5.mono HW.out.size)); have H1 := Lib.hid (H1.out.below b5); have H2 := Lib.hid (H2.out.below b5); have DY := Lib.hid (DY.out.below b5); have DZ := Lib.hid (DZ.out.below b5); have DY' := Lib.hid (DY'.out.below b5); have DZ' := Lib.hid (DZ'.out.below b5); obtain ⟨u0, u1, u2, u3, u4, u5, u6, u7, u8, u9, u10⟩ := Res.at H1.out; obtain ⟨v0, v1, v2, v3, v4, v5, v6, v7, v8, v9, v10⟩ := Res.at H2.out; clear b5) | (go_at_call 24; refine (equals0_any DZ.out DZ'.out).mono ?_; rintro e w5 ⟨rfl, b5⟩; rw [G4.out]; have HW := Lib.hid (HW.out.trans (b5.mono HW.out.size)); have H1 := Lib.hid (H1.out.below b5); have H2 := Lib.hid (H2.out.below b5); have DY := Lib.hid (DY.out.below b5); have DZ := Lib.hid (DZ.out.below b5); have DY' := Lib.hid (DY'.out.below b5); have DZ' := Lib.hid (DZ'.out.below b5); obtain ⟨u0, u1, u2, u3, u4, u5, u6, u7, u8, u9, u10⟩ := Res.at H1.out; obtain ⟨v0, v1, v2, v3, v4, v5, v6, v7, v8, v9, v10⟩ := Res.at H2.out; clear b5))
        go_ret
        exact ⟨by rw [G.out]; rfl, HW.out⟩
    · have G : Hid (sameI a b = false) := Lib.hid (by simp [sameI, g2])
      have d2 : (a.n == b.n) = false := beq_eq_false_iff_ne.2 g2
      have G4 := Lib.hid (trivial)
      have g3 := trivial
      have G3 := Lib.hid g3
      clear g3
      go_wp2_with (first | (go_at_call 23; refine (bytes0_any DY.out DY'.out).mono ?_; rintro e w5 ⟨rfl, b5⟩; rw [G3.out]; have HW := Lib.hid (HW.out.trans (b5.mono HW.out.size)); have H1 := Lib.hid (H1.out.below b5); have H2 := Lib.hid (H2.out.below b5); have DY := Lib.hid (DY.out.below b5); have DZ := Lib.hid (DZ.out.below b5); have DY' := Lib.hid (DY'.out.below b5); have DZ' := Lib.hid (DZ'.out.below b5); obtain ⟨u0, u1, u2, u3, u4, u5, u6, u7, u8, u9, u10⟩ := Res.at H1.out; obtain ⟨v0, v1, v2, v3, v4, v5, v6, v7, v8, v9, v10⟩ := Res.at H2.out; clear b5) | (go_at_call 24; refine (equals0_any DZ.out DZ'.out).mono ?_; rintro e w5 ⟨rfl, b5⟩; rw [G4.out]; have HW := Lib.hid (HW.out.trans (b5.mono HW.out.size)); have H1 := Lib.hid (H1.out.below b5); have H2 := Lib.hid (H2.out.below b5); have DY := Lib.hid (DY.out.below b5); have DZ := Lib.hid (DZ.out.below b5); have DY' := Lib.hid (DY'.out.below b5); have DZ' := Lib.hid (DZ'.out.below b5); obtain ⟨u0, u1, u2, u3, u4, u5, u6, u7, u8, u9, u10⟩ := Res.at H1.out; obtain ⟨v0, v1, v2, v3, v4, v5, v6, v7, v8, v9, v10⟩ := Res.at H2.out; clear b5))
      go_ret
      exact ⟨by rw [G.out]; rfl, HW.out⟩
  · have G : Hid (sameI a b = false) := Lib.hid (by simp [sameI, g1])
    have d1 : (a.w == b.w) = false := beq_eq_false_iff_ne.2 g1
    have G4 := Lib.hid (trivial)
    have g3 := trivial
    have G3 := Lib.hid g3
    clear g3
    go_wp2_with (first | (go_at_call 23; refine (bytes0_any DY.out DY'.out).mono ?_; rintro e w5 ⟨rfl, b5⟩; rw [G3.out]; have HW := Lib.hid (HW.out.trans (b5.mono HW.out.size)); have H1 := Lib.hid (H1.out.below b5); have H2 := Lib.hid (H2.out.below b5); have DY := Lib.hid (DY.out.below b5); have DZ := Lib.hid (DZ.out.below b5); have DY' := Lib.hid (DY'.out.below b5); have DZ' := Lib.hid (DZ'.out.below b5); obtain ⟨u0, u1, u2, u3, u4, u5, u6, u7, u8, u9, u10⟩ := Res.at H1.out; obtain ⟨v0, v1, v2, v3, v4, v5, v6, v7, v8, v9, v10⟩ := Res.at H2.out; clear b5) | (go_at_call 24; refine (equals0_any DZ.out DZ'.out).mono ?_; rintro e w5 ⟨rfl, b5⟩; rw [G4.out]; have HW := Lib.hid (HW.out.trans (b5.mono HW.out.size)); have H1 := Lib.hid (H1.out.below b5); have H2 := Lib.hid (H2.out.below b5); have DY := Lib.hid (DY.out.below b5); have DZ := Lib.hid (DZ.out.below b5); have DY' := Lib.hid (DY'.out.below b5); have DZ' := Lib.hid (DZ'.out.below b5); obtain ⟨u0, u1, u2, u3, u4, u5, u6, u7, u8, u9, u10⟩ := Res.at H1.out; obtain ⟨v0, v1, v2, v3, v4, v5, v6, v7, v8, v9, v10⟩ := Res.at H2.out; clear b5))
    go_ret
    exact ⟨by rw [G.out]; rfl, HW.out⟩
end Go.Proofs.Ytidonelhapmceaa
