/- Slices of strings, and slices of bytes, held against one another. -/
import Derived.Test.YtjefjonogbkknaaCopy
import Derived.Lib.Bytes
namespace Go.Proofs.Ytjefjonogbkknaa
open Go.RowKit

theorem bytes_inj {x y : ByteArray} (h : x.toList = y.toList) : x = y := by
  rw [ByteArray.toList_eq, ByteArray.toList_eq] at h
  cases x; cases y
  simp at h
  rw [h]
theorem strs_get {ss : List ByteArray} {i : Nat} (hi : i < ss.length) : (strs ss)[i]? = some (.string (ss[i]'hi)) := by
  simp [strs, List.getElem?_map, List.getElem?_eq_getElem hi]

set_option maxRecDepth 100000 in
set_option maxHeartbeats 4000000 in
theorem texts_any {w : World} {u v : Value} {a b : List ByteArray} (hu : Den 16 w u (strs a)) (hv : Den 16 w v (strs b)) : Calls Try.prog 19 #[u, v] w fun e w' => e = .returned (.bool (decide (a = b))) ∧ Below w.heap.size w w' := by
  obtain ⟨p, c, rfl⟩ := hu.value
  obtain ⟨q, d, rfl⟩ := hv.value
  have la : (strs a).length = a.length := by simp [strs]
  have lb : (strs b).length = b.length := by simp [strs]
  rw [la] at hu ⊢
  rw [lb] at hv ⊢
  have ma := hu.most.2
  unfold maxLen at ma
  clear la lb
  by_cases hl : a.length = b.length
  · rw [← hl] at hv ⊢
    have HU := Lib.hid hu
    have HV := Lib.hid hv
    have HL := Lib.hid hl
    clear hu hv hl
    go_enter Try.func19, Try.ntmps19
    go_wp2_with fail
    go_loopw [5] (fun iv wr => ∃ i : Nat, i ≤ a.length ∧ iv = .int .i64 i ∧ Hid ((∀ j : Nat, j < i → a[j]? = b[j]?) ∧ Below w.heap.size w wr)) (fun iv _ => a.length - (intOf iv).toNat)
    case atStart => exact ⟨0, by omega, rfl, fun j h => absurd h (by omega), Below.refl _ _⟩
    case round =>
      obtain ⟨i, hi, rfl, HI⟩ := hrel
      by_cases hlt : i < a.length
      · have h0 : (0 : Int) ≤ (i : Int) := by omega
        have h1 : (i : Int) < (a.length : Int) := by omega
        have hib : i < b.length := by have := HL.out; omega
        obtain ⟨x, hx⟩ : ∃ x, a[i]'hlt = x := ⟨_, rfl⟩
        obtain ⟨y, hy⟩ : ∃ y, b[i]'hib = y := ⟨_, rfl⟩
        have HX := Lib.hid (show a[i]? = some x by rw [List.getElem?_eq_getElem hlt, hx])
        have HY := Lib.hid (show b[i]? = some y by rw [List.getElem?_eq_getElem hib, hy])
        obtain ⟨bu, ou, rfl, cu⟩ := (HU.out.below HI.out.2).at (by omega)
        obtain ⟨bv, ov, rfl, cv⟩ := (HV.out.below HI.out.2).at (by omega)
        have c1 : wr.cell? ⟨bu, ou + i, none⟩ = some (.string x) := by rw [cu i hlt, strs_get hlt, hx]
        have c2 : wr.cell? ⟨bv, ov + i, none⟩ = some (.string y) := by rw [cv i hlt, strs_get hib, hy]
        clear cu cv hx hy hib
        by_cases hxy : x = y
        · subst hxy
          go_wp2_with fail
          go_quiet (fail)
          go_wp2_with fail
          go_roundw
          case rel => exact ⟨i + 1, by omega, by go_num, fun j hj => by
            by_cases e : j = i
            · subst e; rw [HX.out, HY.out]
            · exact HI.out.1 j (by omega), below_drewN HI.out.2 nq⟩
          case measure => simp [intOf]; omega
        · have d1 : (x.toList == y.toList) = false := beq_eq_false_iff_ne.2 (fun e => hxy (bytes_inj e))
          have HXY := Lib.hid hxy
          clear hxy
          go_wp2_with fail
          go_quiet (fail)
          go_wp2_with fail
          go_ret
          refine ⟨?_, below_drewN HI.out.2 nq⟩
          have hne : ¬ a = b := fun e => by
            have := HX.out
            rw [e, HY.out] at this
            exact HXY.out (Option.some.inj this).symm
          rw [decide_eq_false hne]
          rfl
      · obtain rfl : i = a.length := by omega
        have e1 : ¬ (a.length : Int) < (a.length : Int) := by omega
        go_wp2_with fail
        go_ret
        have he : a = b := List.ext_getElem? fun j => by
          rcases Nat.lt_or_ge j a.length with h | h
          · exact HI.out.1 j h
          · have := HL.out
            rw [List.getElem?_eq_none h, List.getElem?_eq_none (by omega)]
        exact ⟨by rw [decide_eq_true he]; rfl, HI.out.2⟩
  · have hl' : ¬ (a.length : Int) = (b.length : Int) := by omega
    have d1 : ((a.length : Int) != (b.length : Int)) = true := by rw [bne_iff_ne]; omega
    have HL := Lib.hid hl
    clear hu hv hl
    go_enter Try.func19, Try.ntmps19
    go_wp2_with fail
    go_ret
    exact ⟨by rw [decide_eq_false (fun e => HL.out (by rw [e]))]; rfl, Below.refl _ _⟩

set_option maxRecDepth 100000 in
set_option maxHeartbeats 4000000 in
theorem equals_any {w : World} {u v : Value} {a b : List ByteArray} (hu : Den 16 w u (strs a)) (hv : Den 16 w v (strs b)) : Calls Try.prog 18 #[u, v] w fun e w' => e = .returned (.bool (decide (a = b))) ∧ Below w.heap.size w w' := by
  obtain ⟨p, c, rfl⟩ := hu.value
  obtain ⟨q, d, rfl⟩ := hv.value
  have la : (strs a).length = a.length := by simp [strs]
  have lb : (strs b).length = b.length := by simp [strs]
  rw [la] at hu ⊢
  rw [lb] at hv ⊢
  have ma := hu.most.2
  unfold maxLen at ma
  clear la lb
  by_cases hl : a.length = b.length
  · rw [← hl] at hv ⊢
    have HU := Lib.hid hu
    have HV := Lib.hid hv
    have HL := Lib.hid hl
    clear hu hv hl
    go_enter Try.func18, Try.ntmps18
    go_wp2_with fail
    go_loopw [13] (fun iv wr => ∃ i : Nat, i ≤ a.length ∧ iv = .int .i64 i ∧ Hid ((∀ j : Nat, j < i → a[j]? = b[j]?) ∧ Below w.heap.size w wr)) (fun iv _ => a.length - (intOf iv).toNat)
    case atStart => exact ⟨0, by omega, rfl, fun j h => absurd h (by omega), Below.refl _ _⟩
    case round =>
      obtain ⟨i, hi, rfl, HI⟩ := hrel
      by_cases hlt : i < a.length
      · have h0 : (0 : Int) ≤ (i : Int) := by omega
        have h1 : (i : Int) < (a.length : Int) := by omega
        have hib : i < b.length := by have := HL.out; omega
        obtain ⟨x, hx⟩ : ∃ x, a[i]'hlt = x := ⟨_, rfl⟩
        obtain ⟨y, hy⟩ : ∃ y, b[i]'hib = y := ⟨_, rfl⟩
        have HX := Lib.hid (show a[i]? = some x by rw [List.getElem?_eq_getElem hlt, hx])
        have HY := Lib.hid (show b[i]? = some y by rw [List.getElem?_eq_getElem hib, hy])
        obtain ⟨bu, ou, rfl, cu⟩ := (HU.out.below HI.out.2).at (by omega)
        obtain ⟨bv, ov, rfl, cv⟩ := (HV.out.below HI.out.2).at (by omega)
        have c1 : wr.cell? ⟨bu, ou + i, none⟩ = some (.string x) := by rw [cu i hlt, strs_get hlt, hx]
        have c2 : wr.cell? ⟨bv, ov + i, none⟩ = some (.string y) := by rw [cv i hlt, strs_get hib, hy]
        clear cu cv hx hy hib
        by_cases hxy : x = y
        · subst hxy
          go_wp2_with fail
          go_quiet (fail)
          go_wp2_with fail
          go_roundw
          case rel => exact ⟨i + 1, by omega, by go_num, fun j hj => by
            by_cases e : j = i
            · subst e; rw [HX.out, HY.out]
            · exact HI.out.1 j (by omega), below_drewN HI.out.2 nq⟩
          case measure => simp [intOf]; omega
        · have d1 : (x.toList == y.toList) = false := beq_eq_false_iff_ne.2 (fun e => hxy (bytes_inj e))
          have HXY := Lib.hid hxy
          clear hxy
          go_wp2_with fail
          go_quiet (fail)
          go_wp2_with fail
          go_ret
          refine ⟨?_, below_drewN HI.out.2 nq⟩
          have hne : ¬ a = b := fun e => by
            have := HX.out
            rw [e, HY.out] at this
            exact HXY.out (Option.some.inj this).symm
          rw [decide_eq_false hne]
          rfl
      · obtain rfl : i = a.length := by omega
        have e1 : ¬ (a.length : Int) < (a.length : Int) := by omega
        go_wp2_with fail
        go_ret
        have he : a = b := List.ext_getElem? fun j => by
          rcases Nat.lt_or_ge j a.length with h | h
          · exact HI.out.1 j h
          · have := HL.out
            rw [List.getElem?_eq_none h, List.getElem?_eq_none (by omega)]
        exact ⟨by rw [decide_eq_true he]; rfl, HI.out.2⟩
  · have hl' : ¬ (a.length : Int) = (b.length : Int) := by omega
    have d1 : ((a.length : Int) != (b.length : Int)) = true := by rw [bne_iff_ne]; omega
    have HL := Lib.hid hl
    clear hu hv hl
    go_enter Try.func18, Try.ntmps18
    go_wp2_with fail
    go_ret
    exact ⟨by rw [decide_eq_false (fun e => HL.out (by rw [e]))]; rfl, Below.refl _ _⟩

set_option maxRecDepth 100000 in
theorem bytes_any {w : World} {u v : Value} {a b : List Int} (hu : Den 1 w u (byts a)) (hv : Den 1 w v (byts b)) : Calls Try.prog 17 #[u, v] w fun e w' => e = .returned (.bool (Lib.bytesOf a == Lib.bytesOf b)) ∧ Below w.heap.size w w' := by
  obtain ⟨p, c, rfl⟩ := hu.value
  obtain ⟨q, d, rfl⟩ := hv.value
  have e1 := hu.convert 24 5 Try.underlying24 Try.underlying5 9 Try.underlying9
  have e2 := hv.convert 24 5 Try.underlying24 Try.underlying5 9 Try.underlying9
  rw [← Lib.strOfNums_toList, ← Lib.strOfNums_toList]
  clear hu hv
  go_enter Try.func17, Try.ntmps17
  go_wp2_with fail
  go_ret
  exact ⟨rfl, Below.refl _ _⟩
end Go.Proofs.Ytjefjonogbkknaa
