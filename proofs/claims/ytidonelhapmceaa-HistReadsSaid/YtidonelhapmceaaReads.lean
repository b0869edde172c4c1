/- The walk of HistReads. -/
import Derived.Test.YtidonelhapmceaaOpsame
import Derived.Test.YtidonelhapmceaaRserial
import Derived.Test.YtidonelhapmceaaRops
import Derived.Test.YtidonelhapmceaaRsame
namespace Go.Proofs.Ytidonelhapmceaa
open Go.RowKit

theorem listOf_len (E : List Ev) : (listOf (ops E)).length ≤ E.length := by
  cases h : ops E with
  | error i => exact Nat.zero_le _
  | ok s =>
    have := (good_ops h).len
    have h2 := cnt_le 1 E
    show s.l.length ≤ _
    omega
set_option maxRecDepth 100000 in
set_option maxHeartbeats 16000000 in
theorem reads_any {w : World} {a : Option Addr} {n cap : Nat} {E0 : List Ev} {ra rb : Res} {y z y' z' : Value} (hE0 : E0.length = n) (hr0 : Evs w a E0) (hcap : n ≤ cap) (hc : cap ≤ 9223372036854775807)
    (hy : Den 1 w y (byts ra.ds)) (hz : Den 16 w z (strs ra.ss)) (hy' : Den 1 w y' (byts rb.ds)) (hz' : Den 16 w z' (strs rb.ss)) :
    Calls Try.prog 6 #[.slice a n cap, .agg (ra.cells y z).toArray, .agg (rb.cells y' z').toArray] w fun e w' => e = .returned (.bool true) ∧ Below w.heap.size w w' := by
  obtain ⟨A, hA⟩ : ∃ A : Array Value, A = (ra.cells y z).toArray := ⟨_, rfl⟩
  obtain ⟨B, hB⟩ : ∃ B : Array Value, B = (rb.cells y' z').toArray := ⟨_, rfl⟩
  rw [← hA, ← hB]
  have H1 : Hid (Holds ((w.alloc (.cells A 33)).alloc (.cells B 33)) w.heap.size (ra.cells y z).toArray) := Lib.hid (by rw [← hA]; exact (Holds.new _ _ _).alloc _)
  have H2 : Hid (Holds ((w.alloc (.cells A 33)).alloc (.cells B 33)) (w.heap.size + 1) (rb.cells y' z').toArray) := Lib.hid (by
    have := Holds.new (w.alloc (.cells A 33)) B 33
    rw [← hB]
    simpa using this)
  have HW : Hid (Below w.heap.size w ((w.alloc (.cells A 33)).alloc (.cells B 33))) := Lib.hid (((Below.refl w.heap.size w).alloc (Nat.le_refl _) _).alloc (by simp) _)
  have DY := Lib.hid (hy.below HW.out)
  have DZ := Lib.hid (hz.below HW.out)
  have DY' := Lib.hid (hy'.below HW.out)
  have DZ' := Lib.hid (hz'.below HW.out)
  have HEV0 := Lib.hid (hr0.below HW.out)
  clear hA hB hy hz hy' hz' hr0
  go_enter Try.func6, Try.ntmps6
  go_upto_if 17 with fail
  generalize hW : (w.alloc (.cells A 33)).alloc (.cells B 33) = W at *
  clear hW
  go_cut [0] (fun v wx => ∃ m, v = .slice a m cap ∧ m ≤ 60 ∧ m = (E0.take 60).length ∧ wx = W)
  case first =>
    by_cases h : 60 < n
    · have d : decide ((n : Int) > 60) = true := decide_eq_true (by omega)
      have d' : decide (60 < (n : Int)) = true := decide_eq_true (by omega)
      have g1 : (60 : Int) ≤ (cap : Int) := by omega
      go_wp2_with fail
      go_meet
      exact ⟨60, rfl, by omega, by simp; omega, rfl⟩
    · have d : decide ((n : Int) > 60) = false := decide_eq_false (by omega)
      have d' : decide (60 < (n : Int)) = false := decide_eq_false (by omega)
      go_wp2_with fail
      go_meet
      exact ⟨n, rfl, by omega, by simp; omega, rfl⟩
  case rest =>
    obtain ⟨m, rfl, hm60, hm, rfl⟩ := hcut
    obtain ⟨E, hEq⟩ : ∃ E, E = E0.take 60 := ⟨_, rfl⟩
    have HEV : Hid (Evs wc a E) := Lib.hid (by rw [hEq]; exact HEV0.out.take 60)
    have HEL : Hid (E.length = m) := Lib.hid (by rw [hEq]; exact hm.symm)
    clear hEq hm hE0 hcap hc HEV0
    have hm1000 : m ≤ 1000 := by omega
    go_wp2_with fail
    refine (ops_any HEL.out HEV.out hm1000).mono ?_
    rintro e w1 ⟨v, rfl, o1, b1⟩
    have HB1 := Lib.hid b1
    have HE1 := Lib.hid (HEV.out.below b1)
    obtain ⟨av, cv, rfl⟩ := o1.value
    have HO1 := Lib.hid o1
    clear b1 o1
    go_wp2_with fail
    refine (rops_any HEL.out HE1.out hm1000).mono ?_
    rintro e w2 ⟨v', rfl, o2, b2⟩
    have HB2 := Lib.hid (HB1.out.trans (b2.mono HB1.out.size))
    obtain ⟨av', cv', rfl⟩ := o2.value
    have HO := Lib.hid (HO1.out.below b2)
    have HO' := Lib.hid o2
    have hlE := listOf_len E
    rw [HEL.out] at hlE
    clear b2 o2 HO1 HE1
    obtain ⟨y0, hy0⟩ : ∃ y0, whyOf (ops E) = y0 := ⟨_, rfl⟩
    obtain ⟨t0, ht0⟩ : ∃ t0, atOf (ops E) = t0 := ⟨_, rfl⟩
    rw [hy0, ht0]
    obtain ⟨l, hl⟩ : ∃ l, listOf (ops E) = l := ⟨_, rfl⟩
    rw [hl] at HO HO' hlE ⊢
    clear hy0 ht0 hl
    have hl1000 : l.length ≤ 1000 := by omega
    have H1' := Lib.hid (H1.out.below (HB2.out.mono (Nat.le_refl _)))
    have H2' := Lib.hid (H2.out.below (HB2.out.mono (Nat.le_refl _)))
    have RA := Lib.hid H1'.out.range
    have RB := Lib.hid H2'.out.range
    have FA := H1'.out.lt
    have FB := H2'.out.lt
    have HX14 : Hid (∀ X, Below w2.heap.size w2 X → Calls Try.prog 14 #[.slice av l.length cv, .slice av' l.length cv'] X fun e w' => e = .returned (.bool true) ∧ Below X.heap.size X w') := Lib.hid (fun X hX => opsame_any (HO.out.below hX) (HO'.out.below hX) hl1000)
    have HX9 : Hid (∀ X, Below w2.heap.size w2 X → Calls Try.prog 9 #[.slice av l.length cv] X fun e w' => e = .returned (.bool (serI l)) ∧ Below X.heap.size X w') := Lib.hid (fun X hX => serial_any (HO.out.below hX) hl1000)
    have HX15 : Hid (∀ X, Below w2.heap.size w2 X → Calls Try.prog 15 #[.slice av' l.length cv'] X fun e w' => e = .returned (.bool (serI l)) ∧ Below X.heap.size X w') := Lib.hid (fun X hX => rserial_any (HO'.out.below hX) hl1000)
    have HD : Hid (∀ X, Below w2.heap.size w2 X → Below wc.heap.size wc X) := Lib.hid (fun X hX => HB2.out.trans (hX.mono HB2.out.size))
    have HX16 : Hid (∀ X, Below w2.heap.size w2 X → Calls Try.prog 16 #[.agg (ra.cells y z).toArray, .agg (rb.cells y' z').toArray] X fun e w' => e = .returned (.bool (sameI ra rb)) ∧ Below X.heap.size X w') := Lib.hid (fun X hX => same_any (DY.out.below (HD.out X hX)) (DZ.out.below (HD.out X hX)) (DY'.out.below (HD.out X hX)) (DZ'.out.below (HD.out X hX)))
    have HX17 : Hid (∀ X, Below w2.heap.size w2 X → Calls Try.prog 17 #[.agg (ra.cells y z).toArray, .agg (rb.cells y' z').toArray] X fun e w' => e = .returned (.bool (sameI ra rb)) ∧ Below X.heap.size X w') := Lib.hid (fun X hX => rsame_any (DY.out.below (HD.out X hX)) (DZ.out.below (HD.out X hX)) (DY'.out.below (HD.out X hX)) (DZ'.out.below (HD.out X hX)))
    have HXaa : Hid (∀ X, Below w2.heap.size w2 X → Calls Try.prog 16 #[.agg (ra.cells y z).toArray, .agg (ra.cells y z).toArray] X fun e w' => e = .returned (.bool true) ∧ Below X.heap.size X w') := Lib.hid (fun X hX => by
      have := same_any (DY.out.below (HD.out X hX)) (DZ.out.below (HD.out X hX)) (DY.out.below (HD.out X hX)) (DZ.out.below (HD.out X hX))
      rwa [sameI_refl] at this)
    go_wp2_with fail
    try simp only [List.append_eq, List.cons_append, List.nil_append]
    refine wp_region_graft (by kernel_rfl) (by kernel_rfl) ?_
    repeat (first | (go_big_quiet_want; refine quiet_load_mid 33 (.tmp 4) rfl w.heap.size 0 rfl (ra.cells y z) _ Try.underlying33 rfl size33 RA.out FA ?_; simp only [Act.put, List.setIfInBounds_toArray, List.set_cons_zero, List.set_cons_succ]; go_big_quiet_on) | (go_big_quiet_want; refine quiet_load_mid 33 (.tmp 5) rfl (w.heap.size + 1) 0 rfl (rb.cells y' z') _ Try.underlying33 rfl size33 RB.out FB ?_; simp only [Act.put, List.setIfInBounds_toArray, List.set_cons_zero, List.set_cons_succ]; go_big_quiet_on) | go_big_quiet_step ((first | (go_at_call 14; with_reducible exact calls_graft (HX14.out _ (graft_below _ _))) | (go_at_call 9; with_reducible exact calls_graft (HX9.out _ (graft_below _ _))) | (go_at_call 15; with_reducible exact calls_graft (HX15.out _ (graft_below _ _))) | (go_at_call 16; (first | with_reducible exact calls_graft (HX16.out _ (graft_below _ _)) | with_reducible exact calls_graft (HXaa.out _ (graft_below _ _)))) | (go_at_call 17; with_reducible exact calls_graft (HX17.out _ (graft_below _ _))))))
    refine wpQuiet_nil ?_
    intro w3 b3
    have HB3 := Lib.hid (HB2.out.trans (b3.mono HB2.out.size))
    have HO3 := Lib.hid (HO.out.below b3)
    have HO3' := Lib.hid (HO'.out.below b3)
    clear HX14 HX9 HX15 HX16 HX17 HXaa HD b3 RA RB FA FB
    go_wp2_with fail
    go_loopw [13] (fun iv wr => ∃ i : Nat, i ≤ l.length ∧ iv = .int .i64 i ∧ Hid (Below w3.heap.size w3 wr)) (fun iv _ => l.length - (intOf iv).toNat)
    case atStart => exact ⟨0, by omega, rfl, Below.refl _ _⟩
    case round =>
      obtain ⟨i, hil, rfl, HI⟩ := hrel
      by_cases hi : i < l.length
      · have h0 : (0 : Int) ≤ (i : Int) := by omega
        have h1 : (i : Int) < (l.length : Int) := by omega
        obtain ⟨f, o, cp, e⟩ : ∃ f o cp, Value.slice av l.length cv = .slice (some ⟨f, o, none⟩) l.length cp := by
          obtain ⟨_, _, hw, _⟩ := HO.out
          exact hw.form (by omega)
        cases e
        obtain ⟨f', o', cp', e'⟩ : ∃ f o cp, Value.slice av' l.length cv' = .slice (some ⟨f, o, none⟩) l.length cp := by
          obtain ⟨_, _, hw, _⟩ := HO'.out
          exact hw.form (by omega)
        cases e'
        obtain ⟨q, hq⟩ : ∃ q, l[i]? = some q := ⟨_, List.getElem?_eq_getElem hi⟩
        have HQ := Lib.hid hq
        obtain ⟨w4, hw4⟩ : ∃ w4, w4 = wr := ⟨_, rfl⟩
        rw [← hw4] at HI
        have HW4 := Lib.hid hw4
        clear hq hw4
        go_wp2_with fail
        go_loopw [14] (fun kv wx => ∃ k : Nat, k ≤ l.length ∧ kv = .int .i64 k ∧ Hid (Below w4.heap.size w4 wx)) (fun kv _ => l.length - (intOf kv).toNat)
        case atStart => exact ⟨0, by omega, rfl, by rw [HW4.out]; exact Below.refl _ _⟩
        case round =>
          obtain ⟨k, hkl, rfl, HK⟩ := hrel
          by_cases hk : k < l.length
          · have k0 : (0 : Int) ≤ (k : Int) := by omega
            have k1 : (k : Int) < (l.length : Int) := by omega
            obtain ⟨r, hr⟩ : ∃ r, l[k]? = some r := ⟨_, List.getElem?_eq_getElem hk⟩
            have HZ := Lib.hid ((HO3.out.below HI.out).below HK.out)
            have HZ' := Lib.hid ((HO3'.out.below HI.out).below HK.out)
            obtain ⟨x1, y1, z1, _, _, R1⟩ := HZ.out.row HQ.out
            obtain ⟨x2, y2, z2, _, _, R2⟩ := HZ.out.row hr
            obtain ⟨x3, y3, z3, _, _, R3⟩ := HZ'.out.row HQ.out
            obtain ⟨x4, y4, z4, _, _, R4⟩ := HZ'.out.row hr
            have HF := (HZ.out.lt f rfl).2
            have HF' := (HZ'.out.lt f' rfl).2
            have S1 := Lib.hid R1
            have S2 := Lib.hid R2
            have S3 := Lib.hid R3
            have S4 := Lib.hid R4
            have HX10 : Hid (∀ X, Calls Try.prog 10 #[.agg (q.cells x1 y1 z1).toArray, .agg (r.cells x2 y2 z2).toArray] X fun e w' => e = .returned (.bool (befI q r)) ∧ Below X.heap.size X w') := Lib.hid (fun X => before_any q r x1 y1 z1 x2 y2 z2 X)
            have HX18 : Hid (∀ X, Calls Try.prog 18 #[.agg (q.cells x3 y3 z3).toArray, .agg (r.cells x4 y4 z4).toArray] X fun e w' => e = .returned (.bool (befI q r)) ∧ Below X.heap.size X w') := Lib.hid (fun X => rbefore_any q r x3 y3 z3 x4 y4 z4 X)
            clear R1 R2 R3 R4 hr
            go_wp2_with fail
            refine wp_region_graft (by kernel_rfl) (by kernel_rfl) ?_
            repeat (first | (go_big_quiet_want; refine quiet_load_mid 40 (.tmp 82) rfl f (o + i * 23) rfl (q.cells x1 y1 z1) _ Try.underlying40 rfl size40 S1.out HF ?_; simp only [Act.put, List.setIfInBounds_toArray, List.set_cons_zero, List.set_cons_succ]; go_big_quiet_on) | (go_big_quiet_want; refine quiet_load_mid 40 (.tmp 86) rfl f (o + k * 23) rfl (r.cells x2 y2 z2) _ Try.underlying40 rfl size40 S2.out HF ?_; simp only [Act.put, List.setIfInBounds_toArray, List.set_cons_zero, List.set_cons_succ]; go_big_quiet_on) | (go_big_quiet_want; refine quiet_load_mid 51 (.tmp 91) rfl f' (o' + i * 23) rfl (q.cells x3 y3 z3) _ Try.underlying51 rfl size51 S3.out HF' ?_; simp only [Act.put, List.setIfInBounds_toArray, List.set_cons_zero, List.set_cons_succ]; go_big_quiet_on) | (go_big_quiet_want; refine quiet_load_mid 51 (.tmp 95) rfl f' (o' + k * 23) rfl (r.cells x4 y4 z4) _ Try.underlying51 rfl size51 S4.out HF' ?_; simp only [Act.put, List.setIfInBounds_toArray, List.set_cons_zero, List.set_cons_succ]; go_big_quiet_on) | go_big_quiet_step ((first | (go_at_call 10; with_reducible exact calls_graft (HX10.out _)) | (go_at_call 18; with_reducible exact calls_graft (HX18.out _)))))
            refine wpQuiet_nil ?_
            intro w6 b6
            go_wp2_with fail
            go_roundw
            case rel => exact ⟨k + 1, by omega, by go_num, HK.out.trans (b6.mono HK.out.size)⟩
            case measure => simp [intOf]; omega
          · obtain rfl : k = l.length := by omega
            have e1 : ¬ (l.length : Int) < (l.length : Int) := by omega
            go_wp2_with fail
            go_roundw
            case rel => exact ⟨i + 1, by omega, by go_num, HI.out.trans (HK.out.mono HI.out.size)⟩
            case measure => simp [intOf]; omega
      · obtain rfl : i = l.length := by omega
        have e1 : ¬ (l.length : Int) < (l.length : Int) := by omega
        go_wp2_with (first | (go_at_call 11; refine (known_any _).mono ?_; rintro e w7 ⟨rfl, b7⟩; have HB7 := Lib.hid ((HB3.out.trans (HI.out.mono HB3.out.size)).trans (b7.mono (Nat.le_trans HB3.out.size HI.out.size))); clear b7))
        go_ret
        exact ⟨rfl, HW.out.trans (HB7.out.mono HW.out.size)⟩
end Go.Proofs.Ytidonelhapmceaa
