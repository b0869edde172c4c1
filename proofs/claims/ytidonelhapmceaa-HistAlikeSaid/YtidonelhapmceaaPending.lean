/- The walk of HistPending. -/
import Derived.Test.YtidonelhapmceaaThreads
import Derived.Test.YtidonelhapmceaaKeep
namespace Go.Proofs.Ytidonelhapmceaa
open Go.RowKit

theorem Good.one {s : St} {i c r : Nat} (h : Good s i c r) {j k : Nat} {x y : OpI} (hx : s.l[j]? = some x) (hy : s.l[k]? = some y) (ox : x.o = -1) (oy : y.o = -1) (ht : x.t = y.t) : j = k := by
  have h1 := h.own j x hx ox
  have h2 := h.own k y hy oy
  rw [ht, h2] at h1
  omega
theorem range_sub {w : World} {b o : Nat} {cs ds : List Value} (a : Nat) (h : w.rangeAt b o cs) (hd : ∀ (j : Nat) v, ds[j]? = some v → cs[a + j]? = some v) : w.rangeAt b (o + a) ds := fun j v hv => by
  rw [Nat.add_assoc]
  exact h (a + j) v (hd j v hv)
theorem res_sub (q : OpI) (x y z : Value) : ∀ (j : Nat) v, (q.r.cells y z)[j]? = some v → (q.cells x y z)[10 + j]? = some v := by
  intro j v hv
  have hj : j < 11 := (List.getElem?_eq_some_iff.1 hv).1
  rw [← hv]
  match j, hj with
  | 0, _ | 1, _ | 2, _ | 3, _ | 4, _ | 5, _ | 6, _ | 7, _ | 8, _ | 9, _ | 10, _ => rfl
theorem bef_no {a b : OpI} (h : a.o = -1) : befI a b = false := by
  unfold befI
  rw [h]
  rfl

set_option maxRecDepth 100000 in
set_option maxHeartbeats 16000000 in
theorem pending_any {w : World} {a : Option Addr} {n cap : Nat} {E0 : List Ev} (hE0 : E0.length = n) (hr0 : Evs w a E0) (hcap : n ≤ cap) (hc : cap ≤ 9223372036854775807) :
    Calls Try.prog 5 #[.slice a n cap] w fun e w' => e = .returned (.bool true) ∧ Below w.heap.size w w' := by
  go_enter Try.func5, Try.ntmps5
  go_upto_if 11 with fail
  go_cut [0] (fun v wx => ∃ m, v = .slice a m cap ∧ m ≤ 60 ∧ m = (E0.take 40).length ∧ wx = w)
  case first =>
    by_cases h : 40 < n
    · have d : decide ((n : Int) > 40) = true := decide_eq_true (by omega)
      have d' : decide (40 < (n : Int)) = true := decide_eq_true (by omega)
      have g1 : (40 : Int) ≤ (cap : Int) := by omega
      go_wp2_with fail
      go_meet
      exact ⟨40, rfl, by omega, by simp; omega, rfl⟩
    · have d : decide ((n : Int) > 40) = false := decide_eq_false (by omega)
      have d' : decide (40 < (n : Int)) = false := decide_eq_false (by omega)
      go_wp2_with fail
      go_meet
      exact ⟨n, rfl, by omega, by simp; omega, rfl⟩
  case rest =>
    obtain ⟨m, rfl, hm60, hm, rfl⟩ := hcut
    obtain ⟨E, hEq⟩ : ∃ E, E = E0.take 40 := ⟨_, rfl⟩
    have HEV : Hid (Evs wc a E) := Lib.hid (by rw [hEq]; exact hr0.take 40)
    have HEL : Hid (E.length = m) := Lib.hid (by rw [hEq]; exact hm.symm)
    clear hEq hm hr0 hE0 hcap hc
    have hm1000 : m ≤ 1000 := by omega
    go_wp2_with fail
    refine (ops_any HEL.out HEV.out hm1000).mono ?_
    rintro e w1 ⟨v, rfl, o1, b1⟩
    have HB1 := Lib.hid b1
    obtain ⟨av, cv, rfl⟩ := o1.value
    have HO := Lib.hid o1
    clear b1 o1
    obtain ⟨res, hres⟩ : ∃ res, ops E = res := ⟨_, rfl⟩
    cases res with
    | error at_ =>
      rw [hres] at HO ⊢
      rw [show whyOf (.error at_) = 12 from rfl, show (listOf (.error at_)).length = 0 from rfl]
      go_wp2_with (first | (go_at_call 11; refine (known_any _).mono ?_; rintro e w2 ⟨rfl, b2⟩; have HB2 := Lib.hid (HB1.out.trans (b2.mono HB1.out.size)); clear b2))
      go_ret
      exact ⟨rfl, HB2.out⟩
    | ok s =>
      have HG := Lib.hid (good_ops hres)
      rw [hres] at HO ⊢
      have HO : Hid (Outs w1 (wc.heap.size + 1) wc.heap.size 40 (Value.slice av s.l.length cv) s.l) := HO
      rw [show whyOf (.ok s) = 0 from rfl, show atOf (.ok s) = 0 from rfl, show (listOf (.ok s)).length = s.l.length from rfl]
      have hsl : s.l.length ≤ 60 := by have := HG.out.len; have := cnt_le 1 E; have := HEL.out; omega
      clear hres
      go_wp2_with fail
      have HC0 : Hid (Holds (w1.alloc (.cells (opArr fun _ => 0) 43)) w1.heap.size (opArr fun _ => 0)) := Lib.hid (Holds.new _ _ _)
      have HB2 : Hid (Below w1.heap.size w1 (w1.alloc (.cells (opArr fun _ => 0) 43))) := Lib.hid ((Below.refl _ _).alloc (Nat.le_refl _) _)
      go_loopw [7] (fun iv wr => ∃ i : Nat, i ≤ s.l.length ∧ iv = .int .i64 i ∧ Hid (Below w1.heap.size w1 wr ∧ ∃ cf : Nat → Nat, Holds wr w1.heap.size (opArr cf) ∧ ∀ T, T < 8 → cf T ≠ 0 → ∃ (j : Nat) (x : OpI), j < i ∧ s.l[j]? = some x ∧ x.o = -1 ∧ x.t = (T : Int))) (fun iv _ => s.l.length - (intOf iv).toNat)
      case atStart => exact ⟨0, by omega, rfl, HB2.out, fun _ => 0, HC0.out, fun T _ h => absurd rfl h⟩
      case round =>
        obtain ⟨i, hi, rfl, HI⟩ := hrel
        clear HC0 HB2
        by_cases hil : i < s.l.length
        · have k0 : (0 : Int) ≤ (i : Int) := by omega
          have k1 : (i : Int) < (s.l.length : Int) := by omega
          obtain ⟨f, o, cp, e⟩ : ∃ f o cp, Value.slice av s.l.length cv = .slice (some ⟨f, o, none⟩) s.l.length cp := by
            obtain ⟨_, _, hw, _⟩ := HO.out
            exact hw.form (by omega)
          cases e
          have HOX := Lib.hid (HO.out.below HI.out.1)
          obtain ⟨A, hA⟩ : ∃ A, s.l[i]? = some A := ⟨_, List.getElem?_eq_getElem hil⟩
          obtain ⟨x, y, z, hT, _, R⟩ := HOX.out.row hA
          have HR := Lib.hid R
          have HT := Lib.hid hT
          obtain ⟨g1, g2, g3, g4, g5⟩ := HG.out.each i A hA
          have HAA := Lib.hid hA
          have c0 : wr.cell? ⟨f, o + i * 23, none⟩ = some (.int .i64 A.t) := R 0 _ rfl
          have c22 : wr.cell? ⟨f, o + i * 23 + 22, none⟩ = some (.int .i64 A.o) := R 22 _ rfl
          have hfw : f < w1.heap.size := (HO.out.lt f rfl).2
          clear R hA hT
          rcases g5 with ⟨g5, g6⟩ | ⟨g5, g6⟩
          · have d1 : A.o < 0 := by omega
            obtain ⟨T, hT⟩ : ∃ T : Nat, A.t = (T : Int) := ⟨A.t.toNat, by omega⟩
            have hT8 : T < 8 := by omega
            obtain ⟨cf, hcf, hcT⟩ := HI.out.2
            have hc0 : cf T = 0 := by
              rcases Nat.eq_zero_or_pos (cf T) with h | h
              · exact h
              · obtain ⟨j, x', hj, hx', ox, tx⟩ := hcT T hT8 (by omega)
                have := HG.out.one hx' HAA.out ox g5 (by rw [tx, hT])
                omega
            have HCF := Lib.hid hcf
            have HCT := Lib.hid hcT
            have HC0 := Lib.hid hc0
            have HT' := Lib.hid hT
            have HG5 := Lib.hid g5
            have HG6 := Lib.hid g6
            rw [hT] at c0
            have t0 : (0 : Int) ≤ (T : Int) := by omega
            have t1 : (T : Int) < 8 := by omega
            have vT : wr.cell? ⟨w1.heap.size, T, none⟩ = some (.int .i64 0) := by rw [hcf.cell T, opArr_get cf hT8, hc0]; rfl
            have fT : wr.frozen? ⟨w1.heap.size, T, none⟩ = false := hcf.free T
            clear hcf hcT hc0 hT g1 g2 g5 g6
            go_upto_region 12 with fail
            have F8 : Frm [w1.heap.size] wr (wr.setCell ⟨w1.heap.size, T, none⟩ (.int .i64 1)) := (Frm.refl _ _).setCell (by simp) _
            have B2 := Lib.hid (HI.out.1.trans (F8.below HI.out.1.size (by simp)))
            have HP : Holds (wr.setCell ⟨w1.heap.size, T, none⟩ (.int .i64 1)) w1.heap.size (opArr (upd cf T 1)) := by
              have := HCF.out.set T (.int .i64 ((1 : Nat) : Int)) hT8
              rw [opArr_set cf hT8] at this
              exact this
            have HPP := Lib.hid HP
            generalize wr.setCell ⟨w1.heap.size, T, none⟩ (.int .i64 1) = W2 at *
            clear vT fT F8 c22 HOX HR HT c0
            obtain ⟨x, y, z, hT2, _, R⟩ := (HO.out.below B2.out).row HAA.out
            have HR33 : Hid (W2.rangeAt f (o + i * 23 + 10) (A.r.cells y z)) := Lib.hid (range_sub 10 R (res_sub A x y z))
            have HT2 := Lib.hid hT2
            have c0 : W2.cell? ⟨f, o + i * 23, none⟩ = some (.int .i64 (T : Int)) := by
              rw [← HT'.out]; exact R 0 _ rfl
            have vT : W2.cell? ⟨w1.heap.size, T, none⟩ = some (.int .i64 1) := by
              rw [HP.cell T, opArr_get _ hT8]
              simp [upd]
            have HSM : Hid (sameI A.r Res.zero = true) := Lib.hid (by rw [HG6.out]; rfl)
            clear R hT2 HP
            go_upto_region 14 with (first | (refine wpList_load_mid_g (by rfl) 33 (.tmp 56) rfl f (o + i * 23 + 10) rfl (A.r.cells y z) _ ?_ Try.underlying33 rfl size33 ?_; (exact HR33.out)) | (go_at_call 12; refine (result_any (a := A.r) (b := Res.zero) (y := y) (z := z) (y' := .slice none 0 0) (z' := .slice none 0 0) HT2.out.2.1 HT2.out.2.2 (Den.nil _ _) (Den.nil _ _)).mono ?_; rintro e5 w5 ⟨rfl, b5⟩; rw [HSM.out]; have B5 := Lib.hid (B2.out.trans (b5.mono B2.out.size)); have HP5 := Lib.hid (HPP.out.below b5); clear b5))
            go_wp2_with fail
            go_loopw [8] (fun kv wx => ∃ k : Nat, k ≤ s.l.length ∧ kv = .int .i64 k ∧ Hid (Below w5.heap.size w5 wx)) (fun kv _ => s.l.length - (intOf kv).toNat)
            case atStart => exact ⟨0, by omega, rfl, Below.refl _ _⟩
            case round =>
              obtain ⟨k, hk, rfl, HK⟩ := hrel
              by_cases hkl : k < s.l.length
              · have m0 : (0 : Int) ≤ (k : Int) := by omega
                have m1 : (k : Int) < (s.l.length : Int) := by omega
                have HOZ := Lib.hid ((HO.out.below B5.out).below HK.out)
                obtain ⟨C, hC⟩ : ∃ C, s.l[k]? = some C := ⟨_, List.getElem?_eq_getElem hkl⟩
                obtain ⟨x, y, z, _, _, R1⟩ := HOZ.out.row HAA.out
                obtain ⟨x', y', z', _, _, R2⟩ := HOZ.out.row hC
                have RA := Lib.hid R1
                have RC := Lib.hid R2
                have HF2 := (HOZ.out.lt f rfl).2
                clear R1 R2 hC c0 vT
                go_wp2_with fail
                refine wp_region_graft (by kernel_rfl) (by kernel_rfl) ?_
                repeat (first | (go_big_quiet_want; refine quiet_load_mid 40 (.tmp 70) rfl f (o + i * 23) rfl (A.cells x y z) _ Try.underlying40 rfl size40 RA.out HF2 ?_; simp only [Act.put, List.setIfInBounds_toArray, List.set_cons_zero, List.set_cons_succ]; go_big_quiet_on) | (go_big_quiet_want; refine quiet_load_mid 40 (.tmp 74) rfl f (o + k * 23) rfl (C.cells x' y' z') _ Try.underlying40 rfl size40 RC.out HF2 ?_; simp only [Act.put, List.setIfInBounds_toArray, List.set_cons_zero, List.set_cons_succ]; go_big_quiet_on) | go_big_quiet_step ((go_at_call 10; exact calls_graft (bef_no HG5.out ▸ before_any A C x y z x' y' z' _))))
                refine wpQuiet_nil ?_
                intro w6 b6
                go_wp2_with fail
                go_roundw
                case rel => exact ⟨k + 1, by omega, by go_num, HK.out.trans (b6.mono HK.out.size)⟩
                case measure => simp [intOf]; omega
              · obtain rfl : k = s.l.length := by omega
                have e1 : ¬ (s.l.length : Int) < (s.l.length : Int) := by omega
                clear c0 vT
                go_wp2_with fail
                go_roundw
                case rel => exact ⟨i + 1, by omega, by go_num, B5.out.trans (HK.out.mono B5.out.size), upd cf T 1, HP5.out.below HK.out, fun T2 h8 h => by
                  by_cases e : T2 = T
                  · subst e; exact ⟨i, A, by omega, HAA.out, HG5.out, HT'.out⟩
                  · simp only [upd, if_neg e] at h
                    obtain ⟨j, x', hj, h'⟩ := HCT.out T2 h8 h
                    exact ⟨j, x', by omega, h'⟩⟩
                case measure => simp [intOf]; omega
          · have d2 : 0 ≤ A.o := by omega
            go_wp2_with fail
            go_roundw
            case rel => exact ⟨i + 1, by omega, by go_num, HI.out.1, by
              obtain ⟨cf, hcf, hcT⟩ := HI.out.2
              exact ⟨cf, hcf, fun T h8 h => by
                obtain ⟨j, x', hj, h'⟩ := hcT T h8 h
                exact ⟨j, x', by omega, h'⟩⟩⟩
            case measure => simp [intOf]; omega
        · obtain rfl : i = s.l.length := by omega
          have e1 : ¬ (s.l.length : Int) < (s.l.length : Int) := by omega
          go_wp2_with (first | (go_at_call 11; refine (known_any _).mono ?_; rintro e w2 ⟨rfl, b2⟩; have HB2 := Lib.hid ((HB1.out.trans (HI.out.1.mono HB1.out.size)).trans (b2.mono (Nat.le_trans HB1.out.size HI.out.1.size))); clear b2))
          go_ret
          exact ⟨rfl, HB2.out⟩
end Go.Proofs.Ytidonelhapmceaa
