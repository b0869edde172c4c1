/- The walk of HistThreads. -/
import Derived.Test.YtidonelhapmceaaQuiet
import Derived.Test.YtidonelhapmceaaGood
namespace Go.Proofs.Ytidonelhapmceaa
open Go.RowKit

theorem Evs.take {w : World} {a : Option Addr} {E : List Ev} (h : Evs w a E) (k : Nat) : Evs w a (E.take k) := by
  rcases h with h | ⟨b, off, rfl, hb, hat⟩
  · exact .inl (by rw [List.length_take]; omega)
  · refine .inr ⟨b, off, rfl, hb, fun i e he => hat i e ?_⟩
    have hi := (List.getElem?_eq_some_iff.1 he).1
    rw [List.length_take] at hi
    rwa [List.getElem?_take_of_lt (by omega)] at he
theorem cnt_take {k : Int} {E : List Ev} {i : Nat} {e : Ev} (he : E[i]? = some e) : cnt k (E.take (i + 1)) = cnt k (E.take i) + (if e.k = k then 1 else 0) := by
  obtain ⟨hi, rfl⟩ := List.getElem?_eq_some_iff.1 he
  unfold cnt
  rw [List.take_succ_eq_append_getElem hi, List.countP_append, List.countP_cons, List.countP_nil]
  simp
theorem ended_take {l : List OpI} {i : Nat} {e : OpI} (he : l[i]? = some e) : ended (l.take (i + 1)) = ended (l.take i) + (if 0 ≤ e.o then 1 else 0) := by
  obtain ⟨hi, rfl⟩ := List.getElem?_eq_some_iff.1 he
  unfold ended
  rw [List.take_succ_eq_append_getElem hi, List.countP_append, List.countP_cons, List.countP_nil]
  simp
theorem cnt_le (k : Int) (E : List Ev) : cnt k E ≤ E.length := List.countP_le_length
theorem ended_le (l : List OpI) : ended l ≤ l.length := List.countP_le_length

set_option maxRecDepth 100000 in
set_option maxHeartbeats 16000000 in
theorem threads_any {w : World} {a : Option Addr} {n cap : Nat} {E0 : List Ev} (hE0 : E0.length = n) (hr0 : Evs w a E0) (hcap : n ≤ cap) (hc : cap ≤ 9223372036854775807) :
    Calls Try.prog 4 #[.slice a n cap] w fun e w' => e = .returned (.bool true) ∧ Below w.heap.size w w' := by
  go_enter Try.func4, Try.ntmps4
  go_upto_if 14 with fail
  go_cut [0] (fun v wx => ∃ m, v = .slice a m cap ∧ m ≤ 60 ∧ m = (E0.take 60).length ∧ wx = w)
  case first =>
    by_cases h : 60 < n
    · have d : decide ((n : Int) > 60) = true := decide_eq_true (by omega)
      have d' : decide (60 < (n : Int)) = true := decide_eq_true (by omega)
      have g1 : (60 : Int) ≤ (cap : Int) := by omega
      go_wp2_with fail
      go_meet
      exact ⟨60, rfl, by omega, by simp; omega, rfl⟩
    · have d : decide ((n : Int) > 60) = false := decide_eq_false (by omega)
      have d' : decide (60 < (n : Int)) = false := decide_eq_false (by omega)
      go_wp2_with fail
      go_meet
      exact ⟨n, rfl, by omega, by simp; omega, rfl⟩
  case rest =>
    obtain ⟨m, rfl, hm60, hm, rfl⟩ := hcut
    obtain ⟨E, hEq⟩ : ∃ E, E = E0.take 60 := ⟨_, rfl⟩
    have HEV : Hid (Evs wc a E) := Lib.hid (by rw [hEq]; exact hr0.take 60)
    have HEL : Hid (E.length = m) := Lib.hid (by rw [hEq]; exact hm.symm)
    clear hEq hm hr0 hE0 hcap hc
    have hm1000 : m ≤ 1000 := by omega
    go_wp2_with fail
    refine (ops_any HEL.out HEV.out hm1000).mono ?_
    rintro e w1 ⟨v, rfl, o1, b1⟩
    have HB1 := Lib.hid b1
    have HE1 := Lib.hid (HEV.out.below b1)
    obtain ⟨av, cv, rfl⟩ := o1.value
    have HO := Lib.hid o1
    clear b1 o1
    obtain ⟨res, hres⟩ : ∃ res, ops E = res := ⟨_, rfl⟩
    cases res with
    | error at_ =>
      rw [hres] at HO ⊢
      rw [show whyOf (.error at_) = 12 from rfl, show (listOf (.error at_)).length = 0 from rfl]
      go_wp2_with (first | (go_at_call 11; refine (known_any _).mono ?_; rintro e w2 ⟨rfl, b2⟩; have HB2 := Lib.hid (HB1.out.trans (b2.mono HB1.out.size)); clear b2))
      go_ret
      exact ⟨rfl, HB2.out⟩
    | ok s =>
      have HG := Lib.hid (good_ops hres)
      rw [hres] at HO ⊢
      have HO : Hid (Outs w1 (wc.heap.size + 1) wc.heap.size 40 (.slice av s.l.length cv) s.l) := HO
      rw [show whyOf (.ok s) = 0 from rfl, show atOf (.ok s) = 0 from rfl, show (listOf (.ok s)).length = s.l.length from rfl]
      have hsl : s.l.length ≤ 60 := by have := HG.out.len; have := cnt_le 1 E; have := HEL.out; omega
      clear hres
      go_wp2_with fail
      go_loopw [6, 7, 9] (fun cv rv iv wr => ∃ i : Nat, i ≤ m ∧ iv = .int .i64 i ∧ cv = .int .i64 (cnt 1 (E.take i)) ∧ rv = .int .i64 (cnt 2 (E.take i)) ∧ wr = w1) (fun _ _ iv _ => m - (intOf iv).toNat)
      case atStart => exact ⟨0, by omega, rfl, by simp [cnt], by simp [cnt], rfl⟩
      case round =>
        obtain ⟨i, him, rfl, rfl, rfl, rfl⟩ := hrel
        by_cases hi : i < m
        · have h0 : (0 : Int) ≤ (i : Int) := by omega
          have h1 : (i : Int) < (m : Int) := by omega
          obtain ⟨e, he⟩ : ∃ e, E[i]? = some e := ⟨_, List.getElem?_eq_getElem (by rw [HEL.out]; exact hi)⟩
          have t1 := Lib.hid (cnt_take (k := 1) he)
          have t2 := Lib.hid (cnt_take (k := 2) he)
          have l1 : cnt 1 (E.take i) ≤ 60 := by have := cnt_le 1 (E.take i); rw [List.length_take] at this; omega
          have l2 : cnt 2 (E.take i) ≤ 60 := by have := cnt_le 2 (E.take i); rw [List.length_take] at this; omega
          obtain ⟨b, off, rfl, c0⟩ : ∃ b off, a = some ⟨b, off, none⟩ ∧ wr.cell? ⟨b, off + i * 22, none⟩ = some (.int .i64 e.k) := by
            rcases HE1.out with h | ⟨b, off, rfl, _, hat⟩
            · have := HEL.out; omega
            · obtain ⟨_, _, _, _, hR⟩ := hat i e he
              exact ⟨b, off, rfl, hR 0 _ rfl⟩
          clear he
          by_cases k1 : e.k = 1
          · rw [k1] at c0
            have K1 := Lib.hid k1
            clear k1
            go_wp2_with fail
            go_roundw
            case rel => exact ⟨i + 1, by omega, by go_num, by rw [t1.out, if_pos K1.out]; go_num, by rw [t2.out, if_neg (by rw [K1.out]; omega)]; rfl, trivial⟩
            case measure => simp [intOf]; omega
          · by_cases k2 : e.k = 2
            · rw [k2] at c0
              have K1 := Lib.hid k2
              clear k1 k2
              go_wp2_with fail
              go_roundw
              case rel => exact ⟨i + 1, by omega, by go_num, by rw [t1.out, if_neg (by rw [K1.out]; omega)]; rfl, by rw [t2.out, if_pos K1.out]; go_num, trivial⟩
              case measure => simp [intOf]; omega
            · have d1 : (e.k == 1) = false := by simpa using k1
              have d2 : (e.k == 2) = false := by simpa using k2
              have K1 := Lib.hid k1
              have K2 := Lib.hid k2
              clear k1 k2
              go_wp2_with fail
              go_roundw
              case rel => exact ⟨i + 1, by omega, by go_num, by rw [t1.out, if_neg K1.out]; rfl, by rw [t2.out, if_neg K2.out]; rfl, trivial⟩
              case measure => simp [intOf]; omega
        · obtain rfl : i = m := by omega
          have e1 : ¬ (i : Int) < (i : Int) := by omega
          have q1 : cnt 1 (E.take i) = s.l.length := by rw [List.take_of_length_le (by rw [HEL.out]; exact Nat.le_refl _)]; exact HG.out.len.symm
          have q2 : cnt 2 (E.take i) = ended s.l := by rw [List.take_of_length_le (by rw [HEL.out]; exact Nat.le_refl _)]; exact HG.out.end_.symm
          rw [q1, q2]
          clear q1 q2
          go_wp2_with fail
          have q1 : s.l.length ≤ 60 := hsl
          go_loopw [8, 10] (fun nv kv wx => ∃ k : Nat, k ≤ s.l.length ∧ kv = .int .i64 k ∧ nv = .int .i64 (ended (s.l.take k)) ∧ Hid (Below wr.heap.size wr wx)) (fun _ kv _ => s.l.length - (intOf kv).toNat)
          case atStart => exact ⟨0, by omega, rfl, by simp [ended], Below.refl _ _⟩
          case round =>
            obtain ⟨k, hk, rfl, rfl, HX⟩ := hrel
            by_cases hkl : k < s.l.length
            · have k0 : (0 : Int) ≤ (k : Int) := by omega
              have k1 : (k : Int) < (s.l.length : Int) := by omega
              obtain ⟨f, o, cp, e⟩ : ∃ f o cp, Value.slice av s.l.length cv = .slice (some ⟨f, o, none⟩) s.l.length cp := by
                obtain ⟨_, _, hw, _⟩ := HO.out
                exact hw.form (by omega)
              cases e
              have HOX := Lib.hid (HO.out.below HX.out)
              obtain ⟨A, hA⟩ : ∃ A, s.l[k]? = some A := ⟨_, List.getElem?_eq_getElem hkl⟩
              obtain ⟨x, y, z, _, _, R⟩ := HOX.out.row hA
              have HR := Lib.hid R
              have HFL := Lib.hid ((HOX.out.lt f rfl).2)
              obtain ⟨g1, g2, g3, g4, g5⟩ := HG.out.each k A hA
              have te := Lib.hid (ended_take hA)
              have HAA := Lib.hid hA
              have le2 : ended (s.l.take k) ≤ 60 := by have := ended_le (s.l.take k); rw [List.length_take] at this; omega
              have c21 : wr.cell? ⟨f, o + k * 23 + 21, none⟩ = some (.int .i64 A.f) := R 21 _ rfl
              have c22 : wr.cell? ⟨f, o + k * 23 + 22, none⟩ = some (.int .i64 A.o) := R 22 _ rfl
              clear R hA
              go_upto_if 61 with fail
              go_cut [8] (fun nv wy => nv = .int .i64 (ended (s.l.take (k + 1))) ∧ Hid (Below wr.heap.size wr wy))
              case first =>
                rcases g5 with ⟨g5, _⟩ | ⟨g5, g6⟩
                · have d1 : A.o < 0 := by omega
                  have d2 : ¬ 0 ≤ A.o := by omega
                  have HG5 := Lib.hid g5
                  clear g5
                  go_wp2_with fail
                  go_meet
                  exact ⟨by rw [te.out, if_neg (by rw [HG5.out]; omega)]; rfl, Below.refl _ _⟩
                · have d2 : 0 ≤ A.o := by omega
                  have d4 : ¬ A.o ≤ A.f := by omega
                  have d3 : decide (A.o ≤ A.f) = false := decide_eq_false (by omega)
                  have HG5 := Lib.hid g5
                  clear g6
                  go_wp2_with fail
                  go_quiet (fail)
                  go_wp2_with fail
                  go_meet
                  exact ⟨by rw [te.out, if_pos (by have := HG5.out; omega)]; go_num, below_drewN (Below.refl _ _) nq⟩
              case rest =>
                obtain ⟨rfl, HY⟩ := hcut
                go_wp2_with fail
                go_loopw [11] (fun qv wx => ∃ q : Nat, q ≤ k ∧ qv = .int .i64 q ∧ Hid (Below wc.heap.size wc wx)) (fun qv _ => k - (intOf qv).toNat)
                case atStart => exact ⟨0, by omega, rfl, Below.refl _ _⟩
                case round =>
                  obtain ⟨q, hqk, rfl, HQ⟩ := hrel
                  by_cases hq : q < k
                  · have q0 : (0 : Int) ≤ (q : Int) := by omega
                    have qk : (q : Int) < (k : Int) := by omega
                    have ql : (q : Int) < (s.l.length : Int) := by omega
                    have HOY := Lib.hid ((HOX.out.below HY.out).below HQ.out)
                    obtain ⟨C, hC⟩ : ∃ C, s.l[q]? = some C := ⟨_, List.getElem?_eq_getElem (by omega)⟩
                    obtain ⟨x, y, z, _, _, R1⟩ := HOY.out.row HAA.out
                    obtain ⟨x', y', z', _, _, R2⟩ := HOY.out.row hC
                    obtain ⟨r1, r2⟩ := HG.out.rise q k C A hq hC HAA.out
                    have RA := Lib.hid R1
                    have RC := Lib.hid R2
                    have HF2 := (HOY.out.lt f rfl).2
                    have tA : wr.cell? ⟨f, o + k * 23, none⟩ = some (.int .i64 A.t) := R1 0 _ rfl
                    have fA : wr.cell? ⟨f, o + k * 23 + 21, none⟩ = some (.int .i64 A.f) := R1 21 _ rfl
                    have tC : wr.cell? ⟨f, o + q * 23, none⟩ = some (.int .i64 C.t) := R2 0 _ rfl
                    have fC : wr.cell? ⟨f, o + q * 23 + 21, none⟩ = some (.int .i64 C.f) := R2 21 _ rfl
                    have d3 : decide (A.f ≤ C.f) = false := decide_eq_false (by omega)
                    have d4 : ¬ A.f ≤ C.f := by omega
                    clear R1 R2 hC
                    by_cases ht : C.t = A.t
                    · have d1 : (A.t == C.t) = true := by rw [ht]; simp
                      have HBF := Lib.hid (r2 ht)
                      clear r2 ht c21 c22
                      go_wp2_with fail
                      refine wp_region_graft (by kernel_rfl) (by kernel_rfl) ?_
                      repeat (first | (go_big_quiet_want; refine quiet_load_mid 40 (.tmp 94) rfl f (o + q * 23) rfl (C.cells x' y' z') _ Try.underlying40 rfl size40 RC.out HF2 ?_; simp only [Act.put, List.setIfInBounds_toArray, List.set_cons_zero, List.set_cons_succ]; go_big_quiet_on) | (go_big_quiet_want; refine quiet_load_mid 40 (.tmp 98) rfl f (o + k * 23) rfl (A.cells x y z) _ Try.underlying40 rfl size40 RA.out HF2 ?_; simp only [Act.put, List.setIfInBounds_toArray, List.set_cons_zero, List.set_cons_succ]; go_big_quiet_on) | go_big_quiet_step ((go_at_call 10; exact calls_graft (HBF.out ▸ before_any C A x' y' z' x y z _))))
                      refine wpQuiet_nil ?_
                      intro w6 b6
                      go_wp2_with fail
                      go_roundw
                      case rel => exact ⟨q + 1, by omega, by go_num, HQ.out.trans (b6.mono HQ.out.size)⟩
                      case measure => simp [intOf]; omega
                    · have d1 : (A.t == C.t) = false := by simp; exact fun h => ht h.symm
                      clear r2 ht c21 c22
                      go_wp2_with fail
                      refine wp_region_graft (by kernel_rfl) (by kernel_rfl) ?_
                      repeat (go_big_quiet_step (fail))
                      refine wpQuiet_nil ?_
                      intro w6 b6
                      go_wp2_with fail
                      go_roundw
                      case rel => exact ⟨q + 1, by omega, by go_num, HQ.out.trans (b6.mono HQ.out.size)⟩
                      case measure => simp [intOf]; omega
                  · obtain rfl : q = k := by omega
                    have e1 : ¬ (q : Int) < (q : Int) := by omega
                    clear c21 c22
                    go_wp2_with fail
                    go_roundw
                    case rel => exact ⟨q + 1, by omega, by go_num, rfl, (HX.out.trans (HY.out.mono HX.out.size)).trans (HQ.out.mono (Nat.le_trans HX.out.size HY.out.size))⟩
                    case measure => simp [intOf]; omega
            · obtain rfl : k = s.l.length := by omega
              have e1 : ¬ (s.l.length : Int) < (s.l.length : Int) := by omega
              rw [List.take_length]
              go_wp2_with (first | (go_at_call 11; refine (known_any _).mono ?_; rintro e w2 ⟨rfl, b2⟩; have HB2 := Lib.hid ((HB1.out.trans (HX.out.mono HB1.out.size)).trans (b2.mono (Nat.le_trans HB1.out.size HX.out.size))); clear b2))
              go_ret
              exact ⟨rfl, HB2.out⟩
end Go.Proofs.Ytidonelhapmceaa
