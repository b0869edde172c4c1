/- The walk of the rules by the words. -/
import Derived.Test.YtjefjonogbkknaaTabl
import Derived.Test.YtjefjonogbkknaaRops
namespace Go.Proofs.Ytjefjonogbkknaa
open Go.RowKit

theorem Evs.take {w : World} {a : Option Addr} {E : List Ev} (h : Evs w a E) (k : Nat) : Evs w a (E.take k) := by
  rcases h with h | ⟨b, off, rfl, hb, hev⟩
  · exact .inl (by rw [List.length_take]; omega)
  · refine .inr ⟨b, off, rfl, hb, fun i e he => hev i e ?_⟩
    rw [List.getElem?_take] at he
    split at he
    · exact he
    · cases he
theorem call_sub {w : World} {b o : Nat} {e : Ev} {x y z : Value} (h : w.rangeAt b o (e.cells x y z)) : w.rangeAt b (o + 2) (e.c.cells x) := fun j v hj => by
  have hl : j < 9 := (List.getElem?_eq_some_iff.1 hj).1
  rw [Nat.add_assoc]
  refine h (2 + j) v ?_
  rw [← hj]
  match j, hl with
  | 0, _ | 1, _ | 2, _ | 3, _ | 4, _ | 5, _ | 6, _ | 7, _ | 8, _ => rfl
set_option maxRecDepth 100000 in
set_option maxHeartbeats 8000000 in
theorem rshapes_any {w : World} {a : Option Addr} {n cap : Nat} {E : List Ev} (hE : E.length = n) (hr : Evs w a E) (hn : n ≤ 1000) (hcap : n ≤ cap) :
    Calls Try.prog 5 #[.slice a n cap] w fun e w' => e = .returned (.tuple #[.int .i64 (shp E).1, .int .i64 (shp E).2]) ∧ Below w.heap.size w w' := by
  have HEV := Lib.hid hr
  have HEL := Lib.hid hE
  clear hr hE
  go_enter Try.func5, Try.ntmps5
  go_wp2_with fail
  go_loopw [5] (fun iv wr => ∃ i s, i ≤ n ∧ iv = .int .i64 i ∧ Hid (At E i s ∧ Holds wr w.heap.size (opArr (opn E i)) ∧ Below w.heap.size w wr)) (fun iv _ => n - (intOf iv).toNat)
  case atStart => exact ⟨0, St.new, by omega, rfl, At.new E, Holds.new _ _ _, (Below.refl _ _).alloc (Nat.le_refl _) _⟩
  case round =>
    obtain ⟨i, s, hin, rfl, HS⟩ := hrel
    by_cases hi : i < n
    · have h0 : (0 : Int) ≤ (i : Int) := by omega
      have h1 : (i : Int) < (n : Int) := by omega
      have h2 : (0 : Int) ≤ (i : Int) + 1 := by omega
      have h3 : (i : Int) + 1 ≤ (cap : Int) := by omega
      have h4 : ((i : Int) + 1).toNat = i + 1 := by omega
      have h5 : wrap64 ((i : Int) + 1) = (i : Int) + 1 := by unfold wrap64; omega
      obtain ⟨e, he⟩ : ∃ e, E[i]? = some e := ⟨_, List.getElem?_eq_getElem (by have := HEL.out; omega)⟩
      rcases HEV.out with hr | ⟨b, off, rfl, hb, hev⟩
      · have := HEL.out
        omega
      have hops := ops_next HS.out.1.ok he
      obtain ⟨Y1, hY1⟩ : ∃ Y1, whyOf (ops (E.take (i + 1))) = Y1 := ⟨_, rfl⟩
      obtain ⟨A1, hA1⟩ : ∃ A1, atOf (ops (E.take (i + 1))) = A1 := ⟨_, rfl⟩
      have HX12 : Hid (∀ X, Below w.heap.size w X → Calls Try.prog 12 #[.slice (some ⟨b, off, none⟩) (i + 1) cap] X fun e' w' => (∃ v, e' = .returned (.tuple #[v, .int .i64 Y1, .int .i64 A1])) ∧ Below X.heap.size X w') := Lib.hid (fun X hX => by
        refine (rops_any (E := E.take (i + 1)) (by rw [List.length_take]; have := HEL.out; omega) ((HEV.out.take (i + 1)).below hX) (by omega)).mono ?_
        rintro e' w' ⟨v, rfl, _, bb⟩
        exact ⟨⟨v, by rw [hY1, hA1]⟩, bb⟩)
      obtain ⟨x, y, z, ht, hR⟩ := hev i e he
      have HHEV := Lib.hid hev
      have HRR := Lib.hid hR
      have HTT := Lib.hid ht
      have HA := Lib.hid HS.out.1
      have HEE := Lib.hid he
      have HOPS := Lib.hid hops
      have HY1 := Lib.hid hY1
      have HA1 := Lib.hid hA1
      have HB0 := Lib.hid HS.out.2.2
      have HO := Lib.hid HS.out.2.1
      clear hev hR ht he hops hY1 hA1 HS
      go_upto_region 7 with (first | (go_at_call 12; refine (HX12.out _ HB0.out).mono ?_; rintro e5 w5 ⟨⟨v5, rfl⟩, b5⟩; have HO := Lib.hid (HO.out.below b5); have HB0 := Lib.hid (HB0.out.trans (b5.mono HB0.out.size)); clear b5))
      obtain ⟨W0, hW0⟩ : ∃ W0, W0 = w5 := ⟨_, rfl⟩
      rw [← hW0] at HO HB0 ⊢
      clear hW0 HX12
      by_cases hbad : badE s e = true
      · have e1 : Y1 = 12 := by rw [← HY1.out, HOPS.out, if_pos hbad]; rfl
        have e2 : A1 = (i : Int) := by rw [← HA1.out, HOPS.out, if_pos hbad]; rfl
        have d1 : (Y1 == 0) = false := by rw [e1]; rfl
        have d1' : (Y1 != 0) = true := by rw [e1]; rfl
        have HE2 := Lib.hid e2
        have HV : Hid (verdE E i s e = some (1, (i : Int))) := Lib.hid (by unfold verdE; rw [if_pos hbad])
        clear hbad e1 e2 HY1 HA1
        go_wp2_with fail
        go_ret2
        refine ⟨?_, HB0.out⟩
        rw [shp_at (p := (1, (i : Int))) (by have := HEL.out; omega) HA.out.none (by rw [verd_of HA.out.ok HEE.out]; exact HV.out), ← HE2.out]
        rfl
      · have e1 : Y1 = 0 := by rw [← HY1.out, HOPS.out, if_neg hbad]; rfl
        have d1 : (Y1 == 0) = true := by rw [e1]; rfl
        have d1' : (Y1 != 0) = false := by rw [e1]; rfl
        have hb0 : badE s e = false := by simpa using hbad
        have HBAD := Lib.hid hb0
        have HV0 : Hid (verdE E i s e = if e.k = 2 ∧ calI (callAt E (opn E i e.t.toNat)) e.c = false then some (2, (i : Int))
            else if e.k = 2 ∧ fldI e.c.c0 e.r = false then some (3, (i : Int)) else if e.k ≠ 2 ∧ sameI e.r Res.zero = false then some (4, (i : Int)) else none) := Lib.hid (by unfold verdE; rw [if_neg hbad])
        clear hbad hb0 e1 HY1 HA1
        go_upto_region 9 with fail
        clear d1 d1'
        have R1 : W0.rangeAt b (off + i * 22) (e.cells x y z) := fun j v hj => (HB0.out.cell (p := ⟨b, off + i * 22 + j, none⟩) hb).trans (HRR.out j v hj)
        have ZA : Hid (∀ C : Array Value, C.size = 22 → (W0.alloc (.cells C 42)).there W0.heap.size 0 (e.cells x y z).toArray.size) := Lib.hid (fun C hC => by
          have := (Holds.new W0 C 42).there
          rw [hC] at this
          exact this)
        have EO := Ev.one HTT.out
        go_upto_region 10 with (first | (refine wpList_load_mid rfl 42 (.tmp 42) rfl b (off + i * 22) rfl (e.cells x y z) _ R1 Try.underlying42 rfl size35 ?_) | (refine wpList_store_mid rfl 42 (.tmp 12) (.tmp 43) rfl W0.heap.size 0 (e.cells x y z).toArray rfl rfl (ZA.out _ rfl) size35 EO ?_))
        obtain ⟨n1, n2⟩ := new_set (w := W0) (C := (#[.int .i64 0, .int .i64 0, .int .i64 0, .string ⟨#[]⟩, .string ⟨#[]⟩, .int .i64 0, .int .i64 0, .int .i64 0, .int .i64 0, .int .i64 0, .slice none 0 0, .int .i64 0, .int .i64 0, .slice none 0 0, .slice none 0 0, .int .i64 0, .int .i64 0, .int .i64 0, .int .i64 0, .int .i64 0, .int .i64 0, .int .i64 0] : Array Value)) (ty := 42) (vs := e.cells x y z) rfl
        have HQ := Lib.hid n1
        have HQ2 := Lib.hid n2
        clear n1 n2
        generalize ((W0.alloc (.cells (#[.int .i64 0, .int .i64 0, .int .i64 0, .string ⟨#[]⟩, .string ⟨#[]⟩, .int .i64 0, .int .i64 0, .int .i64 0, .int .i64 0, .int .i64 0, .slice none 0 0, .int .i64 0, .int .i64 0, .slice none 0 0, .slice none 0 0, .int .i64 0, .int .i64 0, .int .i64 0, .int .i64 0, .int .i64 0, .int .i64 0, .int .i64 0] : Array Value) 42)).setCells W0.heap.size 0 (e.cells x y z)) = W at *
        have HR : Hid (Rnd w W W0.heap.size e x y z) := Lib.hid ⟨HB0.out.trans (HQ2.out.mono HB0.out.size), HQ.out, HTT.out⟩
        have hBw : w.heap.size < W0.heap.size := HO.out.lt
        have HO := Lib.hid (HO.out.below HQ2.out)
        obtain ⟨Bq, hBq⟩ : ∃ Bq, Bq = W0.heap.size := ⟨_, rfl⟩
        rw [← hBq] at HR hBw ⊢
        clear HQ HQ2 ZA EO R1 hBq HB0
        have HBq := HR.out.row.lt
        have HBt := HO.out.lt
        have v0 : W.cell? ⟨Bq, 0, none⟩ = some (.int .i64 e.k) := HR.out.kind
        by_cases hk : e.k = 2
        · have HK := Lib.hid hk
          rw [hk] at v0
          obtain ⟨T, hT, het, hetn, hop, htab⟩ := HA.out.back HBAD.out hk
          have HETN := Lib.hid hetn
          have v1 : W.cell? ⟨Bq, 1, none⟩ = some (.int .i64 (T : Int)) := by rw [← het]; exact HR.out.thread
          have t0 : (0 : Int) ≤ (T : Int) := by omega
          have t1 : (T : Int) < 8 := by omega
          obtain ⟨J, hJ⟩ : ∃ J, opn E i T = J := ⟨_, rfl⟩
          have vT : W.cell? ⟨w.heap.size, T, none⟩ = some (.int .i64 (J : Int)) := by rw [← hJ]; exact (HO.out.cell T).trans (opArr_get _ hT)
          rw [hJ] at hop
          have j0 : (0 : Int) ≤ (J : Int) := by omega
          have j1 : (J : Int) < (n : Int) := by omega
          obtain ⟨g, hg⟩ : ∃ g, E[J]? = some g := ⟨_, List.getElem?_eq_getElem (by have := HEL.out; omega)⟩
          have hca : callAt E (opn E i e.t.toNat) = g.c := by rw [hetn, hJ]; unfold callAt; rw [hg]
          obtain ⟨xg, yg, zg, tg, rg⟩ := HHEV.out J g hg
          have RG := Lib.hid (call_sub (fun j v hj => (HR.out.bel.cell (p := ⟨b, off + J * 22 + j, none⟩) hb).trans (rg j v hj) : W.rangeAt b (off + J * 22) (g.cells xg yg zg)))
          have hbW : b < W.heap.size := Nat.lt_of_lt_of_le hb HR.out.bel.size
          have RC := Lib.hid HR.out.call
          obtain ⟨V, hV⟩ : ∃ V, calI g.c e.c = V := ⟨_, rfl⟩
          have HX14 : Hid (∀ X, Below W.heap.size W X → Calls Try.prog 14 #[.agg (g.c.cells xg).toArray, .agg (e.c.cells x).toArray] X fun e' w' => e' = .returned (.bool V) ∧ Below X.heap.size X w') := Lib.hid (fun X hX => by
            rw [← hV]
            exact keepCall_any (tg.1.below (HR.out.bel.trans (hX.mono HR.out.bel.size))) (HR.out.tri.1.below (HR.out.bel.trans (hX.mono HR.out.bel.size))))
          have HVV := Lib.hid hV
          have HCA := Lib.hid hca
          clear het hetn htab tg rg hk hV hca hJ hg hop
          go_upto_region 15 with fail
          cases V with
          | false =>
            have HV : Hid (verdE E i s e = some (2, (i : Int))) := Lib.hid (by
              rw [HV0.out, if_pos ⟨HK.out, by rw [HCA.out, HVV.out]⟩])
            refine wp_region_graft (by kernel_rfl) (by kernel_rfl) ?_
            repeat (first | (go_big_quiet_want; refine quiet_load_mid 39 (.tmp 71) rfl b (off + J * 22 + 2) rfl (g.c.cells xg) _ Try.underlying39 rfl size28 RG.out hbW ?_; simp only [Act.put, List.setIfInBounds_toArray, List.set_cons_zero, List.set_cons_succ]; go_big_quiet_on) | (go_big_quiet_want; refine quiet_load_mid 39 (.tmp 73) rfl Bq 2 rfl (e.c.cells x) _ Try.underlying39 rfl size28 RC.out HBq ?_; simp only [Act.put, List.setIfInBounds_toArray, List.set_cons_zero, List.set_cons_succ]; go_big_quiet_on) | go_big_quiet_step ((go_at_call 14; with_reducible exact calls_graft (HX14.out _ (graft_below _ _)))))
            refine wpQuiet_nil ?_
            intro w6 b6
            have HR := Lib.hid (HR.out.below b6)
            clear HX14 b6 v0 v1 vT RG RC
            go_wp2_with fail
            go_ret2
            refine ⟨?_, HR.out.bel⟩
            rw [shp_at (p := (2, (i : Int))) (by have := HEL.out; omega) HA.out.none (by rw [verd_of HA.out.ok HEE.out]; exact HV.out)]
            rfl
          | true =>
            have HV1 : Hid (verdE E i s e = if e.k = 2 ∧ fldI e.c.c0 e.r = false then some (3, (i : Int)) else if e.k ≠ 2 ∧ sameI e.r Res.zero = false then some (4, (i : Int)) else none) := Lib.hid (by
              rw [HV0.out, if_neg (fun h => by
                have := h.2
                rw [HCA.out, HVV.out] at this
                cases this)])
            refine wp_region_graft (by kernel_rfl) (by kernel_rfl) ?_
            repeat (first | (go_big_quiet_want; refine quiet_load_mid 39 (.tmp 71) rfl b (off + J * 22 + 2) rfl (g.c.cells xg) _ Try.underlying39 rfl size28 RG.out hbW ?_; simp only [Act.put, List.setIfInBounds_toArray, List.set_cons_zero, List.set_cons_succ]; go_big_quiet_on) | (go_big_quiet_want; refine quiet_load_mid 39 (.tmp 73) rfl Bq 2 rfl (e.c.cells x) _ Try.underlying39 rfl size28 RC.out HBq ?_; simp only [Act.put, List.setIfInBounds_toArray, List.set_cons_zero, List.set_cons_succ]; go_big_quiet_on) | go_big_quiet_step ((go_at_call 14; with_reducible exact calls_graft (HX14.out _ (graft_below _ _)))))
            refine wpQuiet_nil ?_
            intro w6 b6
            have HR := Lib.hid (HR.out.below b6)
            have HO := Lib.hid (HO.out.below b6)
            clear HX14 b6 v0 v1 vT RG RC HVV
            have v0 : w6.cell? ⟨Bq, 0, none⟩ = some (.int .i64 e.k) := HR.out.kind
            rw [HK.out] at v0
            have v2 : w6.cell? ⟨Bq, 2, none⟩ = some (.int .i64 e.c.c0) := HR.out.oper
            have RR := Lib.hid HR.out.res
            obtain ⟨V, hV⟩ : ∃ V, fldI e.c.c0 e.r = V := ⟨_, rfl⟩
            have HX7 : Hid (∀ X, Below w6.heap.size w6 X → Calls Try.prog 7 #[.int .i64 e.c.c0, .agg (e.r.cells y z).toArray] X fun e' w' => e' = .returned (.bool V) ∧ Below X.heap.size X w') := Lib.hid (fun X hX => by
              rw [← hV]
              exact ref_any e.c.c0 (HR.out.tri.2.1.below (HR.out.bel.trans (hX.mono HR.out.bel.size))) (HR.out.tri.2.2.below (HR.out.bel.trans (hX.mono HR.out.bel.size))))
            have HVV := Lib.hid hV
            clear hV
            cases V with
            | false =>
              have HV : Hid (verdE E i s e = some (3, (i : Int))) := Lib.hid (by
                rw [HV1.out, if_pos ⟨HK.out, HVV.out⟩])
              go_wp2_with (first | (refine wpList_load_mid_g (by rfl) 29 (.tmp 81) rfl Bq 11 rfl (e.r.cells y z) _ ?_ Try.underlying29 rfl size33 ?_; (exact RR.out)) | (go_at_call 7; refine (HX7.out _ (Below.refl _ _)).mono ?_; rintro e6 w7 ⟨rfl, b7⟩; have HR := Lib.hid (HR.out.below b7); have HO := Lib.hid (HO.out.below b7); clear b7))
              go_ret2
              refine ⟨?_, HR.out.bel⟩
              rw [shp_at (p := (3, (i : Int))) (by have := HEL.out; omega) HA.out.none (by rw [verd_of HA.out.ok HEE.out]; exact HV.out)]
              rfl
            | true =>
              have HV : Hid (verdE E i s e = none) := Lib.hid (by
                rw [HV1.out, if_neg (fun h => by have := h.2; rw [HVV.out] at this; cases this), if_neg (fun h => h.1 HK.out)])
              go_wp2_with (first | (refine wpList_load_mid_g (by rfl) 29 (.tmp 81) rfl Bq 11 rfl (e.r.cells y z) _ ?_ Try.underlying29 rfl size33 ?_; (exact RR.out)) | (go_at_call 7; refine (HX7.out _ (Below.refl _ _)).mono ?_; rintro e6 w7 ⟨rfl, b7⟩; have HR := Lib.hid (HR.out.below b7); have HO := Lib.hid (HO.out.below b7); clear b7))
              go_roundw
              case rel => exact ⟨i + 1, stepX s i e, by omega, by go_num, HA.out.next HEE.out HV.out, by
                have := opn_next HEE.out
                rw [if_neg (by have := HK.out; omega)] at this
                rw [this]; exact HO.out, HR.out.bel⟩
              case measure => simp [intOf]; omega
        · have d2 : (e.k == 2) = false := by simpa using hk
          have d2' : (e.k != 2) = true := by simpa using hk
          have HK := Lib.hid hk
          have HV1 : Hid (verdE E i s e = if sameI e.r Res.zero = false then some (4, (i : Int)) else none) := Lib.hid (by
            rw [HV0.out, if_neg (fun h => hk h.1), if_neg (fun h => hk h.1)]
            simp [hk])
          clear hk
          have RR := Lib.hid HR.out.res
          obtain ⟨V, hV⟩ : ∃ V, sameI e.r Res.zero = V := ⟨_, rfl⟩
          have HVV := Lib.hid hV
          clear hV
          have HX13 : Hid (∀ X, Below W.heap.size W X → Calls Try.prog 13 #[.agg (e.r.cells y z).toArray, .agg (Res.zero.cells (.slice none 0 0) (.slice none 0 0)).toArray] X fun e' w' => e' = .returned (.bool V) ∧ Below X.heap.size X w') := Lib.hid (fun X hX => by
            rw [← HVV.out]
            exact result_any (HR.out.tri.2.1.below (HR.out.bel.trans (hX.mono HR.out.bel.size))) (HR.out.tri.2.2.below (HR.out.bel.trans (hX.mono HR.out.bel.size))) (Den.nil _ _) (Den.nil _ _))
          cases V with
          | false =>
            have HV : Hid (verdE E i s e = some (4, (i : Int))) := Lib.hid (by
              rw [HV1.out, if_pos HVV.out])
            go_wp2_with (first | (refine wpList_load_mid_g (by rfl) 29 (.tmp 48) rfl Bq 11 rfl (e.r.cells y z) _ ?_ Try.underlying29 rfl size33 ?_; (exact RR.out)) | (go_at_call 13; refine (HX13.out _ (Below.refl _ _)).mono ?_; rintro e6 w7 ⟨rfl, b7⟩; have HR := Lib.hid (HR.out.below b7); have HO := Lib.hid (HO.out.below b7); clear b7))
            go_ret2
            refine ⟨?_, HR.out.bel⟩
            rw [shp_at (p := (4, (i : Int))) (by have := HEL.out; omega) HA.out.none (by rw [verd_of HA.out.ok HEE.out]; exact HV.out)]
            rfl
          | true =>
            have HV : Hid (verdE E i s e = none) := Lib.hid (by
              rw [HV1.out, if_neg (fun h => by rw [HVV.out] at h; cases h)])
            go_upto_region 12 with (first | (refine wpList_load_mid_g (by rfl) 29 (.tmp 48) rfl Bq 11 rfl (e.r.cells y z) _ ?_ Try.underlying29 rfl size33 ?_; (exact RR.out)) | (go_at_call 13; refine (HX13.out _ (Below.refl _ _)).mono ?_; rintro e6 w7 ⟨rfl, b7⟩; have HR := Lib.hid (HR.out.below b7); have HO := Lib.hid (HO.out.below b7); clear b7))
            have v0 : w7.cell? ⟨Bq, 0, none⟩ = some (.int .i64 e.k) := HR.out.kind
            by_cases hk1 : e.k = 1
            · rw [hk1] at v0
              obtain ⟨T, hT, het, hetn⟩ := HA.out.call HBAD.out hk1
              have HK1 := Lib.hid hk1
              have HETN := Lib.hid hetn
              have v1 : w7.cell? ⟨Bq, 1, none⟩ = some (.int .i64 (T : Int)) := by rw [← het]; exact HR.out.thread
              have t0 : (0 : Int) ≤ (T : Int) := by omega
              have t1 : (T : Int) < 8 := by omega
              have vT : w7.cell? ⟨w.heap.size, T, none⟩ = some (.int .i64 (opn E i T : Int)) := (HO.out.cell T).trans (opArr_get _ hT)
              have fT : w7.frozen? ⟨w.heap.size, T, none⟩ = false := HO.out.free T
              clear hk1 het hetn
              go_upto_region 14 with fail
              have HO2 : Hid (Holds (w7.setCell ⟨w.heap.size, T, none⟩ (.int .i64 (i : Int))) w.heap.size (opArr (upd (opn E i) T i))) := Lib.hid (by
                have := HO.out.set T (.int .i64 (i : Int)) hT
                rw [opArr_set _ hT] at this
                exact this)
              have hne : w.heap.size ∉ [Bq] := by simp; omega
              have F8 := Lib.hid (HR.out.bel.trans (((Frm.refl [w.heap.size] w7).setCell (p := ⟨w.heap.size, T, none⟩) (by simp) (.int .i64 (i : Int))).below HR.out.bel.size (by simp)))
              have v0' : (w7.setCell ⟨w.heap.size, T, none⟩ (.int .i64 (i : Int))).cell? ⟨Bq, 0, none⟩ = some (.int .i64 1) := (World.cell?_setCell_other _ _ _ _ (by intro hh; cases hh; exact hne (by simp))).trans v0
              clear v0 v1 vT fT
              generalize w7.setCell ⟨w.heap.size, T, none⟩ (.int .i64 (i : Int)) = w8 at *
              go_wp2_with fail
              go_roundw
              case rel => exact ⟨i + 1, stepX s i e, by omega, by go_num, HA.out.next HEE.out HV.out, by
                have := opn_next HEE.out
                rw [if_pos HK1.out, HETN.out] at this
                rw [this]; exact HO2.out, F8.out⟩
              case measure => simp [intOf]; omega
            · have d3 : (e.k == 1) = false := by simpa using hk1
              have HK1 := Lib.hid hk1
              clear hk1
              go_wp2_with fail
              go_roundw
              case rel => exact ⟨i + 1, stepX s i e, by omega, by go_num, HA.out.next HEE.out HV.out, by
                have := opn_next HEE.out
                rw [if_neg HK1.out] at this
                rw [this]; exact HO.out, HR.out.bel⟩
              case measure => simp [intOf]; omega
    · obtain rfl : i = n := by omega
      have h1 : ¬ (i : Int) < (i : Int) := by omega
      go_wp2_with fail
      go_ret2
      refine ⟨?_, HS.out.2.2⟩
      rw [shp_none (fun j hj => HS.out.1.none j (by rw [HEL.out] at hj; exact hj))]
      rfl
end Go.Proofs.Ytjefjonogbkknaa
