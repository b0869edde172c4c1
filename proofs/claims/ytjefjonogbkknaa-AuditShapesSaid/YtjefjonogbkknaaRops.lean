/- The walk of the reference's Ops. -/
import Derived.Test.YtjefjonogbkknaaOps
namespace Go.Proofs.Ytjefjonogbkknaa
open Go.RowKit

theorem info56 : (Try.prog.info? 56).map (fun i => (i.zero, i.size, i.bytes)) = some (some (.agg (OpI.zero.cells (.slice none 0 0) (.slice none 0 0) (.slice none 0 0)).toArray), 23, 248) := by kernel_rfl

set_option maxRecDepth 100000 in
set_option maxHeartbeats 16000000 in
theorem rops_any {w : World} {a : Option Addr} {n cap : Nat} {E : List Ev} (hE : E.length = n) (hr : Evs w a E) (hn : n ≤ 1000) :
    Calls Try.prog 12 #[.slice a n cap] w fun e w' => ∃ v, e = .returned (.tuple #[v, .int .i64 (whyOf (ops E)), .int .i64 (atOf (ops E))]) ∧ Outs w' (w.heap.size + 1) w.heap.size 56 v (listOf (ops E)) ∧ Below w.heap.size w w' := by
  obtain ⟨i40, hi40, hz0, hz1, hz2⟩ := info_parts info56
  go_enter Try.func12, Try.ntmps12
  go_wp2_with fail
  have HO : Hid (Holds (w.alloc (.cells (opArr fun _ => 0) 45)) w.heap.size (opArr fun _ => 0)) := Lib.hid (Holds.new _ _ _)
  have HB : Hid (Below w.heap.size w (w.alloc (.cells (opArr fun _ => 0) 45))) := Lib.hid ((Below.refl _ _).alloc (Nat.le_refl _) _)
  go_loopw [5, 7] (fun ov iv wr => ∃ i s, i ≤ n ∧ iv = .int .i64 i ∧ Hid (s.fine ∧ s.l.length ≤ i ∧ runE (E.drop i) i s = ops E ∧ Outs wr (w.heap.size + 1) w.heap.size 56 ov s.l ∧ Holds wr w.heap.size (opArr s.op) ∧ Below w.heap.size w wr)) (fun _ iv _ => n - (intOf iv).toNat)
  case atStart => exact ⟨0, St.new, by omega, rfl, St.fine_new, by simp [St.new], rfl, Outs.nil _ _ _ _, HO.out, HB.out⟩
  case round =>
    obtain ⟨i, s, hin, rfl, HS⟩ := hrel
    by_cases hi : i < n
    · have h0 : (0 : Int) ≤ (i : Int) := by omega
      have h1 : (i : Int) < (n : Int) := by omega
      obtain ⟨e, he⟩ : ∃ e, E[i]? = some e := ⟨_, List.getElem?_eq_getElem (by omega)⟩
      rcases hr with hr | ⟨b, off, rfl, hb, hev⟩
      · omega
      obtain ⟨x, y, z, ht, hR⟩ := hev i e he
      have HT0 := Lib.hid ht
      have hst := runE_drop he s
      have R1 : wr.rangeAt b (off + i * 22) (e.cells x y z) := fun j v hj => (HS.out.2.2.2.2.2.cell (p := ⟨b, off + i * 22 + j, none⟩) hb).trans (hR j v hj)
      have ZA : Hid (∀ C : Array Value, C.size = 22 → (wr.alloc (.cells C 42)).there wr.heap.size 0 (e.cells x y z).toArray.size) := Lib.hid (fun C hC => by
        have := (Holds.new wr C 42).there
        rw [hC] at this
        exact this)
      have EO := Ev.one ht
      have HR1 := Lib.hid R1
      have HEO := Lib.hid EO
      clear R1 EO
      go_upto_region 7 with (first | (refine wpList_load_mid rfl 42 (.tmp 18) rfl b (off + i * 22) rfl (e.cells x y z) _ ?_ Try.underlying42 rfl size35 ?_; (exact HR1.out)) | (refine wpList_store_mid rfl 42 (.tmp 8) (.tmp 19) rfl wr.heap.size 0 (e.cells x y z).toArray rfl rfl ?_ size35 HEO.out ?_; (exact (ZA.out _ rfl))))
      obtain ⟨h2a, h2b⟩ := new_set (w := wr) (C := (#[.int .i64 0, .int .i64 0, .int .i64 0, .string ⟨#[]⟩, .string ⟨#[]⟩, .int .i64 0, .int .i64 0, .int .i64 0, .int .i64 0, .int .i64 0, .slice none 0 0, .int .i64 0, .int .i64 0, .slice none 0 0, .slice none 0 0, .int .i64 0, .int .i64 0, .int .i64 0, .int .i64 0, .int .i64 0, .int .i64 0, .int .i64 0] : Array Value)) (ty := 42) (vs := e.cells x y z) rfl
      have H2a := Lib.hid h2a
      have H2b := Lib.hid h2b
      clear h2a h2b
      generalize ((wr.alloc (.cells (#[.int .i64 0, .int .i64 0, .int .i64 0, .string ⟨#[]⟩, .string ⟨#[]⟩, .int .i64 0, .int .i64 0, .int .i64 0, .int .i64 0, .int .i64 0, .slice none 0 0, .int .i64 0, .int .i64 0, .slice none 0 0, .slice none 0 0, .int .i64 0, .int .i64 0, .int .i64 0, .int .i64 0, .int .i64 0, .int .i64 0, .int .i64 0] : Array Value) 42)).setCells wr.heap.size 0 (e.cells x y z)) = W at *
      obtain ⟨Bq, hBq⟩ : ∃ Bq, Bq = wr.heap.size := ⟨_, rfl⟩
      have hBw : w.heap.size < Bq := by rw [hBq]; exact HS.out.2.2.2.2.1.lt
      have hub : Hid (∀ k, u5.ownBlock = some k → w.heap.size + 1 ≤ k ∧ k < Bq) := Lib.hid (by rw [hBq]; exact HS.out.2.2.2.1.lt)
      have H3 : Hid (s.fine ∧ s.l.length ≤ i ∧ runE (E.drop i) i s = ops E ∧ Outs W (w.heap.size + 1) w.heap.size 56 u5 s.l ∧ Holds W w.heap.size (opArr s.op) ∧ Below w.heap.size w W) := Lib.hid (by
        obtain ⟨a1, a2, a3, a4, a5, a6⟩ := HS.out
        exact ⟨a1, a2, a3, a4.below H2b.out, a5.below H2b.out, a6.trans (H2b.out.mono a6.size)⟩)
      rw [← hBq] at H2a ⊢
      have H4 := Lib.hid H2a.out
      have HT := Lib.hid (ht.below H3.out.2.2.2.2.2)
      have v0 : W.cell? ⟨Bq, 0, none⟩ = some (.int .i64 e.k) := H4.out.cell 0
      have v1 : W.cell? ⟨Bq, 1, none⟩ = some (.int .i64 e.t) := H4.out.cell 1
      have HST := Lib.hid hst
      clear hst H2a H2b HS ZA HEO HR1 hR ht hev hBq he
      by_cases hk3 : e.k = 3
      · have d3 : (e.k == 3) = true := by simpa using hk3
        have HK3 := Lib.hid hk3
        clear hk3
        go_wp2_with fail
        go_roundw
        case rel => exact ⟨i + 1, s, by omega, by go_num, H3.out.1, by have := H3.out.2.1; omega, by have := HST.out; rw [if_pos HK3.out] at this; exact this.symm.trans H3.out.2.2.1, H3.out.2.2.2⟩
        case measure => simp [intOf]; omega
      · have d3 : (e.k == 3) = false := by simpa using hk3
        have HK3 := Lib.hid hk3
        clear hk3
        by_cases hok : okE s e = true
        · have hnx : Hid (runE (E.drop (i + 1)) (i + 1) (stepE s i e) = ops E) := Lib.hid (by
            have := HST.out
            rw [if_neg HK3.out, if_pos hok] at this
            exact this.symm.trans H3.out.2.2.1)
          obtain ⟨T, hT, he, h12⟩ := okE_yes hok
          rw [he] at v1
          have HE := Lib.hid he
          have t0 : (0 : Int) ≤ (T : Int) := by omega
          have t1 : (T : Int) < 8 := by omega
          have t2 : decide ((T : Int) < 0) = false := decide_eq_false (by omega)
          have t3 : decide (8 ≤ (T : Int)) = false := decide_eq_false (by omega)
          have vT : W.cell? ⟨w.heap.size, T, none⟩ = some (.int .i64 (s.op T)) := (H3.out.2.2.2.2.1.cell T).trans (opArr_get s.op hT)
          have hlen := H3.out.2.1
          clear he hok
          rcases h12 with ⟨h1, h2⟩ | ⟨h1, q, h2⟩
          · rw [h1] at v0
            rw [h2] at vT
            have HK1 := Lib.hid h1
            have HOP := Lib.hid h2
            have HLW := H4.out.lt
            have hbs : w.heap.size + 1 ≤ W.heap.size := by omega
            obtain ⟨rows, hR⟩ := H3.out.2.2.2.1
            have hR := Lib.hid hR
            have T9 := Lib.hid (show Tri W (⟨(T : Int), i, -1, e.c, Res.zero⟩ : OpI).c (⟨(T : Int), i, -1, e.c, Res.zero⟩ : OpI).r x (.slice none 0 0) (.slice none 0 0) from ⟨HT.out.1, Den.nil _ _, Den.nil _ _⟩)
            have hO9 := Lib.hid (OpI.one T9.out)
            have R3 : Hid (W.rangeAt Bq 2 [.int .i64 e.c.c0, .string e.c.c1, .string e.c.c2, .int .i64 e.c.c3, .int .i64 e.c.c4, .int .i64 e.c.c5, .int .i64 e.c.c6, .int .i64 e.c.c7, x]) := Lib.hid (fun j v hj => by
              have hl : j < 9 := (List.getElem?_eq_some_iff.1 hj).1
              rw [H4.out.cell, ← hj]
              match j, hl with
              | 0, _ | 1, _ | 2, _ | 3, _ | 4, _ | 5, _ | 6, _ | 7, _ | 8, _ => rfl)
            clear h1 h2
            go_upto_region 15 with (first | (refine wpList_load_mid rfl 39 (.tmp 58) rfl Bq 2 rfl [.int .i64 e.c.c0, .string e.c.c1, .string e.c.c2, .int .i64 e.c.c3, .int .i64 e.c.c4, .int .i64 e.c.c5, .int .i64 e.c.c6, .int .i64 e.c.c7, x] _ ?_ Try.underlying39 rfl size28 ?_; (exact R3.out)) | (at_builtin; refine wpList_append_win _ rfl (.tmp 55) (.tmp 62) 46 rfl (w.heap.size + 1) 56 i40 _ 23 248 Try.underlying46 hi40 hz0 hz1 hz2 rfl (by decide) u5 s.l.length rows.flatten rfl (hR.out.2.1.alloc _) ⟨W.heap.size, 0, none⟩ 1 1 ((⟨(T : Int), i, -1, e.c, Res.zero⟩ : OpI).cells x (.slice none 0 0) (.slice none 0 0)) rfl rfl (new_cells W ((⟨(T : Int), i, -1, e.c, Res.zero⟩ : OpI).cells x (.slice none 0 0) (.slice none 0 0)) 56) hO9.out (by omega) (by unfold maxLen; omega) (by omega) (by rw [World.size_alloc]; omega) ?_; intro f' o' cap' w7 hown hgrow hat))
            have OUT7 := Lib.hid ((hR.out.below ((Below.refl _ _).alloc (Nat.le_refl _) (.cells ((⟨(T : Int), i, -1, e.c, Res.zero⟩ : OpI).cells x (.slice none 0 0) (.slice none 0 0)).toArray 56))).push (T9.out.below ((Below.refl _ _).alloc (Nat.le_refl _) _)) (by
              intro B hB
              refine ⟨HT0.out.1.off ?_, Off.nil _, Off.nil _⟩
              rcases hB with rfl | hB
              · exact Nat.le_refl _
              · have := (hub.out B hB).1; omega) hgrow hat hown)
            have F7 : Frm (u5.ownBlock.toList) (W.alloc (.cells ((⟨(T : Int), i, -1, e.c, Res.zero⟩ : OpI).cells x (.slice none 0 0) (.slice none 0 0)).toArray 56)) w7 := Frm.of_grown hgrow (fun k hk _ => by
              rw [Option.mem_toList]
              exact hk)
            have HQ7 := Lib.hid ((H4.out.alloc _).frm F7 (by
              rw [Option.mem_toList]
              intro h; have := (hub.out _ h).2; omega))
            have HP7 := Lib.hid ((H3.out.2.2.2.2.1.alloc _).frm F7 (by
              rw [Option.mem_toList]
              intro h; have := (hub.out _ h).1; omega))
            have B7 : Hid (Below w.heap.size w w7) := Lib.hid ((H3.out.2.2.2.2.2.alloc (by omega) _).trans (F7.below (by simp; omega) (by
              intro k hk
              rw [Option.mem_toList] at hk
              have := (hub.out k hk).1; omega)))
            have hff : f' ≠ w.heap.size := by
              rcases hat with h | h
              · have := (hub.out _ h).1; omega
              · simp at h; omega
            clear hown hgrow hat F7 v1 v0 vT t2 t3 d3
            have v1 : w7.cell? ⟨Bq, 1, none⟩ = some (.int .i64 (T : Int)) := by rw [← HE.out]; exact HQ7.out.cell 1
            have vT : w7.cell? ⟨w.heap.size, T, none⟩ = some (.int .i64 (s.op T)) := (HP7.out.cell T).trans (opArr_get s.op hT)
            have fT : w7.frozen? ⟨w.heap.size, T, none⟩ = false := HP7.out.free T
            go_wp2_with fail
            go_roundw
            case rel =>
              refine ⟨i + 1, stepE s i e, by omega, by go_num, St.fine_step H3.out.1 i e, by have := stepE_len s i e; omega, hnx.out, ?_⟩
              rw [stepE_open HK1.out HE.out]
              have F8 : Frm [w.heap.size] w7 (w7.setCell ⟨w.heap.size, T, none⟩ (.int .i64 ((s.l.length + 1 : Nat) : Int))) := (Frm.refl _ _).setCell (by simp) _
              refine ⟨?_, ?_, ?_⟩
              · have := OUT7.out.frm F8 (by intro k hk; simp at hk; subst hk; exact ⟨rfl, by simpa [Value.ownBlock] using hff⟩)
                have eo : opened e i = ⟨(T : Int), i, -1, e.c, Res.zero⟩ := by rw [← HE.out]; rfl
                rw [eo]
                exact this
              · have := HP7.out.set T (.int .i64 ((s.l.length + 1 : Nat) : Int)) hT
                rw [opArr_set s.op hT] at this
                exact this
              · exact B7.out.trans (F8.below B7.out.size (by simp))
            case measure => simp [intOf]; omega
          · rw [h1] at v0
            have HK1 := Lib.hid h1
            have HOP := Lib.hid h2
            have hql : q < s.l.length := by have := H3.out.1 T; omega
            have q0 : (0 : Int) ≤ (q : Int) := by omega
            have q1 : (q : Int) < (s.l.length : Int) := by omega
            have vT2 : W.cell? ⟨w.heap.size, T, none⟩ = some (.int .i64 ((q : Int) + 1)) := by
              rw [vT, h2]
              rfl
            clear vT
            have dq : ((q : Int) + 1 == 0) = false := beq_eq_false_iff_ne.2 (by omega)
            have dq' : ¬ (q : Int) + 1 = 0 := by omega
            obtain ⟨f, o, cp, rfl⟩ : ∃ f o cp, u5 = .slice (some ⟨f, o, none⟩) s.l.length cp := by
              obtain ⟨_, _, hw, _⟩ := H3.out.2.2.2.1
              exact hw.form (by omega)
            have O5 := Lib.hid H3.out.2.2.2.1
            have TH := Lib.hid (there_sub (O5.out.there hql) (show 10 + 11 ≤ 23 by omega))
            have TR := Lib.hid (Res.one HT.out.2.1.one HT.out.2.2.one (r := e.r))
            have R3 : Hid (W.rangeAt Bq 11 (e.r.cells y z)) := Lib.hid (fun j v hj => by
              have hl : j < 11 := (List.getElem?_eq_some_iff.1 hj).1
              rw [H4.out.cell, ← hj]
              match j, hl with
              | 0, _ | 1, _ | 2, _ | 3, _ | 4, _ | 5, _ | 6, _ | 7, _ | 8, _ | 9, _ | 10, _ => rfl)
            clear h1 h2
            go_upto_region 17 with (first | (refine wpList_load_mid rfl 29 (.tmp 72) rfl Bq 11 rfl (e.r.cells y z) _ ?_ Try.underlying29 rfl size33 ?_; (exact R3.out)) | (refine wpList_store_mid rfl 29 (.tmp 75) (.tmp 73) rfl f (o + q * 23 + 10) (e.r.cells y z).toArray rfl rfl ?_ size33 TR.out ?_; (exact TH.out); generalize hw6 : W.setCells f (o + q * 23 + 10) (e.r.cells y z).toArray.toList = w6; have HW6 := Lib.hid hw6; clear hw6))
            have hq : s.l[q]? = some (s.l[q]'hql) := List.getElem?_eq_getElem hql
            have hff : f ≠ w.heap.size := by have := (hub.out f rfl).1; omega
            have hfB : f < Bq := (hub.out f rfl).2
            have c22 : (w6.cell? ⟨f, o + q * 23 + 22, none⟩).isSome = true := by
              rw [← HW6.out]; exact World.isSome_setCells f _ _ _ _ (O5.out.there hql 22 (by omega)).1
            obtain ⟨v22, c22⟩ := Option.isSome_iff_exists.1 c22
            have f22 : w6.frozen? ⟨f, o + q * 23 + 22, none⟩ = false := by
              rw [← HW6.out]; exact (frozen_setCells f _ _ _ _).trans (O5.out.there hql 22 (by omega)).2
            have C6 := Lib.hid (O5.out.close (w' := w6.setCell ⟨f, o + q * 23 + 22, none⟩ (.int .i64 i)) (e := e) (i := i) hq HT.out.2.1 HT.out.2.2 (HT0.out.2.1.off (by have := (hub.out f rfl).1; omega)) (HT0.out.2.2.off (by have := (hub.out f rfl).1; omega)) (HT0.out.2.1.off (Nat.le_refl _)) (HT0.out.2.2.off (Nat.le_refl _)) (by rw [← HW6.out]))
            have F6 : Hid (Frm [f] W w6) := Lib.hid (by rw [← HW6.out]; exact Frm.setCells (by simp) _ _ (Frm.refl _ _))
            have P6 := Lib.hid (H3.out.2.2.2.2.1.frm C6.out.2 (by simp; exact fun h => hff h.symm))
            have Q6 := Lib.hid (H4.out.frm C6.out.2 (by simp; omega))
            have B6 : Hid (Below w.heap.size w (w6.setCell ⟨f, o + q * 23 + 22, none⟩ (.int .i64 i))) := Lib.hid (H3.out.2.2.2.2.2.trans (C6.out.2.below H3.out.2.2.2.2.2.size (by simp; have := (hub.out f rfl).1; omega)))
            clear v0 v1 vT2 hq t2 t3 d3
            go_upto_region 18 with fail
            generalize w6.setCell ⟨f, o + q * 23 + 22, none⟩ (.int .i64 i) = w7 at *
            clear c22 f22
            have v1 : w7.cell? ⟨Bq, 1, none⟩ = some (.int .i64 (T : Int)) := by rw [← HE.out]; exact Q6.out.cell 1
            have vT : w7.cell? ⟨w.heap.size, T, none⟩ = some (.int .i64 (s.op T)) := (P6.out.cell T).trans (opArr_get s.op hT)
            have fT : w7.frozen? ⟨w.heap.size, T, none⟩ = false := P6.out.free T
            go_wp2_with fail
            go_roundw
            case rel =>
              refine ⟨i + 1, stepE s i e, by omega, by go_num, St.fine_step H3.out.1 i e, by have := stepE_len s i e; omega, hnx.out, ?_⟩
              rw [stepE_close HK1.out HE.out HOP.out]
              have F8 : Frm [w.heap.size] w7 (w7.setCell ⟨w.heap.size, T, none⟩ (.int .i64 0)) := (Frm.refl _ _).setCell (by simp) _
              refine ⟨?_, ?_, ?_⟩
              · exact C6.out.1.frm F8 (by intro k hk; simp at hk; subst hk; exact ⟨rfl, by simpa [Value.ownBlock] using hff⟩)
              · have := P6.out.set T (.int .i64 ((0 : Nat) : Int)) hT
                rw [opArr_set s.op hT] at this
                exact this
              · exact B6.out.trans (F8.below B6.out.size (by simp))
            case measure => simp [intOf]; omega
        · have hno : okE s e = false := by simpa using hok
          have hfin : Hid (ops E = .error i) := Lib.hid (by
            have := HST.out
            rw [if_neg HK3.out, hno] at this
            exact H3.out.2.2.1.symm.trans this)
          rcases okE_no hno with ⟨h1, h2⟩ | ⟨h1 | h1, h2⟩ | ⟨h1 | h1, h2⟩ | ⟨T, hT, he, ⟨h1, h2⟩ | ⟨h1, h2⟩⟩
          · have d1 : (e.k != 1) = true := by simpa using h1
            have d2 : (e.k != 2) = true := by simpa using h2
            clear h1 h2 hok hno
            go_wp2_with fail
            go_ret3
            exact ⟨.slice none 0 0, by rw [hfin.out]; rfl, by rw [hfin.out]; exact Outs.nil _ _ _ _, H3.out.2.2.2.2.2⟩
          · rw [h1] at v0
            have d1 : decide (e.t < 0) = true := by simpa using h2
            clear h1 hok hno d3
            go_wp2_with fail
            go_ret3
            exact ⟨.slice none 0 0, by rw [hfin.out]; rfl, by rw [hfin.out]; exact Outs.nil _ _ _ _, H3.out.2.2.2.2.2⟩
          · rw [h1] at v0
            have d1 : decide (e.t < 0) = true := by simpa using h2
            clear h1 hok hno d3
            go_wp2_with fail
            go_ret3
            exact ⟨.slice none 0 0, by rw [hfin.out]; rfl, by rw [hfin.out]; exact Outs.nil _ _ _ _, H3.out.2.2.2.2.2⟩
          · rw [h1] at v0
            have d1 : decide (e.t < 0) = false := by simp; omega
            have d2 : decide (e.t ≥ 8) = true := by simpa using h2
            clear h1 hok hno d3
            go_wp2_with fail
            go_ret3
            exact ⟨.slice none 0 0, by rw [hfin.out]; rfl, by rw [hfin.out]; exact Outs.nil _ _ _ _, H3.out.2.2.2.2.2⟩
          · rw [h1] at v0
            have d1 : decide (e.t < 0) = false := by simp; omega
            have d2 : decide (e.t ≥ 8) = true := by simpa using h2
            clear h1 hok hno d3
            go_wp2_with fail
            go_ret3
            exact ⟨.slice none 0 0, by rw [hfin.out]; rfl, by rw [hfin.out]; exact Outs.nil _ _ _ _, H3.out.2.2.2.2.2⟩
          · rw [h1] at v0
            rw [he] at v1
            have t0 : (0 : Int) ≤ (T : Int) := by omega
            have t1 : (T : Int) < 8 := by omega
            have vT : W.cell? ⟨w.heap.size, T, none⟩ = some (.int .i64 (s.op T)) := (H3.out.2.2.2.2.1.cell T).trans (opArr_get s.op hT)
            have d1 : (((s.op T : Nat) : Int) == 0) = false := beq_eq_false_iff_ne.2 (by omega)
            have d4 : decide ((T : Int) < 0) = false := decide_eq_false (by omega)
            have d5 : decide (8 ≤ (T : Int)) = false := decide_eq_false (by omega)
            clear h1 h2 hok hno d3 he
            go_wp2_with fail
            go_ret3
            exact ⟨.slice none 0 0, by rw [hfin.out]; rfl, by rw [hfin.out]; exact Outs.nil _ _ _ _, H3.out.2.2.2.2.2⟩
          · rw [h1] at v0
            rw [he] at v1
            have t0 : (0 : Int) ≤ (T : Int) := by omega
            have t1 : (T : Int) < 8 := by omega
            have vT : W.cell? ⟨w.heap.size, T, none⟩ = some (.int .i64 (s.op T)) := (H3.out.2.2.2.2.1.cell T).trans (opArr_get s.op hT)
            rw [h2] at vT
            have d4 : decide ((T : Int) < 0) = false := decide_eq_false (by omega)
            have d5 : decide (8 ≤ (T : Int)) = false := decide_eq_false (by omega)
            clear h1 h2 hok hno d3 he
            go_wp2_with fail
            go_ret3
            exact ⟨.slice none 0 0, by rw [hfin.out]; rfl, by rw [hfin.out]; exact Outs.nil _ _ _ _, H3.out.2.2.2.2.2⟩
    · obtain rfl : i = n := by omega
      have hfin : Hid (ops E = .ok s) := Lib.hid (by
        have := HS.out.2.2.1
        rw [List.drop_of_length_le (by omega)] at this
        exact this.symm)
      have h1 : ¬ (i : Int) < (i : Int) := by omega
      go_wp2_with fail
      go_ret3
      exact ⟨u5, by rw [hfin.out]; rfl, by rw [hfin.out]; exact HS.out.2.2.2.1, HS.out.2.2.2.2.2⟩
end Go.Proofs.Ytjefjonogbkknaa
