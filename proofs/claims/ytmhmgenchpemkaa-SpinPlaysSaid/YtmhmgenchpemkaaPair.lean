/- A Writer's or Reader's access. -/
import Derived.Test.YtmhmgenchpemkaaFinish
import Derived.WalkMore
import Derived.Laws.BitsLemmas
namespace Go.Proofs.Ytmhmgenchpemkaa
open Go.RowKit

theorem and_one (n : Int) : bits .and .i64 n 1 = n % 2 := by
  simp only [bits, BitVec.toNat_and]
  have e1 : (BitVec.ofInt IntKind.i64.bits n).toNat = (n % 18446744073709551616).toNat := by
    simp [IntKind.bits]
  have e2 : (BitVec.ofInt IntKind.i64.bits 1).toNat = 1 := by decide
  rw [e1, e2, Nat.and_one_is_mod, IntKind.wrap_i64]
  omega
theorem cell_drew {w : World} {a : Addr} {v : Value} (u : w.cell? a = some v) : w.drew.cell? a = some v := u
theorem cell_alloc {w : World} {f j : Nat} {v : Value} {ob : Obj} (h : f < w.heap.size) (u : w.cell? ⟨f, j, none⟩ = some v) : (w.alloc ob).drew.cell? ⟨f, j, none⟩ = some v := (((Below.refl _ _).alloc (Nat.le_refl _) ob).cell (p := ⟨f, j, none⟩) h).trans u
theorem set_blk {w : World} {f a j B : Nat} {v u : Value} (h : w.cell? ⟨B, j, none⟩ = some u) (hne : ¬ f = B) : (w.setCell ⟨f, a, none⟩ v).cell? ⟨B, j, none⟩ = some u := by
  rw [World.cell?_setCell_other _ _ _ _ (fun e => hne (by injection e))]
  exact h
/-- What a pair's round starts from. -/
structure PairAt (w : World) (f o i b c B : Nat) (L : List Mch) (x y : Mch) (s : MS) (wr : World) : Prop where
  rows : RowsAt wr f o (L.set i y)
  mem : IsMem wr b c s
  frm : Frm [f] w wr
  j0 : wr.cell? ⟨B, 0, none⟩ = some (.int .i64 x.kind)
  j2 : wr.cell? ⟨B, 2, none⟩ = some (.int .i64 x.work)
  j3 : wr.cell? ⟨B, 3, none⟩ = some (.int .i64 x.a)
  j4 : wr.cell? ⟨B, 4, none⟩ = some (.int .i64 x.b)
  kind : y.kind = x.kind
  at_ : y.at_ = x.at_
  work : y.work = x.work
  a : y.a = x.a
  b : y.b = x.b
  same : pairM s y = pairM s x
def turnOf (v : Option Value) : Nat := match v with
  | some (.int _ n) => if n = 4 then 0 else 1
  | _ => 0
set_option maxRecDepth 100000 in
set_option maxHeartbeats 8000000 in
theorem pair_any {w : World} {f o i b c : Nat} {L : List Mch} {x : Mch} {s : MS} (h : RowsAt w f o L) (hx : L[i]? = some x) (hm : IsMem w b c s) (hfb : f ≠ b) (hfc : f ≠ c) :
    Calls Try.prog 33 #[.pointer (some ⟨f, o + i * 14, none⟩), .pointer (some ⟨b, 0, none⟩)] w fun e w' => e = .returned (.tuple #[]) ∧ RowsAt w' f o (L.set i (pairM s x).1) ∧ IsMem w' b c (pairM s x).2 ∧ Frm [f, b, c] w w' := by
  obtain ⟨u0, u1, u2, u3, u4, u5, u6, u7, u8, u9, u10, u11, u12, u13⟩ := h.at hx
  have hfw := h.1
  have H := Lib.hid h
  have HX := Lib.hid hx
  have HM := Lib.hid hm
  have fz := h.2.1
  have HNL : Hid (f ∉ [b, c]) := Lib.hid (by simp [hfb, hfc])
  have HFB := Lib.hid hfb
  have HFC := Lib.hid hfc
  clear h hx hm hfb hfc
  go_enter Try.func33, Try.ntmps33
  go_step3
  go_wp2_with fail
  go_region_held3 (fun w' => w'.cell? ⟨f, o + i * 14, none⟩ = some (.int .i64 x.kind) ∧ w'.cell? ⟨f, o + i * 14 + 1, none⟩ = some (.int .i64 x.at_) ∧ w'.cell? ⟨f, o + i * 14 + 2, none⟩ = some (.int .i64 x.work) ∧ w'.cell? ⟨f, o + i * 14 + 3, none⟩ = some (.int .i64 x.a) ∧ w'.cell? ⟨f, o + i * 14 + 4, none⟩ = some (.int .i64 x.b)) (first | with_reducible exact ⟨u0, u1, u2, u3, u4⟩ | with_reducible exact ⟨cell_drew u0, cell_drew u1, cell_drew u2, cell_drew u3, cell_drew u4⟩ | with_reducible exact ⟨cell_alloc hfw u0, cell_alloc hfw u1, cell_alloc hfw u2, cell_alloc hfw u3, cell_alloc hfw u4⟩) (fail)
  go_wp2_with fail
  obtain ⟨w0, hw0⟩ : ∃ w0, (w.alloc (.cells #[.int .i64 x.kind, .int .i64 x.at_, .int .i64 x.work, .int .i64 x.a, .int .i64 x.b] 29)).drew = w0 := ⟨_, rfl⟩
  rw [hw0]
  have hB : Below w.heap.size w w0 := by rw [← hw0]; exact ((Below.refl _ _).alloc (Nat.le_refl _) _).drew
  have HI : Hid (PairAt w f o i b c w.heap.size L x x s w0) := Lib.hid (by
    have e : L.set i x = L := by
      obtain ⟨k1, k2⟩ := List.getElem?_eq_some_iff.1 HX.out
      rw [← k2]; exact List.set_getElem_self k1
    refine ⟨by rw [e]; exact H.out.below hB, HM.out.frm (l := []) (.of_below hB) (by simp) (by simp), .of_below hB, ?_, ?_, ?_, ?_, rfl, rfl, rfl, rfl, rfl, rfl⟩ <;> (rw [← hw0]; exact cell_drew (by simp)))
  obtain ⟨B, hBB⟩ : ∃ B, w.heap.size = B := ⟨_, rfl⟩
  rw [hBB] at HI ⊢
  have hfB : f < B := by omega
  clear u0 u1 u2 u3 u4 u5 u6 u7 u8 u9 u10 u11 u12 u13 fz hw0 hB hBB hfw H HM
  have c4 : (x.kind == 2) = decide (x.kind = 2) := rfl
  obtain ⟨k, hk⟩ : ∃ k, (x.kind == 2) = k := ⟨_, rfl⟩
  have HK := Lib.hid hk
  rw [hk]
  clear hk c4
  go_step3
  go_wp2_with fail
  go_loopw [] (fun wr => ∃ y : Mch, Hid (PairAt w f o i b c B L x y s wr)) (fun wr => turnOf (wr.cell? ⟨f, o + i * 14 + 9, none⟩))
  case atStart => exact ⟨x, HI⟩
  case round =>
    obtain ⟨y, HI⟩ := hrel
    have HR := Lib.hid HI.out.rows
    have HM := Lib.hid HI.out.mem
    have FR := Lib.hid HI.out.frm
    have HY : Hid ((L.set i y)[i]? = some y) := Lib.hid (List.getElem?_set_self (List.getElem?_eq_some_iff.1 HX.out).1)
    obtain ⟨u0, u1, u2, u3, u4, u5, u6, u7, u8, u9, u10, u11, u12, u13⟩ := HR.out.at HY.out
    have fz := HR.out.2.1
    have hat := HI.out.at_
    have hki := HI.out.kind
    have ES := Lib.hid HI.out.same
    have J0 := HI.out.j0
    have J2 := HI.out.j2
    have J3 := HI.out.j3
    have J4 := HI.out.j4
    have hkx := HK.out
    rw [hki] at u0
    rw [hat] at u1
    have hj := HI.out
    have HAT := Lib.hid hat
    have HKI := Lib.hid hki
    have HWO := Lib.hid hj.work
    have HA := Lib.hid hj.a
    have HBB := Lib.hid hj.b
    clear hj hat hki hkx
    by_cases p0 : y.pc = 0
    · rw [p0] at u9
      have P0 := Lib.hid p0
      clear p0
      by_cases ev : (s.load x.at_).1 % 2 = 0
      · have ht : (bits BinOp.and IntKind.i64 (s.load x.at_).fst 1 != 0) = false := by rw [and_one, ev]; rfl
        have EV := Lib.hid ev
        clear ev
        cases k
        · have E : Hid (pairM s x = ({ y with count := (s.load x.at_).1, pc := 2 }, (s.load x.at_).2.2)) := Lib.hid (by rw [← ES.out, pairM, if_pos P0.out, HAT.out, if_pos EV.out, if_neg (by rw [HKI.out]; simpa using HK.out)])
          go_wp2_with (first | (go_at_call 44; refine (load_any b c s x.at_ _ HM.out).mono ?_; rintro e w1 ⟨rfl, m1, f1⟩; have M1 := Lib.hid m1; have F1 := Lib.hid f1; have H1 := Lib.hid (HR.out.frm f1 HNL.out); obtain ⟨u0, u1, u2, u3, u4, u5, u6, u7, u8, u9, u10, u11, u12, u13⟩ := H1.out.at HY.out; have fz := H1.out.2.1; clear m1 f1))
          simp only [Exit.noGoto]
          refine bodyPost_ret (results_none rfl _ _ _) rfl ?_
          rw [E.out]
          exact ⟨rfl, ((H1.out.again (j := 10) (y' := { y with count := (s.load x.at_).1 }) HX.out (by omega) rfl).again (j := 9) (y' := { y with count := (s.load x.at_).1, pc := 1 }) HX.out (by omega) rfl).again (j := 9) (y' := { y with count := (s.load x.at_).1, pc := 2 }) HX.out (by omega) rfl, ((M1.out.set HFB.out HFC.out _ _).set HFB.out HFC.out _ _).set HFB.out HFC.out _ _, FR.out.row1.trans (F1.out.rows.trans ((((Frm.refl _ _).setCell (by simp) _).setCell (by simp) _).setCell (by simp) _))⟩
        · have E : Hid (pairM s x = ({ y with count := (s.load x.at_).1, pc := 1 }, (s.load x.at_).2.2)) := Lib.hid (by rw [← ES.out, pairM, if_pos P0.out, HAT.out, if_pos EV.out, if_pos (by rw [HKI.out]; simpa using HK.out)])
          go_wp2_with (first | (go_at_call 44; refine (load_any b c s x.at_ _ HM.out).mono ?_; rintro e w1 ⟨rfl, m1, f1⟩; have M1 := Lib.hid m1; have F1 := Lib.hid f1; have H1 := Lib.hid (HR.out.frm f1 HNL.out); obtain ⟨u0, u1, u2, u3, u4, u5, u6, u7, u8, u9, u10, u11, u12, u13⟩ := H1.out.at HY.out; have fz := H1.out.2.1; clear m1 f1))
          simp only [Exit.noGoto]
          refine bodyPost_ret (results_none rfl _ _ _) rfl ?_
          rw [E.out]
          exact ⟨rfl, (H1.out.again (j := 10) (y' := { y with count := (s.load x.at_).1 }) HX.out (by omega) rfl).again (j := 9) (y' := { y with count := (s.load x.at_).1, pc := 1 }) HX.out (by omega) rfl, (M1.out.set HFB.out HFC.out _ _).set HFB.out HFC.out _ _, FR.out.row1.trans (F1.out.rows.trans (((Frm.refl _ _).setCell (by simp) _).setCell (by simp) _))⟩
      · have ht : (bits BinOp.and IntKind.i64 (s.load x.at_).fst 1 != 0) = true := by rw [and_one]; simpa using ev
        have E : Hid (pairM s x = (({ y with count := (s.load x.at_).1 } : Mch).again, (s.load x.at_).2.2)) := Lib.hid (by rw [← ES.out, pairM, if_pos P0.out, HAT.out, if_neg ev])
        clear ev
        go_wp2_with (first | (go_at_call 44; refine (load_any b c s x.at_ _ HM.out).mono ?_; rintro e w1 ⟨rfl, m1, f1⟩; have M1 := Lib.hid m1; have F1 := Lib.hid f1; have H1 := Lib.hid (HR.out.frm f1 HNL.out); obtain ⟨u0, u1, u2, u3, u4, u5, u6, u7, u8, u9, u10, u11, u12, u13⟩ := H1.out.at HY.out; have fz := H1.out.2.1; clear m1 f1) | (go_at_call 43; refine (again_any (H1.out.again (j := 10) (y' := { y with count := (s.load x.at_).1 }) HX.out (by omega) rfl) (List.getElem?_set_self (List.getElem?_eq_some_iff.1 HX.out).1)).mono ?_; rintro e w2 ⟨rfl, a1, a2⟩; have A1 := Lib.hid a1; have A2 := Lib.hid a2; clear a1 a2))
        simp only [Exit.noGoto]
        refine bodyPost_ret (results_none rfl _ _ _) rfl ?_
        rw [E.out]
        have a1 := A1.out
        rw [List.set_set] at a1
        exact ⟨rfl, a1, (M1.out.set HFB.out HFC.out _ _).frm A2.out (by simp; exact fun e => HFB.out e.symm) (by simp; exact fun e => HFC.out e.symm), FR.out.row1.trans (F1.out.rows.trans (((Frm.refl _ _).setCell (by simp) _).trans A2.out.row1))⟩
    · have d0 : (y.pc == 0) = false := beq_eq_false_iff_ne.2 p0
      have P0 := Lib.hid p0
      clear p0
      by_cases p1 : y.pc = 1
      · rw [p1] at u9
        have P1 := Lib.hid p1
        clear p1 d0
        go_wp2_with fail
        by_cases c1 : (s.swap x.at_ y.count (wrap64 (y.count + 1))).1 = true
        · have E : Hid (pairM s x = ({ y with pc := 2 }, (s.swap x.at_ y.count (wrap64 (y.count + 1))).2.2)) := Lib.hid (by rw [← ES.out, pairM, if_neg P0.out, if_pos P1.out, HAT.out, if_pos c1])
          have C1 := Lib.hid c1
          clear c1
          go_region_held3 (fun w' => w'.cell? ⟨f, o + i * 14 + 10, none⟩ = some (.int .i64 y.count)) (first | with_reducible exact u10 | with_reducible exact cell_drew u10 | exact u10) (first | (go_at_call 42; refine (swap_any b c s x.at_ y.count _ _ HM.out.drew).mono ?_; rintro e w1 ⟨rfl, m1, f1⟩; rw [IntWalk.i64_left] at m1 ⊢; have f1 : Frm [b, c] wr w1 := ((Frm.refl _ _).drew).trans f1; rw [C1.out]; have M1 := Lib.hid m1; have F1 := Lib.hid f1; have H1 := Lib.hid (HR.out.frm f1 HNL.out); obtain ⟨u0, u1, u2, u3, u4, u5, u6, u7, u8, u9, u10, u11, u12, u13⟩ := H1.out.at HY.out; have fz := H1.out.2.1; clear m1 f1))
          go_wp2_with fail
          simp only [Exit.noGoto]
          refine bodyPost_ret (results_none rfl _ _ _) rfl ?_
          rw [E.out]
          exact ⟨rfl, H1.out.again (j := 9) (y' := { y with pc := 2 }) HX.out (by omega) rfl, M1.out.set HFB.out HFC.out _ _, FR.out.row1.trans (F1.out.rows.trans ((Frm.refl _ _).setCell (by simp) _))⟩
        · have c1 : (s.swap x.at_ y.count (wrap64 (y.count + 1))).1 = false := by simpa using c1
          have E : Hid (pairM s x = (y.again, (s.swap x.at_ y.count (wrap64 (y.count + 1))).2.2)) := Lib.hid (by rw [← ES.out, pairM, if_neg P0.out, if_pos P1.out, HAT.out, c1]; rfl)
          have C1 := Lib.hid c1
          clear c1
          go_region_held3 (fun w' => w'.cell? ⟨f, o + i * 14 + 10, none⟩ = some (.int .i64 y.count)) (first | with_reducible exact u10 | with_reducible exact cell_drew u10 | exact u10) (first | (go_at_call 42; refine (swap_any b c s x.at_ y.count _ _ HM.out.drew).mono ?_; rintro e w1 ⟨rfl, m1, f1⟩; rw [IntWalk.i64_left] at m1 ⊢; have f1 : Frm [b, c] wr w1 := ((Frm.refl _ _).drew).trans f1; rw [C1.out]; have M1 := Lib.hid m1; have F1 := Lib.hid f1; have H1 := Lib.hid (HR.out.frm f1 HNL.out); obtain ⟨u0, u1, u2, u3, u4, u5, u6, u7, u8, u9, u10, u11, u12, u13⟩ := H1.out.at HY.out; have fz := H1.out.2.1; clear m1 f1))
          go_wp2_with (first | (go_at_call 43; refine (again_any H1.out HY.out).mono ?_; rintro e w2 ⟨rfl, a1, a2⟩; have A1 := Lib.hid a1; have A2 := Lib.hid a2; clear a1 a2))
          simp only [Exit.noGoto]
          refine bodyPost_ret (results_none rfl _ _ _) rfl ?_
          rw [E.out]
          have a1 := A1.out
          rw [List.set_set] at a1
          exact ⟨rfl, a1, M1.out.frm A2.out (by simp; exact fun e => HFB.out e.symm) (by simp; exact fun e => HFC.out e.symm), FR.out.row1.trans (F1.out.rows.trans A2.out.row1)⟩
      · have d1 : (y.pc == 1) = false := beq_eq_false_iff_ne.2 p1
        have P1 := Lib.hid p1
        clear p1
        by_cases p2 : y.pc = 2
        · rw [p2] at u9
          have P2 := Lib.hid p2
          clear p2 d0 d1
          have hBf : ¬ f = B := by omega
          go_wp2_with fail
          go_region_held3 (fun w' => w'.cell? ⟨B, 2, none⟩ = some (.int .i64 x.work)) (first | with_reducible exact J2 | with_reducible exact cell_drew J2 | with_reducible exact set_blk J2 hBf | with_reducible exact cell_drew (set_blk J2 hBf) | with_reducible exact set_blk (set_blk J2 hBf) hBf | with_reducible exact cell_drew (set_blk (set_blk J2 hBf) hBf)) (fail)
          obtain ⟨w2, hw2⟩ : ∃ w2, ((wr.setCell ⟨f, o + i * 14 + 9, none⟩ (.int .i64 3)).setCell ⟨f, o + i * 14 + 11, none⟩ (.int .i64 x.work)).drew = w2 := ⟨_, rfl⟩
          rw [hw2]
          have R2 : Hid (RowsAt w2 f o (L.set i ({ y with pc := 3, left := x.work } : Mch))) := Lib.hid (by rw [← hw2]; exact ((HR.out.again (j := 9) (y' := { y with pc := 3 }) HX.out (by omega) rfl).again (j := 11) (y' := ({ y with pc := 3, left := x.work } : Mch)) HX.out (by omega) rfl).drew)
          have N2 : Hid (IsMem w2 b c s) := Lib.hid (by rw [← hw2]; exact ((HM.out.set HFB.out HFC.out _ _).set HFB.out HFC.out _ _).drew)
          have G2 : Hid (Frm [f] wr w2) := Lib.hid (by rw [← hw2]; exact ((((Frm.refl _ _).setCell (by simp) _).setCell (by simp) _).drew))
          have HZ : Hid ((L.set i ({ y with pc := 3, left := x.work } : Mch))[i]? = some ({ y with pc := 3, left := x.work } : Mch)) := Lib.hid (List.getElem?_set_self (List.getElem?_eq_some_iff.1 HX.out).1)
          replace J3 : w2.cell? ⟨B, 3, none⟩ = some (.int .i64 x.a) := by rw [← hw2]; exact cell_drew (set_blk (set_blk J3 hBf) hBf)
          clear hw2 J0 J2 J4 u0 u1 u2 u3 u4 u5 u6 u7 u8 u9 u10 u11 u12 u13 fz
          cases k
          · have E : Hid (pairM s x = ({ ({ y with pc := 3, left := x.work } : Mch) with ra := (s.load (wrap64 (x.at_ + 1))).1 }, (s.load (wrap64 (x.at_ + 1))).2.2)) := Lib.hid (by rw [← ES.out, pairM, if_neg P0.out, if_neg P1.out, if_pos P2.out, if_neg (by rw [HKI.out]; simpa using HK.out), HAT.out, HWO.out])
            go_wp2_with (first | (go_at_call 44; refine (load_any b c s (wrap64 (x.at_ + 1)) _ N2.out).mono ?_; rintro e w1 ⟨rfl, m1, f1⟩; have M1 := Lib.hid m1; have F1 := Lib.hid f1; have H1 := Lib.hid (R2.out.frm f1 HNL.out); have fz := H1.out.2.1; obtain ⟨u0, u1, u2, u3, u4, u5, u6, u7, u8, u9, u10, u11, u12, u13⟩ := H1.out.at HZ.out; clear m1 f1))
            simp only [Exit.noGoto]
            refine bodyPost_ret (results_none rfl _ _ _) rfl ?_
            rw [E.out]
            exact ⟨rfl, H1.out.again (j := 12) (y' := { ({ y with pc := 3, left := x.work } : Mch) with ra := (s.load (wrap64 (x.at_ + 1))).1 }) HX.out (by omega) rfl, M1.out.set HFB.out HFC.out _ _, FR.out.row1.trans (G2.out.row1.trans (F1.out.rows.trans ((Frm.refl _ _).setCell (by simp) _)))⟩
          · have E : Hid (pairM s x = (({ y with pc := 3, left := x.work } : Mch), (s.store (wrap64 (x.at_ + 1)) x.a).2)) := Lib.hid (by rw [← ES.out, pairM, if_neg P0.out, if_neg P1.out, if_pos P2.out, if_pos (by rw [HKI.out]; simpa using HK.out), HAT.out, HA.out, HWO.out])
            go_wp2_with (first | (go_at_call 26; refine (store_any b c s (wrap64 (x.at_ + 1)) x.a _ N2.out).mono ?_; rintro e w1 ⟨rfl, m1, f1⟩; have M1 := Lib.hid m1; have F1 := Lib.hid f1; clear m1 f1))
            simp only [Exit.noGoto]
            refine bodyPost_ret (results_none rfl _ _ _) rfl ?_
            rw [E.out]
            exact ⟨rfl, R2.out.frm F1.out HNL.out, M1.out, FR.out.row1.trans (G2.out.row1.trans F1.out.rows)⟩
        · have d2 : (y.pc == 2) = false := beq_eq_false_iff_ne.2 p2
          have P2 := Lib.hid p2
          clear p2
          by_cases p3 : y.pc = 3
          · rw [p3] at u9
            have P3 := Lib.hid p3
            clear p3 d0 d1 d2
            by_cases q : y.left = 0
            · rw [q] at u11
              have Q := Lib.hid q
              clear q
              have hBf : ¬ f = B := by omega
              go_wp2_with fail
              go_roundw
              case rel =>
                refine ⟨{ y with pc := 4 }, Lib.hid ⟨HR.out.again (j := 9) (y' := { y with pc := 4 }) HX.out (by omega) rfl, HM.out.set HFB.out HFC.out _ _, FR.out.setCell (by simp) _, set_blk J0 hBf, set_blk J2 hBf, set_blk J3 hBf, set_blk J4 hBf, HKI.out, HAT.out, HWO.out, HA.out, HBB.out, ?_⟩⟩
                have e1 : pairM s y = secondM s { y with pc := 4 } := by rw [pairM, if_neg P0.out, if_neg P1.out, if_neg P2.out, if_pos P3.out, if_pos Q.out]
                rw [← ES.out, e1]
                rfl
              case measure =>
                rw [World.cell?_setCell_same (u := .int .i64 3) wr _ _ u9, u9]
                decide
            · have dl : (y.left == 0) = false := beq_eq_false_iff_ne.2 q
              have E : Hid (pairM s x = ({ y with left := wrap64 (y.left - 1) }, (s.load x.at_).2.2)) := Lib.hid (by rw [← ES.out, pairM, if_neg P0.out, if_neg P1.out, if_neg P2.out, if_pos P3.out, if_neg q, HAT.out])
              have R2 := Lib.hid (HR.out.again (j := 11) (v := .int .i64 (wrap64 (y.left - 1))) (y' := { y with left := wrap64 (y.left - 1) }) HX.out (by omega) rfl)
              have N2 := Lib.hid (HM.out.set (v := .int .i64 (wrap64 (y.left - 1))) HFB.out HFC.out (o + i * 14 + 11))
              have G2 : Hid (Frm [f] wr (wr.setCell ⟨f, o + i * 14 + 11, none⟩ (.int .i64 (wrap64 (y.left - 1))))) := Lib.hid ((Frm.refl _ _).setCell (by simp) _)
              clear q
              go_wp2_with (first | (go_at_call 44; refine (load_any b c s x.at_ _ N2.out).mono ?_; rintro e w1 ⟨rfl, m1, f1⟩; have M1 := Lib.hid m1; have F1 := Lib.hid f1; clear m1 f1))
              simp only [Exit.noGoto]
              refine bodyPost_ret (results_none rfl _ _ _) rfl ?_
              rw [E.out]
              exact ⟨rfl, R2.out.frm F1.out HNL.out, M1.out, FR.out.row1.trans (G2.out.row1.trans F1.out.rows)⟩
          · have d3 : (y.pc == 3) = false := beq_eq_false_iff_ne.2 p3
            have P3 := Lib.hid p3
            clear p3
            by_cases p4 : y.pc = 4
            · rw [p4] at u9
              have P4 := Lib.hid p4
              clear p4 d0 d1 d2 d3
              have hBf : ¬ f = B := by omega
              go_upto_region 28 with fail
              obtain ⟨w2, hw2⟩ : ∃ w2, wr.setCell ⟨f, o + i * 14 + 9, none⟩ (.int .i64 5) = w2 := ⟨_, rfl⟩
              rw [hw2]
              have R2 : Hid (RowsAt w2 f o (L.set i ({ y with pc := 5 } : Mch))) := Lib.hid (by rw [← hw2]; exact HR.out.again (j := 9) (y' := { y with pc := 5 }) HX.out (by omega) rfl)
              have N2 : Hid (IsMem w2 b c s) := Lib.hid (by rw [← hw2]; exact HM.out.set HFB.out HFC.out _ _)
              have G2 : Hid (Frm [f] wr w2) := Lib.hid (by rw [← hw2]; exact (Frm.refl _ _).setCell (by simp) _)
              have HZ : Hid ((L.set i ({ y with pc := 5 } : Mch))[i]? = some ({ y with pc := 5 } : Mch)) := Lib.hid (List.getElem?_set_self (List.getElem?_eq_some_iff.1 HX.out).1)
              replace J4 : w2.cell? ⟨B, 4, none⟩ = some (.int .i64 x.b) := by rw [← hw2]; exact set_blk J4 hBf
              clear hw2 J0 J2 J3 u0 u1 u2 u3 u4 u5 u6 u7 u8 u9 u10 u11 u12 u13 fz
              cases k
              · have E : Hid (pairM s x = ({ ({ y with pc := 5 } : Mch) with rb := (s.load (wrap64 (x.at_ + 2))).1 }, (s.load (wrap64 (x.at_ + 2))).2.2)) := Lib.hid (by rw [← ES.out, pairM, if_neg P0.out, if_neg P1.out, if_neg P2.out, if_neg P3.out, if_pos P4.out, secondM, if_neg (by rw [HKI.out]; simpa using HK.out), HAT.out])
                go_wp2_with (first | (go_at_call 44; refine (load_any b c s (wrap64 (x.at_ + 2)) _ N2.out).mono ?_; rintro e w1 ⟨rfl, m1, f1⟩; have M1 := Lib.hid m1; have F1 := Lib.hid f1; have H1 := Lib.hid (R2.out.frm f1 HNL.out); have fz := H1.out.2.1; obtain ⟨u0, u1, u2, u3, u4, u5, u6, u7, u8, u9, u10, u11, u12, u13⟩ := H1.out.at HZ.out; clear m1 f1))
                simp only [Exit.noGoto]
                refine bodyPost_ret (results_none rfl _ _ _) rfl ?_
                rw [E.out]
                exact ⟨rfl, H1.out.again (j := 13) (y' := { ({ y with pc := 5 } : Mch) with rb := (s.load (wrap64 (x.at_ + 2))).1 }) HX.out (by omega) rfl, M1.out.set HFB.out HFC.out _ _, FR.out.row1.trans (G2.out.row1.trans (F1.out.rows.trans ((Frm.refl _ _).setCell (by simp) _)))⟩
              · have E : Hid (pairM s x = (({ y with pc := 5 } : Mch), (s.store (wrap64 (x.at_ + 2)) x.b).2)) := Lib.hid (by rw [← ES.out, pairM, if_neg P0.out, if_neg P1.out, if_neg P2.out, if_neg P3.out, if_pos P4.out, secondM, if_pos (by rw [HKI.out]; simpa using HK.out), HAT.out, HBB.out])
                go_wp2_with (first | (go_at_call 26; refine (store_any b c s (wrap64 (x.at_ + 2)) x.b _ N2.out).mono ?_; rintro e w1 ⟨rfl, m1, f1⟩; have M1 := Lib.hid m1; have F1 := Lib.hid f1; clear m1 f1))
                simp only [Exit.noGoto]
                refine bodyPost_ret (results_none rfl _ _ _) rfl ?_
                rw [E.out]
                exact ⟨rfl, R2.out.frm F1.out HNL.out, M1.out, FR.out.row1.trans (G2.out.row1.trans F1.out.rows)⟩
            · have d4 : (y.pc == 4) = false := beq_eq_false_iff_ne.2 p4
              have E : Hid (pairM s x = finishM s y) := Lib.hid (by rw [← ES.out, pairM, if_neg P0.out, if_neg P1.out, if_neg P2.out, if_neg P3.out, if_neg p4])
              clear p4
              go_wp2_with (first | (go_at_call 45; refine (finish_any HR.out HY.out HM.out HFB.out HFC.out).mono ?_; rintro e w1 ⟨rfl, a1, m1, f1⟩; have A1 := Lib.hid a1; have M1 := Lib.hid m1; have F1 := Lib.hid f1; clear a1 m1 f1))
              simp only [Exit.noGoto]
              refine bodyPost_ret (results_none rfl _ _ _) rfl ?_
              rw [E.out]
              have a1 := A1.out
              rw [List.set_set] at a1
              exact ⟨rfl, a1, M1.out, FR.out.row1.trans F1.out⟩

end Go.Proofs.Ytmhmgenchpemkaa
