/- Events of a serial run. -/
import Derived.Test.YtfjghemojnhmbaaGreatYk
import Derived.Test.YtfjghemojnhmbaaGreatZc
namespace Go.Proofs.YtfjghemojnhmbaaGreat
open Go.RowKit

theorem info44 : (Tryz.prog.info? 44).map (fun i => (i.zero, i.size, i.bytes)) = some (some (.agg #[.int .i64 0, .int .i64 0, .int .i64 0, .string ⟨#[]⟩, .string ⟨#[]⟩, .int .i64 0, .int .i64 0, .int .i64 0, .int .i64 0, .int .i64 0, .slice none 0 0, .int .i64 0, .int .i64 0, .slice none 0 0, .slice none 0 0, .int .i64 0, .int .i64 0, .int .i64 0, .int .i64 0, .int .i64 0, .int .i64 0, .int .i64 0]), 22, 240) := by kernel_rfl
theorem stps_some {w : World} {a : Option Addr} {L : List Stp} (h : Stps w a L) {i : Nat} {x : Stp} (hx : L[i]? = some x) : ∃ b off, a = some ⟨b, off, none⟩ := by
  obtain ⟨_, b, off, e, _⟩ := stp_cells h hx
  exact ⟨b, off, e⟩
theorem DMem.form {w w1 : World} {S' : Nat → Prop} {r : Res} {y z : Value} (h : DMem w w1 S' r y z) : ∃ p n c p' n' c', y = .slice p n c ∧ z = .slice p' n' c' := by
  obtain ⟨p, c, e⟩ := h.1.1.value
  obtain ⟨p', c', e'⟩ := h.1.2.value
  exact ⟨_, _, _, _, _, _, e, e'⟩
theorem rs_cells {w : World} {D : Nat} {e : TypeId} {a0 a1 a2 a3 a4 a5 a6 a7 a8 a9 a10 : Value} (k : Blk w D e #[a0, a1, a2, a3, a4, a5, a6, a7, a8, a9, a10]) : w.cell? ⟨D, 0, none⟩ = some a0 ∧ w.cell? ⟨D, 1, none⟩ = some a1 ∧ w.cell? ⟨D, 2, none⟩ = some a2 ∧ w.cell? ⟨D, 3, none⟩ = some a3 ∧ w.cell? ⟨D, 4, none⟩ = some a4 ∧ w.cell? ⟨D, 5, none⟩ = some a5 ∧ w.cell? ⟨D, 6, none⟩ = some a6 ∧ w.cell? ⟨D, 7, none⟩ = some a7 ∧ w.cell? ⟨D, 8, none⟩ = some a8 ∧ w.cell? ⟨D, 9, none⟩ = some a9 ∧ w.cell? ⟨D, 10, none⟩ = some a10 := ⟨k.cell 0, k.cell 1, k.cell 2, k.cell 3, k.cell 4, k.cell 5, k.cell 6, k.cell 7, k.cell 8, k.cell 9, k.cell 10⟩
set_option maxRecDepth 100000 in
set_option maxHeartbeats 16000000 in
theorem events_any {w : World} {ub : Nat} (hU : Blk w ub 56 whocells.toArray) {la : Option Addr} {ln lc : Nat} {SL : List Stp} (hl : Stps w la SL) (hlen : SL.length = ln) : Calls Tryz.prog 4 #[.agg #[.int .i64 64, .int .i64 256, .int .i64 64], .slice (some ⟨ub, 0, none⟩) 2 2, .slice la ln lc, .int .i64 12, .slice none 0 0] w (EventsP w) := by
  obtain ⟨i44, h441, h442, h443, h444⟩ := info_parts info44
  have HU := Lib.hid hU
  have HL := Lib.hid (And.intro hl hlen)
  clear hU hl hlen
  go_enter Tryz.func4, Tryz.ntmps4
  go_upto_region 1 with fail
  have H1 := Lib.hid (box1 w #[.int .i64 64, .int .i64 256, .int .i64 64] 26)
  generalize w.alloc (.cells #[.int .i64 64, .int .i64 256, .int .i64 64] 26) = W at H1 ⊢
  have C10 := newm_any (HU.out.below H1.out.1)
  have b0 := H1.out.2.cell 0
  have b1 := H1.out.2.cell 1
  have b2 := H1.out.2.cell 2
  go_upto_region 4 with (first | (go_at_call 10; (with_reducible refine C10.mono ?_); rintro e w1 ⟨g, S, rfl, hb, hS, hma⟩; have HN : Hid (EvI w w1 0 g (.slice none 0 0) []) := Lib.hid ⟨⟨LtS S w1, [], (by obtain ⟨bs, T, tv, l, fl, cw, h⟩ := hma; exact ⟨bs, T, tv, l, fl, cw, h.lts⟩), fun k hk => ⟨Nat.le_trans H1.out.1.size (hS k hk.1), hk.2⟩, EvR.nil _ _ _, rfl⟩, H1.out.1.trans (hb.mono H1.out.1.size), rfl, by simp⟩; clear hb hS hma b0 b1 b2))
  go_wp2_with fail
  go_loopw [14, 13] (fun iv ov wr => ∃ (i : Nat) (L : List Dn), i ≤ ln ∧ i ≤ 12 ∧ iv = .int .i64 (i : Int) ∧ Hid (EvI w wr i g ov L)) (fun iv _ _ => 12 - (intOf iv).toNat)
  case atStart => exact ⟨0, [], by omega, by omega, rfl, HN⟩
  case round =>
    obtain ⟨i, L, hi, hi12, rfl, HI⟩ := hrel
    clear HN
    obtain ⟨S, XS, hma, hS, hr, hx⟩ := HI.out.ex
    obtain ⟨ua, uc, rfl⟩ := hr.win.value
    have HE := Lib.hid (And.intro hma (And.intro hS (And.intro hr hx)))
    clear hma hS hr hx
    have k0 : (0 : Int) ≤ (i : Int) := by omega
    by_cases hlt : i < ln ∧ i < 12
    case neg =>
      by_cases h1 : (i : Int) < (ln : Int)
      · have h2 : ¬ (i : Int) < (12 : Int) := by omega
        go_wp2_with fail
        go_ret
        exact HI.out.done hi12
      · go_wp2_with fail
        go_ret
        exact HI.out.done hi12
    obtain ⟨h1, h2⟩ := hlt
    have k1 : (i : Int) < (ln : Int) := by omega
    have k2 : (i : Int) < (12 : Int) := by omega
    obtain ⟨x, hx⟩ : ∃ x, SL[i]? = some x := ⟨_, List.getElem?_eq_getElem (by have := HL.out.2; omega)⟩
    have HX := Lib.hid hx
    obtain ⟨lb, lo, rfl⟩ := stps_some HL.out.1 hx
    clear hx
    have HSC : Hid (∀ X, Below w.heap.size w X → X.cell? ⟨lb, lo + i * 10, none⟩ = some (.int .i64 x.p) ∧ X.cell? ⟨lb, lo + i * 10 + 1, none⟩ = some (.int .i64 x.q.op) ∧ X.cell? ⟨lb, lo + i * 10 + 2, none⟩ = some (.string x.q.path) ∧ X.cell? ⟨lb, lo + i * 10 + 3, none⟩ = some (.string x.q.dest) ∧ X.cell? ⟨lb, lo + i * 10 + 4, none⟩ = some (.int .i64 x.q.fd) ∧ X.cell? ⟨lb, lo + i * 10 + 5, none⟩ = some (.int .i64 x.q.flags) ∧ X.cell? ⟨lb, lo + i * 10 + 6, none⟩ = some (.int .i64 x.q.mode) ∧ X.cell? ⟨lb, lo + i * 10 + 7, none⟩ = some (.int .i64 x.q.n) ∧ X.cell? ⟨lb, lo + i * 10 + 8, none⟩ = some (.int .i64 x.q.m) ∧ X.cell? ⟨lb, lo + i * 10 + 9, none⟩ = some (.slice x.q.da x.q.dl x.q.dc)) := Lib.hid fun X hX => by
      obtain ⟨_, b, off, e, h⟩ := stp_cells (HL.out.1.below hX) HX.out
      cases e
      exact h
    obtain ⟨k0, k1, k2, k3, k4, k5, k6, k7, k8, k9⟩ := HSC.out _ HI.out.bel
    have HOK := Lib.hid (stp_cells HL.out.1 HX.out).1
    have C11 := few_any x.q (box1 wr #[.int .i64 x.q.op, .string x.q.path, .string x.q.dest, .int .i64 x.q.fd, .int .i64 x.q.flags, .int .i64 x.q.mode, .int .i64 x.q.n, .int .i64 x.q.m, .slice x.q.da x.q.dl x.q.dc] 42).2 (by obtain ⟨_, _, _, e, _, h, _⟩ := HOK.out.den; cases e; exact h) (fun hn => by obtain ⟨_, _, _, e, _, _, _, _, _, h⟩ := HOK.out.den; cases e; obtain ⟨b, o, h, _⟩ := h hn; exact ⟨b, o, h⟩)
    go_upto_region 9 with (first | (go_at_call 11; (with_reducible refine C11.mono ?_); rintro e w2 ⟨ob, oo, oc, rfl, hb, hw⟩; have HB2 : Hid (Below w.heap.size w w2 ∧ Below wr.heap.size wr w2) := Lib.hid (by have h0 := (box1 wr #[.int .i64 x.q.op, .string x.q.path, .string x.q.dest, .int .i64 x.q.fd, .int .i64 x.q.flags, .int .i64 x.q.mode, .int .i64 x.q.n, .int .i64 x.q.m, .slice x.q.da x.q.dl x.q.dc] 42).1; have h1 := HI.out.bel.size; exact ⟨HI.out.bel.trans ((h0.trans (hb.mono h0.size)).mono h1), h0.trans (hb.mono h0.size)⟩); obtain ⟨c0, c1, c2, c3, c4, c5, c6, c7, c8⟩ := few_cells hw; clear hb hw k0 k1 k2 k3 k4 k5 k6 k7 k8 k9))
    have H2 := Lib.hid (box1 w2 #[.int .i64 x.q.cut.op, .string x.q.cut.path, .string x.q.cut.dest, .int .i64 x.q.cut.fd, .int .i64 x.q.cut.flags, .int .i64 x.q.cut.mode, .int .i64 x.q.cut.n, .int .i64 x.q.cut.m, .slice x.q.cut.da x.q.cut.dl x.q.cut.dc] 42)
    have HB3 : Hid (Below w.heap.size w (w2.alloc (.cells #[.int .i64 x.q.cut.op, .string x.q.cut.path, .string x.q.cut.dest, .int .i64 x.q.cut.fd, .int .i64 x.q.cut.flags, .int .i64 x.q.cut.mode, .int .i64 x.q.cut.n, .int .i64 x.q.cut.m, .slice x.q.cut.da x.q.cut.dl x.q.cut.dc] 42)) ∧ Below wr.heap.size wr (w2.alloc (.cells #[.int .i64 x.q.cut.op, .string x.q.cut.path, .string x.q.cut.dest, .int .i64 x.q.cut.fd, .int .i64 x.q.cut.flags, .int .i64 x.q.cut.mode, .int .i64 x.q.cut.n, .int .i64 x.q.cut.m, .slice x.q.cut.da x.q.cut.dl x.q.cut.dc] 42))) := Lib.hid ⟨HB2.out.1.trans (H2.out.1.mono HB2.out.1.size), HB2.out.2.trans (H2.out.1.mono HB2.out.2.size)⟩
    generalize w2.alloc (.cells #[.int .i64 x.q.cut.op, .string x.q.cut.path, .string x.q.cut.dest, .int .i64 x.q.cut.fd, .int .i64 x.q.cut.flags, .int .i64 x.q.cut.mode, .int .i64 x.q.cut.n, .int .i64 x.q.cut.m, .slice x.q.cut.da x.q.cut.dl x.q.cut.dc] 42) = W2 at H2 HB3 ⊢
    obtain ⟨Q, hQ⟩ : ∃ Q, w2.heap.size = Q := ⟨_, rfl⟩
    rw [hQ] at H2 ⊢
    have HQ : Hid (Blk W2 Q 42 #[.int .i64 x.q.cut.op, .string x.q.cut.path, .string x.q.cut.dest, .int .i64 x.q.cut.fd, .int .i64 x.q.cut.flags, .int .i64 x.q.cut.mode, .int .i64 x.q.cut.n, .int .i64 x.q.cut.m, .slice x.q.cut.da x.q.cut.dl x.q.cut.dc]) := Lib.hid H2.out.2
    clear hQ H2 C11 c0 c1 c2 c3 c4 c5 c6 c7 c8
    obtain ⟨k0, k1, k2, k3, k4, k5, k6, k7, k8, k9⟩ := HSC.out _ HB3.out.1
    go_upto_region 10 with (first | (go_at_call 9; (with_reducible refine (within2_any x.p 1 (by decide) (by decide) HOK.out.p64 _).mono ?_); rintro e wn ⟨pz, hp0, hp1, rfl, hw⟩; replace hw := hw.symm; subst hw))
    obtain ⟨p, rfl⟩ : ∃ p : Nat, pz = p := ⟨pz.toNat, by omega⟩
    have HP : Hid (p < 2) := Lib.hid (by omega)
    clear hp0 hp1 k0 k1 k2 k3 k4 k5 k6 k7 k8 k9
    obtain ⟨bs, T, tv, l, fl, cw, hma⟩ := HE.out.1
    have C12 := do15_any (hma.below HB3.out.2) p HP.out x.q.cut (cutS_size _) HOK.out.n64 (byts (x.ds.take 2000)) ((cut_dat (cut_den HOK.out.den) (fun k hk => (HE.out.2.1 k hk).1)).below HB3.out.1) (byts_isByte fun d hd => HOK.out.by_ d (List.mem_of_mem_take hd)) (by show (if 2000 < x.q.dl then 2000 else x.q.dl) ≤ 2000; split <;> omega) (by omega) (fun k hk => Nat.lt_of_lt_of_le (HE.out.2.1 k hk).2 HB3.out.2.size)
    unfold Cl.val at C12
    clear hma
    obtain ⟨c0, c1, c2, c3, c4, c5, c6, c7, c8, cf⟩ := call_cells HQ.out
    go_upto_region 11 with (first | (go_at_call 12; (with_reducible refine C12.mono ?_); rintro e w5 ⟨r, y, z, S', rfl, hms, hdm, hfl⟩; obtain ⟨yp, yn, yc, zp, zn, zc, rfl, rfl⟩ := hdm.form; have HD := Lib.hid (And.intro hms (And.intro hdm hfl)); unfold Res.cells; clear hms hdm hfl c0 c1 c2 c3 c4 c5 c6 c7 c8 cf))
    have H6 := Lib.hid (box1 w5 #[.int .i64 r.w, .int .i64 r.n, .slice yp yn yc, .slice zp zn zc, .int .i64 r.s0, .int .i64 r.s1, .int .i64 r.s2, .int .i64 r.s3, .int .i64 r.s4, .int .i64 r.s5, .int .i64 r.s6] 40)
    generalize w5.alloc (.cells #[.int .i64 r.w, .int .i64 r.n, .slice yp yn yc, .slice zp zn zc, .int .i64 r.s0, .int .i64 r.s1, .int .i64 r.s2, .int .i64 r.s3, .int .i64 r.s4, .int .i64 r.s5, .int .i64 r.s6] 40) = W6 at H6 ⊢
    obtain ⟨R, hR⟩ : ∃ R, w5.heap.size = R := ⟨_, rfl⟩
    have HR6 : Hid (Blk W6 R 40 #[.int .i64 r.w, .int .i64 r.n, .slice yp yn yc, .slice zp zn zc, .int .i64 r.s0, .int .i64 r.s1, .int .i64 r.s2, .int .i64 r.s3, .int .i64 r.s4, .int .i64 r.s5, .int .i64 r.s6]) := Lib.hid (by rw [← hR]; exact H6.out.2)
    rw [hR]
    clear hR C12
    have HQ6 := Lib.hid ((HQ.out.fr HD.out.1.fr (by decide)).below H6.out.1)
    obtain ⟨c0, c1, c2, c3, c4, c5, c6, c7, c8, cf⟩ := call_cells HQ6.out
    obtain ⟨d0, d1, d2, d3, d4, d5, d6, d7, d8, d9, d10⟩ := rs_cells HR6.out
    have HR2 := Lib.hid ((HE.out.2.2.1).below HB3.out.2)
    have HX6 := Lib.hid (box1 W6 #[.int .i64 1, .int .i64 (p : Int), .int .i64 x.q.cut.op, .string x.q.cut.path, .string x.q.cut.dest, .int .i64 x.q.cut.fd, .int .i64 x.q.cut.flags, .int .i64 x.q.cut.mode, .int .i64 x.q.cut.n, .int .i64 x.q.cut.m, .slice x.q.cut.da x.q.cut.dl x.q.cut.dc, .int .i64 0, .int .i64 0, .slice none 0 0, .slice none 0 0, .int .i64 0, .int .i64 0, .int .i64 0, .int .i64 0, .int .i64 0, .int .i64 0, .int .i64 0, .int .i64 2, .int .i64 (p : Int), .int .i64 x.q.cut.op, .string x.q.cut.path, .string x.q.cut.dest, .int .i64 x.q.cut.fd, .int .i64 x.q.cut.flags, .int .i64 x.q.cut.mode, .int .i64 x.q.cut.n, .int .i64 x.q.cut.m, .slice x.q.cut.da x.q.cut.dl x.q.cut.dc, .int .i64 r.w, .int .i64 r.n, .slice yp yn yc, .slice zp zn zc, .int .i64 r.s0, .int .i64 r.s1, .int .i64 r.s2, .int .i64 r.s3, .int .i64 r.s4, .int .i64 r.s5, .int .i64 r.s6] 44).1
    have hbase : w.heap.size ≤ W6.heap.size := by have := HB3.out.1.size; have := HD.out.1.fr.size; have := H6.out.1.size; omega
    obtain rfl | hi0 : i = 0 ∨ 0 < i := by omega
    rotate_left
    have k3 : (0 : Int) < 2 * (i : Int) := by omega
    have k4 : (0 : Int) < ((2 * i : Nat) : Int) := by omega
    all_goals
      go_wp2_with (first | (at_builtin; go_must (refine wpList_append_two _ rfl (.tmp 106) (.tmp 114) 23 rfl w.heap.size 44 i44 _ 22 240 Tryz.underlying23 h441 h442 h443 h444 rfl (by decide) _ _ (flat XS) rfl (((HR2.out.fr HD.out.1.fr (by decide) HD.out.1.sup).win.below H6.out.1).below HX6.out) ⟨W6.heap.size, 0, none⟩ 2 2 [.int .i64 1, .int .i64 (p : Int), .int .i64 x.q.cut.op, .string x.q.cut.path, .string x.q.cut.dest, .int .i64 x.q.cut.fd, .int .i64 x.q.cut.flags, .int .i64 x.q.cut.mode, .int .i64 x.q.cut.n, .int .i64 x.q.cut.m, .slice x.q.cut.da x.q.cut.dl x.q.cut.dc, .int .i64 0, .int .i64 0, .slice none 0 0, .slice none 0 0, .int .i64 0, .int .i64 0, .int .i64 0, .int .i64 0, .int .i64 0, .int .i64 0, .int .i64 0, .int .i64 2, .int .i64 (p : Int), .int .i64 x.q.cut.op, .string x.q.cut.path, .string x.q.cut.dest, .int .i64 x.q.cut.fd, .int .i64 x.q.cut.flags, .int .i64 x.q.cut.mode, .int .i64 x.q.cut.n, .int .i64 x.q.cut.m, .slice x.q.cut.da x.q.cut.dl x.q.cut.dc, .int .i64 r.w, .int .i64 r.n, .slice yp yn yc, .slice zp zn zc, .int .i64 r.s0, .int .i64 r.s1, .int .i64 r.s2, .int .i64 r.s3, .int .i64 r.s4, .int .i64 r.s5, .int .i64 r.s6] rfl rfl (new_cells W6 [.int .i64 1, .int .i64 (p : Int), .int .i64 x.q.cut.op, .string x.q.cut.path, .string x.q.cut.dest, .int .i64 x.q.cut.fd, .int .i64 x.q.cut.flags, .int .i64 x.q.cut.mode, .int .i64 x.q.cut.n, .int .i64 x.q.cut.m, .slice x.q.cut.da x.q.cut.dl x.q.cut.dc, .int .i64 0, .int .i64 0, .slice none 0 0, .slice none 0 0, .int .i64 0, .int .i64 0, .int .i64 0, .int .i64 0, .int .i64 0, .int .i64 0, .int .i64 0, .int .i64 2, .int .i64 (p : Int), .int .i64 x.q.cut.op, .string x.q.cut.path, .string x.q.cut.dest, .int .i64 x.q.cut.fd, .int .i64 x.q.cut.flags, .int .i64 x.q.cut.mode, .int .i64 x.q.cut.n, .int .i64 x.q.cut.m, .slice x.q.cut.da x.q.cut.dl x.q.cut.dc, .int .i64 r.w, .int .i64 r.n, .slice yp yn yc, .slice zp zn zc, .int .i64 r.s0, .int .i64 r.s1, .int .i64 r.s2, .int .i64 r.s3, .int .i64 r.s4, .int .i64 r.s5, .int .i64 r.s6] 44) (by simp [Value.oneCell']) (by decide) (by unfold maxLen; omega) (by omega) (by simp; omega) ?_; intro f' o' cap' w7 hown hat; have HP2 := Lib.hid (EvI.next HI.out.len HI.out.ok HB3.out.1 HR2.out HE.out.2.2.2 (fun k hk => (HE.out.2.1 k hk).1) HD.out.1 HD.out.2.1 HD.out.2.2 (cut_den HOK.out.den) HP.out (H6.out.1.trans (HX6.out.mono H6.out.1.size)) hat hown); clear hown hat)))
      go_roundw
      case rel => exact ⟨_, _, by omega, by omega, by go_num, HP2⟩
      case measure => simp [intOf] <;> omega
end Go.Proofs.YtfjghemojnhmbaaGreat
