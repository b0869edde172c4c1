/- The walk of FilePlays. -/
import Derived.Test.YtfmhiamgfhdmmaaRef4
import Derived.Test.YtfmhiamgfhdmmaaLow
import Derived.Deep.RegionLaw
import Derived.Deep.RegionHeld3
import Derived.Deep.DeepMust
import Derived.Deep.CutRange
import Derived.Deep.DeepCutAuto
namespace Go.Proofs.Ytfmhiamgfhdmmaa
open Go.RowKit

/-- The table, the document's own, and variables, apart. -/
structure Fp (w wr : World) (b c : Nat) (vs : List (Nat × Array Value)) (s t : TS) : Prop where
  tb : IsTb wr b s
  rt : IsRt wr c t
  vars : ∀ p ∈ vs, Holds wr p.1 p.2 ∧ p.1 ≠ b ∧ p.1 ≠ c
  bc : b ≠ c
  bel : Below w.heap.size w wr
  lob : w.heap.size ≤ b
  loc : w.heap.size ≤ c
variable {w wr w' : World} {b c : Nat} {vs : List (Nat × Array Value)} {s t s' t' : TS}
theorem Fp.stepB (h : Fp w wr b c vs s t) (ht : IsTb w' b s') (hf : Frm [b] wr w') : Fp w w' b c vs s' t :=
  ⟨ht, h.rt.frm hf (by simpa using h.bc.symm), fun p hp => have v := h.vars p hp; ⟨v.1.frm hf (by simpa using v.2.1), v.2⟩, h.bc, h.bel.trans (hf.below h.bel.size (by simpa using h.lob)), h.lob, h.loc⟩
theorem Fp.stepC (h : Fp w wr b c vs s t) (ht : IsRt w' c t') (hf : Frm [c] wr w') : Fp w w' b c vs s t' :=
  ⟨h.tb.frm hf (by simpa using h.bc), ht, fun p hp => have v := h.vars p hp; ⟨v.1.frm hf (by simpa using v.2.2), v.2⟩, h.bc, h.bel.trans (hf.below h.bel.size (by simpa using h.loc)), h.lob, h.loc⟩
theorem Fp.below (h : Fp w wr b c vs s t) (hb : Below wr.heap.size wr w') : Fp w w' b c vs s t :=
  ⟨h.tb.below hb, h.rt.below hb, fun p hp => have v := h.vars p hp; ⟨v.1.below hb, v.2⟩, h.bc, h.bel.trans (hb.mono h.bel.size), h.lob, h.loc⟩
theorem Fp.alloc (h : Fp w wr b c vs s t) (o : Obj) : Fp w (wr.alloc o) b c vs s t := h.below ((Below.refl _ _).alloc (Nat.le_refl _) o)
theorem Fp.drew (h : Fp w wr b c vs s t) : Fp w wr.drew b c vs s t := h.below (Below.refl _ _).drew
theorem Fp.bind (h : Fp w wr b c vs s t) (cs : Array Value) (ty : TypeId) : Fp w (wr.alloc (.cells cs ty)) b c ((wr.heap.size, cs) :: vs) s t := by
  have h' := h.alloc (.cells cs ty)
  refine ⟨h'.tb, h'.rt, fun p hp => ?_, h.bc, h'.bel, h.lob, h.loc⟩
  rcases List.mem_cons.1 hp with rfl | hp
  · exact ⟨Holds.new _ _ _, fun e => by have := h.tb.lt; simp only at e; omega, fun e => by have := h.rt.lt; simp only at e; omega⟩
  · exact h'.vars p hp
theorem Fp.unbind {q : List (Nat × Array Value)} (h : Fp w wr b c vs s t) (hq : ∀ p ∈ q, p ∈ vs) : Fp w wr b c q s t := ⟨h.tb, h.rt, fun p hp => h.vars p (hq p hp), h.bc, h.bel, h.lob, h.loc⟩
theorem Fp.var7 {q : Nat} {x0 x1 x2 x3 x4 x5 x6 : Value} (h : Fp w wr b c vs s t) (hq : (q, #[x0, x1, x2, x3, x4, x5, x6]) ∈ vs) :
    wr.cell? ⟨q, 1, none⟩ = some x1 ∧ wr.cell? ⟨q, 2, none⟩ = some x2 ∧ wr.cell? ⟨q, 3, none⟩ = some x3 ∧ wr.cell? ⟨q, 4, none⟩ = some x4 ∧ wr.cell? ⟨q, 5, none⟩ = some x5 ∧ wr.cell? ⟨q, 5 + 1, none⟩ = some x6 :=
  have v := (h.vars _ hq).1
  ⟨v.cell 1, v.cell 2, v.cell 3, v.cell 4, v.cell 5, v.cell 6⟩
theorem rcount_b {b : Nat} {s : TS} {w : World} (h : IsRt w b s) : Calls Try.prog 22 #[.pointer (some ⟨b, 0, none⟩)] w fun e w' => e = .returned (.int .i64 (cntT s.T)) ∧ Below w.heap.size w w' :=
  (rcount_any h).mono fun _ _ ⟨e, hw⟩ => ⟨e, hw ▸ Below.refl _ _⟩
theorem rin_b {b : Nat} {s : TS} {w : World} (h : IsRt w b s) (m : Int) : Calls Try.prog 23 #[.pointer (some ⟨b, 0, none⟩), .int .i64 m] w fun e w' => e = .returned (.int .i64 (inT s.T (told s.T 64) m)) ∧ Below w.heap.size w w' :=
  (rin_any h m).mono fun _ _ ⟨e, hw⟩ => ⟨e, hw ▸ Below.refl _ _⟩

theorem tb_open_eq {p m n f x1 x2 : Int} (he : opOpen s p m n f = ((x1, x2), s')) (h : IsTb wr b s) : Calls Try.prog 9 #[.pointer (some ⟨b, 0, none⟩), .int .i64 p, .agg #[.int .i64 m, .int .i64 n], .int .i64 f] wr fun e w' =>
    e = .returned (.tuple #[.int .i64 x1, .int .i64 x2]) ∧ IsTb w' b s' ∧ Frm [b] wr w' := by
  have := tb_open h p m n f
  rw [he] at this
  exact this
theorem ropen_eq {p m n f x1 x2 : Int} (he : opOpen s p m n f = ((x1, x2), s')) (h : IsRt wr b s) : Calls Try.prog 16 #[.pointer (some ⟨b, 0, none⟩), .int .i64 p, .agg #[.int .i64 m, .int .i64 n], .int .i64 f] wr fun e w' =>
    e = .returned (.tuple #[.int .i64 x1, .int .i64 x2]) ∧ IsRt w' b s' ∧ Frm [b] wr w' := by
  have := ropen_any h p m n f
  rw [he] at this
  exact this
theorem tb_close_eq {p fd x1 x2 x3 : Int} (he : opClose s p fd = ((x1, x2, x3), s')) (h : IsTb wr b s) : Calls Try.prog 8 #[.pointer (some ⟨b, 0, none⟩), .int .i64 p, .int .i64 fd] wr fun e w' =>
    e = .returned (.tuple #[.agg #[.int .i64 x1, .int .i64 x2], .int .i64 x3]) ∧ IsTb w' b s' ∧ Frm [b] wr w' := by
  have := tb_close h p fd
  rw [he] at this
  exact this
theorem rclose_eq {p fd x1 x2 x3 : Int} (he : opClose s p fd = ((x1, x2, x3), s')) (h : IsRt wr b s) : Calls Try.prog 17 #[.pointer (some ⟨b, 0, none⟩), .int .i64 p, .int .i64 fd] wr fun e w' =>
    e = .returned (.tuple #[.agg #[.int .i64 x1, .int .i64 x2], .int .i64 x3]) ∧ IsRt w' b s' ∧ Frm [b] wr w' := by
  have := rclose_any h p fd
  rw [he] at this
  exact this
theorem tb_seek_eq {p fd z x1 : Int} (he : opSeek s p fd z = (x1, s')) (h : IsTb wr b s) : Calls Try.prog 11 #[.pointer (some ⟨b, 0, none⟩), .int .i64 p, .int .i64 fd, .int .i64 z] wr fun e w' => e = .returned (.int .i64 x1) ∧ IsTb w' b s' ∧ Frm [b] wr w' := by
  have := tb_seek h p fd z
  rw [he] at this
  exact this
theorem rseek_eq {p fd z x1 : Int} (he : opSeek s p fd z = (x1, s')) (h : IsRt wr b s) : Calls Try.prog 18 #[.pointer (some ⟨b, 0, none⟩), .int .i64 p, .int .i64 fd, .int .i64 z] wr fun e w' => e = .returned (.int .i64 x1) ∧ IsRt w' b s' ∧ Frm [b] wr w' := by
  have := rseek_any h p fd z
  rw [he] at this
  exact this

set_option maxRecDepth 100000 in
set_option maxHeartbeats 16000000 in
theorem plays_any (n : Int) (a : Option Addr) (len cap : Nat) (f : Nat → Nat → Int) (w : World) (hr : Asks7 w a len f) (hm : len ≤ 9223372036854775807) :
    Calls Try.prog 5 #[.int .i64 n, .slice a len cap] w fun e w' => e = .returned (.bool true) ∧ Below w.heap.size w w' := by
  go_enter Try.func5, Try.ntmps5
  go_wp2_with fail
  by_cases hn : n < 1 ∨ 64 < n
  · refine (new_no n w hn).mono ?_
    rintro e w0 ⟨rfl, rfl⟩
    by_cases h1 : n < 1
    · have d1 : decide (n < 1) = true := by simpa using h1
      clear hn
      go_wp2_with (go_at_call 10; refine (known_any _).mono ?_; rintro e w4 ⟨rfl, b4⟩)
      go_ret
      exact ⟨rfl, b4⟩
    · have d1 : decide (n < 1) = false := by simpa using h1
      have d2 : decide (n > 64) = true := by simp; omega
      clear hn
      go_wp2_with (go_at_call 10; refine (known_any _).mono ?_; rintro e w4 ⟨rfl, b4⟩)
      go_ret
      exact ⟨rfl, b4⟩
  · have hn1 : 1 ≤ n := by omega
    have hn2 : n ≤ 64 := by omega
    have d1 : decide (n < 1) = false := by simp; omega
    have d2 : decide (n > 64) = false := by simp; omega
    clear hn
    refine (new_yes n w hn1 hn2).mono ?_
    rintro e w1 ⟨rfl, i1, b1⟩
    have T1 := Lib.hid (Tb.start i1 b1)
    clear i1 b1
    go_wp2_with fail
    refine (rnew_any n w1).mono ?_
    rintro e w2 ⟨rfl, r2, b2⟩
    have I2 : Hid (Fp w w2 w.heap.size w1.heap.size [] ⟨n, fun _ => Sl.zero⟩ ⟨n, fun _ => Sl.zero⟩) := by
      have h1 := T1.out.tb.lt
      have h2 := T1.out.bel.size
      exact Lib.hid ⟨T1.out.tb.below b2, r2, by simp, by omega, (T1.out.below b2).bel, Nat.le_refl _, h2⟩
    clear r2 b2 T1
    go_wp2_with fail
    generalize w1.heap.size = c at *
    go_loopw [8] (fun iv wr => ∃ i : Nat, ∃ s, i ≤ len ∧ i ≤ 150 ∧ iv = .int .i64 i ∧ Hid (Fp w wr w.heap.size c [] s s)) (fun iv _ => len - (intOf iv).toNat)
    case atStart => exact ⟨0, _, by omega, by omega, rfl, I2⟩
    case round =>
      obtain ⟨i, s, hil, hi150, rfl, HS⟩ := hrel
      clear I2
      by_cases hlt : i < len ∧ i < 150
      · obtain ⟨hlt1, hlt2⟩ := hlt
        have h1 : (i : Int) < (len : Int) := by omega
        have h2 : (i : Int) < 150 := by omega
        have h0 : (0 : Int) ≤ (i : Int) := by omega
        rcases hr with e0 | ⟨bb, off, rfl, hbs, hcell⟩
        · omega
        · have cc : ∀ j, j < 7 → wr.cell? ⟨bb, off + i * 7 + j, none⟩ = some (.int .i64 (f i j)) := fun j hj => (HS.out.bel.cell (p := ⟨bb, off + i * 7 + j, none⟩) hbs).trans (hcell i j hlt1 hj).1
          have c0 : wr.cell? ⟨bb, off + i * 7, none⟩ = some (.int .i64 (f i 0)) := cc 0 (by omega)
          have c1 := cc 1 (by omega)
          have c2 := cc 2 (by omega)
          have c3 := cc 3 (by omega)
          have c4 := cc 4 (by omega)
          have c5 := cc 5 (by omega)
          have c6 := cc 6 (by omega)
          generalize f i 0 = z0 at c0
          generalize f i 1 = z1 at c1
          generalize f i 2 = z2 at c2
          generalize f i 3 = z3 at c3
          generalize f i 4 = z4 at c4
          generalize f i 5 = z5 at c5
          generalize f i 6 = z6 at c6
          clear hcell cc hbs
          go_upto_region 11 with fail
          have I3 := Lib.hid (HS.out.bind #[Value.int .i64 z0, .int .i64 z1, .int .i64 z2, .int .i64 z3, .int .i64 z4, .int .i64 z5, .int .i64 z6] 32)
          obtain ⟨g1, g2, g3, g4, g5, g6⟩ := I3.out.var7 (List.mem_cons_self)
          have g0 := (I3.out.vars _ (List.mem_cons_self)).1.cell 0
          simp only [List.getElem?_toArray, List.getElem?_cons_zero] at g0
          have hqs := (I3.out.vars _ (List.mem_cons_self)).1.lt
          clear c0 c1 c2 c3 c4 c5 c6 HS
          generalize wr.alloc (.cells #[Value.int .i64 z0, .int .i64 z1, .int .i64 z2, .int .i64 z3, .int .i64 z4, .int .i64 z5, .int .i64 z6] 32) = w3 at *
          generalize wr.heap.size = q at *
          by_cases k1 : z0 = 1
          · have e1 : (z0 == 1) = true := by simpa using k1
            obtain ⟨x1, x2, s', hop⟩ : ∃ x1 x2 s', opOpen s z1 z5 z6 z3 = ((x1, x2), s') := ⟨_, _, _, rfl⟩
            have HOP := Lib.hid hop
            clear hop k1
            go_wp2_with (first | (go_at_call 9; refine (tb_open_eq HOP.out I3.out.tb).mono ?_; rintro e w4 ⟨rfl, i4, f4⟩; have I4 := Lib.hid (I3.out.stepB i4 f4); clear i4 f4 g0 g1 g2 g3 g4 g5 g6; obtain ⟨g1, g2, g3, g4, g5, g6⟩ := I4.out.var7 (by simp : (q, #[Value.int .i64 z0, .int .i64 z1, .int .i64 z2, .int .i64 z3, .int .i64 z4, .int .i64 z5, .int .i64 z6]) ∈ _)) | (go_at_call 16; refine (ropen_eq HOP.out I4.out.rt).mono ?_; rintro e w5 ⟨rfl, i5, f5⟩; have I5 := Lib.hid (I4.out.stepC i5 f5); clear i5 f5 g1 g2 g3 g4 g5 g6; obtain ⟨g1, g2, g3, g4, g5, g6⟩ := I5.out.var7 (by simp : (q, #[Value.int .i64 z0, .int .i64 z1, .int .i64 z2, .int .i64 z3, .int .i64 z4, .int .i64 z5, .int .i64 z6]) ∈ _)) | (go_at_call 12; fail))
            obtain ⟨y, hy⟩ : ∃ y, (opGet s' z1 z2).1 = y := ⟨_, rfl⟩
            obtain ⟨yc, hyc⟩ : ∃ y, (opGet s' z1 z2).2 = y := ⟨_, rfl⟩
            have HGY := Lib.hid hy
            have HGC := Lib.hid hyc
            clear hy hyc
            go_wp2_with (first | (go_at_call 12; refine (tb_get I5.out.tb z1 z2).mono ?_; rintro e w8 ⟨rfl, b8⟩; rw [HGY.out, HGC.out]; simp only [Sl.file]; have J7 := Lib.hid (I5.out.below b8); have J8 := Lib.hid (J7.out.bind #[.int .i64 y.m, .int .i64 y.n, .int .i64 y.f, .int .i64 y.p] 41); have q8 := (J7.out.vars _ (by simp : (q, #[Value.int .i64 z0, .int .i64 z1, .int .i64 z2, .int .i64 z3, .int .i64 z4, .int .i64 z5, .int .i64 z6]) ∈ _)).1; have q81 : w8.cell? ⟨q, 1, none⟩ = some (.int .i64 z1) := q8.cell 1; have q82 : w8.cell? ⟨q, 2, none⟩ = some (.int .i64 z2) := q8.cell 2; have q83 : q < w8.heap.size := q8.lt; have q84 : ¬ q = w8.heap.size := (by omega); clear b8 q8) | (go_at_call 19; refine (rget_any J8.out.rt z1 z2).mono ?_; rintro e w9 ⟨rfl, b9⟩; rw [HGY.out, HGC.out]; simp only [Sl.file]; have J9 := Lib.hid ((J8.out.below b9).bind #[.int .i64 y.m, .int .i64 y.n, .int .i64 y.f, .int .i64 y.p] 53); clear b9))
            have v8 := (J9.out.vars _ (by simp : (w8.heap.size, #[Value.int .i64 y.m, .int .i64 y.n, .int .i64 y.f, .int .i64 y.p]) ∈ _)).1
            have v9 := (J9.out.vars _ (by simp : (w9.heap.size, #[Value.int .i64 y.m, .int .i64 y.n, .int .i64 y.f, .int .i64 y.p]) ∈ _)).1
            have vq := (J9.out.vars _ (by simp : (q, #[Value.int .i64 z0, .int .i64 z1, .int .i64 z2, .int .i64 z3, .int .i64 z4, .int .i64 z5, .int .i64 z6]) ∈ _)).1
            clear q81 q82
            generalize w9.alloc (.cells #[.int .i64 y.m, .int .i64 y.n, .int .i64 y.f, .int .i64 y.p] 53) = w10 at *
            have p80 : w10.cell? ⟨w8.heap.size, 0, none⟩ = some (.int .i64 y.m) := v8.cell 0
            have p81 : w10.cell? ⟨w8.heap.size, 1, none⟩ = some (.int .i64 y.n) := v8.cell 1
            have p82 : w10.cell? ⟨w8.heap.size, 2, none⟩ = some (.int .i64 y.f) := v8.cell 2
            have p83 : w10.cell? ⟨w8.heap.size, 3, none⟩ = some (.int .i64 y.p) := v8.cell 3
            have p90 : w10.cell? ⟨w9.heap.size, 0, none⟩ = some (.int .i64 y.m) := v9.cell 0
            have p91 : w10.cell? ⟨w9.heap.size, 1, none⟩ = some (.int .i64 y.n) := v9.cell 1
            have p92 : w10.cell? ⟨w9.heap.size, 2, none⟩ = some (.int .i64 y.f) := v9.cell 2
            have p93 : w10.cell? ⟨w9.heap.size, 3, none⟩ = some (.int .i64 y.p) := v9.cell 3
            have q1 : w10.cell? ⟨q, 1, none⟩ = some (.int .i64 z1) := vq.cell 1
            have q5 : w10.cell? ⟨q, 5, none⟩ = some (.int .i64 z5) := vq.cell 5
            have k8 : w8.heap.size < w10.heap.size := v8.lt
            have k9 : w9.heap.size < w10.heap.size := v9.lt
            have kq : q < w10.heap.size := vq.lt
            clear v8 v9 vq
            have TB := Lib.hid J9.out.tb
            have RT := Lib.hid J9.out.rt
            refine wp_region_graft (by kernel_rfl) (by kernel_rfl) ?_
            repeat (go_big_quiet_step ((first | (go_at_call 20; exact calls_graft (tb_room (TB.out.below (graft_below _ _)) z1)) | (go_at_call 21; exact calls_graft (rroom_any (RT.out.below (graft_below _ _)) z1)) | (go_at_call 13; exact calls_graft (count_any (TB.out.below (graft_below _ _)))) | (go_at_call 22; exact calls_graft (rcount_b (RT.out.below (graft_below _ _)))) | (go_at_call 14; exact calls_graft (in_any (TB.out.below (graft_below _ _)) z5)) | (go_at_call 23; exact calls_graft (rin_b (RT.out.below (graft_below _ _)) z5)))))
            refine wpQuiet_nil ?_
            intro WT hWT
            have IT := Lib.hid (J9.out.below hWT)
            clear hWT TB RT p80 p81 p82 p83 p90 p91 p92 p93 q1 q5
            go_wp2_with fail
            go_roundw
            case rel => exact ⟨i + 1, s', by omega, by omega, by go_num, Lib.hid (IT.out.unbind (by simp))⟩
            case measure => simp [intOf]; omega
          · have e1 : (z0 == 1) = false := by simpa using k1
            by_cases k2 : z0 = 2
            · have e2 : (z0 == 2) = true := by simpa using k2
              obtain ⟨x1, x2, x3, s', hop⟩ : ∃ x1 x2 x3 s', opClose s z1 z2 = ((x1, x2, x3), s') := ⟨_, _, _, _, rfl⟩
              have HOP := Lib.hid hop
              clear hop k1 k2
              go_wp2_with (first | (go_at_call 8; refine (tb_close_eq HOP.out I3.out.tb).mono ?_; rintro e w4 ⟨rfl, i4, f4⟩; have J4 := Lib.hid (I3.out.stepB i4 f4); have I4 := Lib.hid (J4.out.bind #[.int .i64 x1, .int .i64 x2] 30); clear i4 f4 g0 g1 g2 g3 g4 g5 g6; obtain ⟨g1, g2, g3, g4, g5, g6⟩ := J4.out.var7 (by simp : (q, #[Value.int .i64 z0, .int .i64 z1, .int .i64 z2, .int .i64 z3, .int .i64 z4, .int .i64 z5, .int .i64 z6]) ∈ _); have m4 : q < w4.heap.size := (J4.out.vars _ (by simp : (q, #[Value.int .i64 z0, .int .i64 z1, .int .i64 z2, .int .i64 z3, .int .i64 z4, .int .i64 z5, .int .i64 z6]) ∈ _)).1.lt; have m4' : ¬ q = w4.heap.size := (by omega)) | (go_at_call 17; refine (rclose_eq HOP.out I4.out.rt).mono ?_; rintro e w5 ⟨rfl, i5, f5⟩; have J5 := Lib.hid (I4.out.stepC i5 f5); have I5 := Lib.hid (J5.out.bind #[.int .i64 x1, .int .i64 x2] 30); have o5 := (J5.out.vars _ (by simp : (w4.heap.size, #[Value.int .i64 x1, .int .i64 x2]) ∈ _)).1; have o51 : w5.cell? ⟨w4.heap.size, 0, none⟩ = some (.int .i64 x1) := o5.cell 0; have o52 : w5.cell? ⟨w4.heap.size, 1, none⟩ = some (.int .i64 x2) := o5.cell 1; have o53 : w4.heap.size < w5.heap.size := o5.lt; have o54 : ¬ w4.heap.size = w5.heap.size := (by omega); clear i5 f5 g1 g2 g3 g4 g5 g6 o5; obtain ⟨g1, g2, g3, g4, g5, g6⟩ := J5.out.var7 (by simp : (q, #[Value.int .i64 z0, .int .i64 z1, .int .i64 z2, .int .i64 z3, .int .i64 z4, .int .i64 z5, .int .i64 z6]) ∈ _); have m5 : q < w5.heap.size := (J5.out.vars _ (by simp : (q, #[Value.int .i64 z0, .int .i64 z1, .int .i64 z2, .int .i64 z3, .int .i64 z4, .int .i64 z5, .int .i64 z6]) ∈ _)).1.lt; have m5' : ¬ q = w5.heap.size := (by omega)) | (go_at_call 12; fail))
              obtain ⟨y, hy⟩ : ∃ y, (opGet s' z1 z2).1 = y := ⟨_, rfl⟩
              obtain ⟨yc, hyc⟩ : ∃ y, (opGet s' z1 z2).2 = y := ⟨_, rfl⟩
              have HGY := Lib.hid hy
              have HGC := Lib.hid hyc
              clear hy hyc
              go_wp2_with (first | (go_at_call 12; refine (tb_get I5.out.tb z1 z2).mono ?_; rintro e w8 ⟨rfl, b8⟩; rw [HGY.out, HGC.out]; simp only [Sl.file]; have J7 := Lib.hid (I5.out.below b8); have J8 := Lib.hid (J7.out.bind #[.int .i64 y.m, .int .i64 y.n, .int .i64 y.f, .int .i64 y.p] 41); have q8 := (J7.out.vars _ (by simp : (q, #[Value.int .i64 z0, .int .i64 z1, .int .i64 z2, .int .i64 z3, .int .i64 z4, .int .i64 z5, .int .i64 z6]) ∈ _)).1; have q81 : w8.cell? ⟨q, 1, none⟩ = some (.int .i64 z1) := q8.cell 1; have q82 : w8.cell? ⟨q, 2, none⟩ = some (.int .i64 z2) := q8.cell 2; have q83 : q < w8.heap.size := q8.lt; have q84 : ¬ q = w8.heap.size := (by omega); clear b8 q8) | (go_at_call 19; refine (rget_any J8.out.rt z1 z2).mono ?_; rintro e w9 ⟨rfl, b9⟩; rw [HGY.out, HGC.out]; simp only [Sl.file]; have J9 := Lib.hid ((J8.out.below b9).bind #[.int .i64 y.m, .int .i64 y.n, .int .i64 y.f, .int .i64 y.p] 53); clear b9))
              have v8 := (J9.out.vars _ (by simp : (w8.heap.size, #[Value.int .i64 y.m, .int .i64 y.n, .int .i64 y.f, .int .i64 y.p]) ∈ _)).1
              have v9 := (J9.out.vars _ (by simp : (w9.heap.size, #[Value.int .i64 y.m, .int .i64 y.n, .int .i64 y.f, .int .i64 y.p]) ∈ _)).1
              have vq := (J9.out.vars _ (by simp : (q, #[Value.int .i64 z0, .int .i64 z1, .int .i64 z2, .int .i64 z3, .int .i64 z4, .int .i64 z5, .int .i64 z6]) ∈ _)).1
              clear q81 q82
              generalize w9.alloc (.cells #[.int .i64 y.m, .int .i64 y.n, .int .i64 y.f, .int .i64 y.p] 53) = w10 at *
              have p80 : w10.cell? ⟨w8.heap.size, 0, none⟩ = some (.int .i64 y.m) := v8.cell 0
              have p81 : w10.cell? ⟨w8.heap.size, 1, none⟩ = some (.int .i64 y.n) := v8.cell 1
              have p82 : w10.cell? ⟨w8.heap.size, 2, none⟩ = some (.int .i64 y.f) := v8.cell 2
              have p83 : w10.cell? ⟨w8.heap.size, 3, none⟩ = some (.int .i64 y.p) := v8.cell 3
              have p90 : w10.cell? ⟨w9.heap.size, 0, none⟩ = some (.int .i64 y.m) := v9.cell 0
              have p91 : w10.cell? ⟨w9.heap.size, 1, none⟩ = some (.int .i64 y.n) := v9.cell 1
              have p92 : w10.cell? ⟨w9.heap.size, 2, none⟩ = some (.int .i64 y.f) := v9.cell 2
              have p93 : w10.cell? ⟨w9.heap.size, 3, none⟩ = some (.int .i64 y.p) := v9.cell 3
              have q1 : w10.cell? ⟨q, 1, none⟩ = some (.int .i64 z1) := vq.cell 1
              have q5 : w10.cell? ⟨q, 5, none⟩ = some (.int .i64 z5) := vq.cell 5
              have k8 : w8.heap.size < w10.heap.size := v8.lt
              have k9 : w9.heap.size < w10.heap.size := v9.lt
              have kq : q < w10.heap.size := vq.lt
              clear v8 v9 vq
              have TB := Lib.hid J9.out.tb
              have RT := Lib.hid J9.out.rt
              refine wp_region_graft (by kernel_rfl) (by kernel_rfl) ?_
              repeat (go_big_quiet_step ((first | (go_at_call 20; exact calls_graft (tb_room (TB.out.below (graft_below _ _)) z1)) | (go_at_call 21; exact calls_graft (rroom_any (RT.out.below (graft_below _ _)) z1)) | (go_at_call 13; exact calls_graft (count_any (TB.out.below (graft_below _ _)))) | (go_at_call 22; exact calls_graft (rcount_b (RT.out.below (graft_below _ _)))) | (go_at_call 14; exact calls_graft (in_any (TB.out.below (graft_below _ _)) z5)) | (go_at_call 23; exact calls_graft (rin_b (RT.out.below (graft_below _ _)) z5)))))
              refine wpQuiet_nil ?_
              intro WT hWT
              have IT := Lib.hid (J9.out.below hWT)
              clear hWT TB RT p80 p81 p82 p83 p90 p91 p92 p93 q1 q5
              go_wp2_with fail
              go_roundw
              case rel => exact ⟨i + 1, s', by omega, by omega, by go_num, Lib.hid (IT.out.unbind (by simp))⟩
              case measure => simp [intOf]; omega
            · have e2 : (z0 == 2) = false := by simpa using k2
              by_cases k3 : z0 = 3
              · have e3 : (z0 == 3) = true := by simpa using k3
                obtain ⟨x1, s', hop⟩ : ∃ x1 s', opSeek s z1 z2 z4 = (x1, s') := ⟨_, _, rfl⟩
                have HOP := Lib.hid hop
                clear hop k1 k2 k3
                go_wp2_with fail
                have IX := I3
                go_region_held3 (fun w' => w'.cell? ⟨q, 1, none⟩ = some (.int .i64 z1) ∧ w'.cell? ⟨q, 2, none⟩ = some (.int .i64 z2) ∧ w'.cell? ⟨q, 4, none⟩ = some (.int .i64 z4)) (first | exact ⟨g1, g2, g4⟩) (first | (go_at_call 11; (first | refine (tb_seek_eq HOP.out IX.out.tb).mono ?_ | refine (tb_seek_eq HOP.out IX.out.drew.tb).mono ?_); rintro e w4 ⟨rfl, i4, f4⟩; have IX := Lib.hid (by first | exact IX.out.stepB i4 f4 | exact IX.out.drew.stepB i4 f4); obtain ⟨g1, g2, g3, g4, g5, g6⟩ := IX.out.var7 (by simp : (q, #[Value.int .i64 z0, .int .i64 z1, .int .i64 z2, .int .i64 z3, .int .i64 z4, .int .i64 z5, .int .i64 z6]) ∈ _); clear i4 f4) | (go_at_call 18; (first | refine (rseek_eq HOP.out IX.out.rt).mono ?_ | refine (rseek_eq HOP.out IX.out.drew.rt).mono ?_); rintro e w5 ⟨rfl, i5, f5⟩; have IX := Lib.hid (by first | exact IX.out.stepC i5 f5 | exact IX.out.drew.stepC i5 f5); obtain ⟨g1, g2, g3, g4, g5, g6⟩ := IX.out.var7 (by simp : (q, #[Value.int .i64 z0, .int .i64 z1, .int .i64 z2, .int .i64 z3, .int .i64 z4, .int .i64 z5, .int .i64 z6]) ∈ _); clear i5 f5))
                all_goals
                  obtain ⟨y, hy⟩ : ∃ y, (opGet s' z1 z2).1 = y := ⟨_, rfl⟩
                  obtain ⟨yc, hyc⟩ : ∃ y, (opGet s' z1 z2).2 = y := ⟨_, rfl⟩
                  have HGY := Lib.hid hy
                  have HGC := Lib.hid hyc
                  clear hy hyc
                  go_wp2_with (first | (go_at_call 12; refine (tb_get IX.out.tb z1 z2).mono ?_; rintro e w8 ⟨rfl, b8⟩; rw [HGY.out, HGC.out]; simp only [Sl.file]; have J7 := Lib.hid (IX.out.below b8); have J8 := Lib.hid (J7.out.bind #[.int .i64 y.m, .int .i64 y.n, .int .i64 y.f, .int .i64 y.p] 41); have q8 := (J7.out.vars _ (by simp : (q, #[Value.int .i64 z0, .int .i64 z1, .int .i64 z2, .int .i64 z3, .int .i64 z4, .int .i64 z5, .int .i64 z6]) ∈ _)).1; have q81 : w8.cell? ⟨q, 1, none⟩ = some (.int .i64 z1) := q8.cell 1; have q82 : w8.cell? ⟨q, 2, none⟩ = some (.int .i64 z2) := q8.cell 2; have q83 : q < w8.heap.size := q8.lt; have q84 : ¬ q = w8.heap.size := (by omega); clear b8 q8) | (go_at_call 19; refine (rget_any J8.out.rt z1 z2).mono ?_; rintro e w9 ⟨rfl, b9⟩; rw [HGY.out, HGC.out]; simp only [Sl.file]; have J9 := Lib.hid ((J8.out.below b9).bind #[.int .i64 y.m, .int .i64 y.n, .int .i64 y.f, .int .i64 y.p] 53); clear b9))
                  have v8 := (J9.out.vars _ (by simp : (w8.heap.size, #[Value.int .i64 y.m, .int .i64 y.n, .int .i64 y.f, .int .i64 y.p]) ∈ _)).1
                  have v9 := (J9.out.vars _ (by simp : (w9.heap.size, #[Value.int .i64 y.m, .int .i64 y.n, .int .i64 y.f, .int .i64 y.p]) ∈ _)).1
                  have vq := (J9.out.vars _ (by simp : (q, #[Value.int .i64 z0, .int .i64 z1, .int .i64 z2, .int .i64 z3, .int .i64 z4, .int .i64 z5, .int .i64 z6]) ∈ _)).1
                  clear q81 q82
                  generalize w9.alloc (.cells #[.int .i64 y.m, .int .i64 y.n, .int .i64 y.f, .int .i64 y.p] 53) = w10 at *
                  have p80 : w10.cell? ⟨w8.heap.size, 0, none⟩ = some (.int .i64 y.m) := v8.cell 0
                  have p81 : w10.cell? ⟨w8.heap.size, 1, none⟩ = some (.int .i64 y.n) := v8.cell 1
                  have p82 : w10.cell? ⟨w8.heap.size, 2, none⟩ = some (.int .i64 y.f) := v8.cell 2
                  have p83 : w10.cell? ⟨w8.heap.size, 3, none⟩ = some (.int .i64 y.p) := v8.cell 3
                  have p90 : w10.cell? ⟨w9.heap.size, 0, none⟩ = some (.int .i64 y.m) := v9.cell 0
                  have p91 : w10.cell? ⟨w9.heap.size, 1, none⟩ = some (.int .i64 y.n) := v9.cell 1
                  have p92 : w10.cell? ⟨w9.heap.size, 2, none⟩ = some (.int .i64 y.f) := v9.cell 2
                  have p93 : w10.cell? ⟨w9.heap.size, 3, none⟩ = some (.int .i64 y.p) := v9.cell 3
                  have q1 : w10.cell? ⟨q, 1, none⟩ = some (.int .i64 z1) := vq.cell 1
                  have q5 : w10.cell? ⟨q, 5, none⟩ = some (.int .i64 z5) := vq.cell 5
                  have k8 : w8.heap.size < w10.heap.size := v8.lt
                  have k9 : w9.heap.size < w10.heap.size := v9.lt
                  have kq : q < w10.heap.size := vq.lt
                  clear v8 v9 vq
                  have TB := Lib.hid J9.out.tb
                  have RT := Lib.hid J9.out.rt
                  refine wp_region_graft (by kernel_rfl) (by kernel_rfl) ?_
                  repeat (go_big_quiet_step ((first | (go_at_call 20; exact calls_graft (tb_room (TB.out.below (graft_below _ _)) z1)) | (go_at_call 21; exact calls_graft (rroom_any (RT.out.below (graft_below _ _)) z1)) | (go_at_call 13; exact calls_graft (count_any (TB.out.below (graft_below _ _)))) | (go_at_call 22; exact calls_graft (rcount_b (RT.out.below (graft_below _ _)))) | (go_at_call 14; exact calls_graft (in_any (TB.out.below (graft_below _ _)) z5)) | (go_at_call 23; exact calls_graft (rin_b (RT.out.below (graft_below _ _)) z5)))))
                  refine wpQuiet_nil ?_
                  intro WT hWT
                  have IT := Lib.hid (J9.out.below hWT)
                  clear hWT TB RT p80 p81 p82 p83 p90 p91 p92 p93 q1 q5
                  go_wp2_with fail
                  go_roundw
                  case rel => exact ⟨i + 1, s', by omega, by omega, by go_num, Lib.hid (IT.out.unbind (by simp))⟩
                  case measure => simp [intOf]; omega
              · have e3 : (z0 == 3) = false := by simpa using k3
                clear k1 k2 k3
                obtain ⟨y, hy⟩ : ∃ y, (opGet s z1 z2).1 = y := ⟨_, rfl⟩
                obtain ⟨yc, hyc⟩ : ∃ y, (opGet s z1 z2).2 = y := ⟨_, rfl⟩
                have HGY := Lib.hid hy
                have HGC := Lib.hid hyc
                clear hy hyc
                go_wp2_with (first | (go_at_call 12; refine (tb_get I3.out.tb z1 z2).mono ?_; rintro e w8 ⟨rfl, b8⟩; rw [HGY.out, HGC.out]; simp only [Sl.file]; have J7 := Lib.hid (I3.out.below b8); have J8 := Lib.hid (J7.out.bind #[.int .i64 y.m, .int .i64 y.n, .int .i64 y.f, .int .i64 y.p] 41); have q8 := (J7.out.vars _ (by simp : (q, #[Value.int .i64 z0, .int .i64 z1, .int .i64 z2, .int .i64 z3, .int .i64 z4, .int .i64 z5, .int .i64 z6]) ∈ _)).1; have q81 : w8.cell? ⟨q, 1, none⟩ = some (.int .i64 z1) := q8.cell 1; have q82 : w8.cell? ⟨q, 2, none⟩ = some (.int .i64 z2) := q8.cell 2; have q83 : q < w8.heap.size := q8.lt; have q84 : ¬ q = w8.heap.size := (by omega); clear b8 q8) | (go_at_call 19; refine (rget_any J8.out.rt z1 z2).mono ?_; rintro e w9 ⟨rfl, b9⟩; rw [HGY.out, HGC.out]; simp only [Sl.file]; have J9 := Lib.hid ((J8.out.below b9).bind #[.int .i64 y.m, .int .i64 y.n, .int .i64 y.f, .int .i64 y.p] 53); clear b9))
                have v8 := (J9.out.vars _ (by simp : (w8.heap.size, #[Value.int .i64 y.m, .int .i64 y.n, .int .i64 y.f, .int .i64 y.p]) ∈ _)).1
                have v9 := (J9.out.vars _ (by simp : (w9.heap.size, #[Value.int .i64 y.m, .int .i64 y.n, .int .i64 y.f, .int .i64 y.p]) ∈ _)).1
                have vq := (J9.out.vars _ (by simp : (q, #[Value.int .i64 z0, .int .i64 z1, .int .i64 z2, .int .i64 z3, .int .i64 z4, .int .i64 z5, .int .i64 z6]) ∈ _)).1
                clear q81 q82
                generalize w9.alloc (.cells #[.int .i64 y.m, .int .i64 y.n, .int .i64 y.f, .int .i64 y.p] 53) = w10 at *
                have p80 : w10.cell? ⟨w8.heap.size, 0, none⟩ = some (.int .i64 y.m) := v8.cell 0
                have p81 : w10.cell? ⟨w8.heap.size, 1, none⟩ = some (.int .i64 y.n) := v8.cell 1
                have p82 : w10.cell? ⟨w8.heap.size, 2, none⟩ = some (.int .i64 y.f) := v8.cell 2
                have p83 : w10.cell? ⟨w8.heap.size, 3, none⟩ = some (.int .i64 y.p) := v8.cell 3
                have p90 : w10.cell? ⟨w9.heap.size, 0, none⟩ = some (.int .i64 y.m) := v9.cell 0
                have p91 : w10.cell? ⟨w9.heap.size, 1, none⟩ = some (.int .i64 y.n) := v9.cell 1
                have p92 : w10.cell? ⟨w9.heap.size, 2, none⟩ = some (.int .i64 y.f) := v9.cell 2
                have p93 : w10.cell? ⟨w9.heap.size, 3, none⟩ = some (.int .i64 y.p) := v9.cell 3
                have q1 : w10.cell? ⟨q, 1, none⟩ = some (.int .i64 z1) := vq.cell 1
                have q5 : w10.cell? ⟨q, 5, none⟩ = some (.int .i64 z5) := vq.cell 5
                have k8 : w8.heap.size < w10.heap.size := v8.lt
                have k9 : w9.heap.size < w10.heap.size := v9.lt
                have kq : q < w10.heap.size := vq.lt
                clear v8 v9 vq
                have TB := Lib.hid J9.out.tb
                have RT := Lib.hid J9.out.rt
                refine wp_region_graft (by kernel_rfl) (by kernel_rfl) ?_
                repeat (go_big_quiet_step ((first | (go_at_call 20; exact calls_graft (tb_room (TB.out.below (graft_below _ _)) z1)) | (go_at_call 21; exact calls_graft (rroom_any (RT.out.below (graft_below _ _)) z1)) | (go_at_call 13; exact calls_graft (count_any (TB.out.below (graft_below _ _)))) | (go_at_call 22; exact calls_graft (rcount_b (RT.out.below (graft_below _ _)))) | (go_at_call 14; exact calls_graft (in_any (TB.out.below (graft_below _ _)) z5)) | (go_at_call 23; exact calls_graft (rin_b (RT.out.below (graft_below _ _)) z5)))))
                refine wpQuiet_nil ?_
                intro WT hWT
                have IT := Lib.hid (J9.out.below hWT)
                clear hWT TB RT p80 p81 p82 p83 p90 p91 p92 p93 q1 q5
                go_wp2_with fail
                go_roundw
                case rel => exact ⟨i + 1, s, by omega, by omega, by go_num, Lib.hid (IT.out.unbind (by simp))⟩
                case measure => simp [intOf]; omega
      · by_cases h1 : (i : Int) < (len : Int)
        · have h2 : ¬ (i : Int) < 150 := by omega
          go_wp2_with (go_at_call 10; refine (known_any _).mono ?_; rintro e w6 ⟨rfl, b6⟩)
          go_ret
          exact ⟨rfl, HS.out.bel.trans (b6.mono HS.out.bel.size)⟩
        · go_wp2_with (go_at_call 10; refine (known_any _).mono ?_; rintro e w6 ⟨rfl, b6⟩)
          go_ret
          exact ⟨rfl, HS.out.bel.trans (b6.mono HS.out.bel.size)⟩
end Go.Proofs.Ytfmhiamgfhdmmaa
