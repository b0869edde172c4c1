/- Chapter 4: lists held against each other; runs in memory of their own; chapter 4's runs that every statement asks again. -/
import Derived.Test.YtedfegbafjmkgaaDefer
namespace Go.Proofs.Ytedfegbafjmkgaa
open Go.RowKit

theorem ret_int {k : IntKind} {a b : Int} (h : a = b) : Ending.returned (.int k a) = .returned (.int k b) := by rw [h]
theorem within_any (n lo hi : Int) (w : World) (h1 : -9223372036854775808 ≤ n) (h2 : n ≤ 9223372036854775807) (h3 : 0 ≤ lo) (h4 : lo ≤ hi) (h5 : hi ≤ 1000000) :
    Calls Try.prog 9 #[.int .i64 n, .int .i64 lo, .int .i64 hi] w fun e w' => e = .returned (.int .i64 (lo + n % (hi - lo + 1))) ∧ w = w' := by
  by_cases hn : 0 ≤ n
  · have hr : 0 ≤ n % (hi - lo + 1) ∧ n % (hi - lo + 1) < hi - lo + 1 := ⟨Int.emod_nonneg _ (by omega), Int.emod_lt_of_pos _ (by omega)⟩
    have hd : decide (n % (hi - lo + 1) < 0) = false := by simp; omega
    go_enter Try.func9, Try.ntmps9
    go_wp2
    go_ret
    exact ⟨rfl, rfl⟩
  · have hm : (hi - lo + 1) ≠ 0 := by omega
    have e1 : n.tmod (hi - lo + 1) = -((-n) % (hi - lo + 1)) := by
      rw [← Int.tmod_eq_emod_of_nonneg (by omega), Int.neg_tmod]; omega
    have hr : 0 ≤ (-n) % (hi - lo + 1) ∧ (-n) % (hi - lo + 1) < hi - lo + 1 := ⟨Int.emod_nonneg _ (by omega), Int.emod_lt_of_pos _ (by omega)⟩
    have e2 : n % (hi - lo + 1) = if (-n) % (hi - lo + 1) = 0 then 0 else (hi - lo + 1) - (-n) % (hi - lo + 1) := by
      have q := Int.emod_add_mul_ediv (-n) (hi - lo + 1)
      split
      · rename_i h
        rw [h, Int.zero_add] at q
        rw [show n = (hi - lo + 1) * (-((-n) / (hi - lo + 1))) from by rw [Int.mul_neg, q]; omega]
        exact Int.mul_emod_right _ _
      · rename_i h
        have e3 : n = ((hi - lo + 1) - (-n) % (hi - lo + 1)) + (hi - lo + 1) * (-((-n) / (hi - lo + 1)) - 1) := by
          rw [Int.mul_sub, Int.mul_neg, Int.mul_one]; omega
        rw [e3, Int.add_mul_emod_self_left, ← e3]
        exact Int.emod_eq_of_lt (by omega) (by omega)
    obtain ⟨x, hx⟩ : ∃ x, (-n) % (hi - lo + 1) = x := ⟨_, rfl⟩
    rw [hx] at e1 e2 hr
    have E1 := Lib.hid e1
    have E2 := Lib.hid e2
    clear e1 e2 hx
    by_cases h0 : x = 0
    · subst h0
      have e1 : n.tmod (hi - lo + 1) = 0 := by rw [E1.out]; rfl
      go_enter Try.func9, Try.ntmps9
      go_wp2
      go_ret
      exact ⟨by rw [E2.out]; simp, rfl⟩
    · have e1 := E1.out
      have hneg : n.tmod (hi - lo + 1) < 0 := by omega
      have hlo : -(hi - lo + 1) < n.tmod (hi - lo + 1) := by omega
      clear e1
      have hd : decide (n.tmod (hi - lo + 1) < 0) = true := by simpa using hneg
      go_enter Try.func9, Try.ntmps9
      go_wp2
      go_ret
      refine ⟨ret_int ?_, rfl⟩
      rw [E2.out, if_neg h0]
      have := E1.out
      omega

/-- The slice value v holds the numbers l. -/
def Nums (w : World) (v : Value) (l : List Int) : Prop :=
  ∃ p c, v = .slice p l.length c ∧ (l.length = 0 ∨ ∃ f o, p = some ⟨f, o, none⟩ ∧ ∀ j, j < l.length → w.cell? ⟨f, o + j, none⟩ = some (.int .i64 (l.getD j 0)))
theorem Win.nums {w : World} {base n : Nat} {e : TypeId} {v : Value} {l : List Int} (h : Win w base e 1 v n (l.map (Value.int .i64))) (hn : l.length = n) : Nums w v l := by
  obtain ⟨p, c, rfl⟩ := h.value
  refine ⟨p, c, by rw [hn], ?_⟩
  by_cases h0 : n = 0
  · exact .inl (by omega)
  · obtain ⟨f, o, c', hv⟩ := h.form (by omega)
    cases hv
    refine .inr ⟨f, o, rfl, fun j hj => ?_⟩
    rw [h.cells j (by omega)]
    simp [List.getElem?_eq_getElem hj]
theorem Nums.kept {w w' : World} {v : Value} {l : List Int} (h : Nums w v l) (hk : ∀ f, v.ownBlock = some f → w'.heap[f]? = w.heap[f]?) : Nums w' v l := by
  obtain ⟨p, c, rfl, h0 | ⟨f, o, rfl, hc⟩⟩ := h
  · exact ⟨p, c, rfl, .inl h0⟩
  · exact ⟨_, c, rfl, .inr ⟨f, o, rfl, fun j hj => (World.cell?_of_block (w := w) (a := ⟨f, o + j, none⟩) (hk f rfl)).trans (hc j hj)⟩⟩
theorem Nums.below {w w' : World} {v : Value} {l : List Int} (h : Nums w v l) (hb : Below w.heap.size w w') : Nums w' v l := by
  obtain ⟨p, c, rfl, h0 | ⟨f, o, rfl, hc⟩⟩ := h
  · exact ⟨p, c, rfl, .inl h0⟩
  · by_cases h0 : l.length = 0
    · exact ⟨_, c, rfl, .inl h0⟩
    · have hf : f < w.heap.size := World.block_lt_of_cell? w _ (hc 0 (by omega))
      exact Nums.kept ⟨_, c, rfl, .inr ⟨f, o, rfl, hc⟩⟩ (fun f' e => by cases e; exact hb.block f hf)
theorem Nums.alloc {w : World} {v : Value} {l : List Int} (h : Nums w v l) (o : Obj) : Nums (w.alloc o) v l := h.below ((Below.refl _ _).alloc (Nat.le_refl _) o)
theorem nums_new (w : World) (l : List Int) (t : TypeId) (c : Nat) : Nums (w.alloc (.cells (l.map (Value.int .i64)).toArray t)) (.slice (some ⟨w.heap.size, 0, none⟩) l.length c) l := by
  refine ⟨_, c, rfl, .inr ⟨w.heap.size, 0, rfl, fun j hj => ?_⟩⟩
  rw [Nat.zero_add, World.cell?_alloc_new]
  simp [List.getElem?_eq_getElem hj]
set_option maxHeartbeats 1000000 in
theorem same16 (a b : Value) (l : List Int) (w : World) (hn : l.length ≤ 1000000) (h1 : Nums w a l) (h2 : Nums w b l) :
    Calls Try.prog 16 #[a, b] w fun e w' => e = .returned (.bool true) ∧ Below w.heap.size w w' := by
  obtain ⟨pa, ca, rfl, ha⟩ := h1
  obtain ⟨pb, cb, rfl, hb⟩ := h2
  have HA := Lib.hid ha
  have HB := Lib.hid hb
  clear ha hb
  go_enter Try.func16, Try.ntmps16
  go_wp2_with fail
  go_loopw [5] (fun iv wr => ∃ k : Nat, k ≤ l.length ∧ iv = .int .i64 k ∧ Hid (∃ m, wr = w.drewN m)) (fun iv _ => l.length - (intOf iv).toNat)
  case atStart => exact ⟨0, by omega, rfl, 0, rfl⟩
  case round =>
    obtain ⟨k, hk, rfl, hw⟩ := hrel
    obtain ⟨m, rfl⟩ := hw.out
    by_cases hlt : k < l.length
    · obtain ⟨f1, o1, e1, c1⟩ : ∃ f1 o1, pa = some ⟨f1, o1, none⟩ ∧ w.cell? ⟨f1, o1 + k, none⟩ = some (.int .i64 (l.getD k 0)) := by
        rcases HA.out with h | ⟨f, o, e, h⟩
        · omega
        · exact ⟨f, o, e, h k hlt⟩
      obtain ⟨f2, o2, e2, c2⟩ : ∃ f2 o2, pb = some ⟨f2, o2, none⟩ ∧ w.cell? ⟨f2, o2 + k, none⟩ = some (.int .i64 (l.getD k 0)) := by
        rcases HB.out with h | ⟨f, o, e, h⟩
        · omega
        · exact ⟨f, o, e, h k hlt⟩
      subst e1 e2
      obtain ⟨x, hx⟩ : ∃ x, l.getD k 0 = x := ⟨_, rfl⟩
      rw [hx] at c1 c2
      clear hx
      have hk0 : (0 : Int) ≤ (k : Int) := by omega
      have hk1 : (k : Int) < (l.length : Int) := by omega
      go_wp2_with fail
      go_quiet (fail)
      go_wp2_with fail
      go_roundw
      case rel => exact ⟨k + 1, by omega, by go_num, _, rfl⟩
      case measure => simp [intOf]; omega
    · obtain rfl : k = l.length := by omega
      go_wp2_with fail
      go_ret
      exact ⟨rfl, ⟨rfl, rfl, rfl, Nat.le_refl _, fun _ _ => rfl⟩⟩
set_option maxHeartbeats 1000000 in
theorem same17 (a b : Value) (l : List Int) (w : World) (hn : l.length ≤ 1000000) (h1 : Nums w a l) (h2 : Nums w b l) :
    Calls Try.prog 17 #[a, b] w fun e w' => e = .returned (.bool true) ∧ Below w.heap.size w w' := by
  obtain ⟨pa, ca, rfl, ha⟩ := h1
  obtain ⟨pb, cb, rfl, hb⟩ := h2
  have HA := Lib.hid ha
  have HB := Lib.hid hb
  clear ha hb
  go_enter Try.func17, Try.ntmps17
  go_wp2_with fail
  go_loopw [5] (fun iv wr => ∃ k : Nat, k ≤ l.length ∧ iv = .int .i64 k ∧ Hid (∃ m, wr = w.drewN m)) (fun iv _ => l.length - (intOf iv).toNat)
  case atStart => exact ⟨0, by omega, rfl, 0, rfl⟩
  case round =>
    obtain ⟨k, hk, rfl, hw⟩ := hrel
    obtain ⟨m, rfl⟩ := hw.out
    by_cases hlt : k < l.length
    · obtain ⟨f1, o1, e1, c1⟩ : ∃ f1 o1, pa = some ⟨f1, o1, none⟩ ∧ w.cell? ⟨f1, o1 + k, none⟩ = some (.int .i64 (l.getD k 0)) := by
        rcases HA.out with h | ⟨f, o, e, h⟩
        · omega
        · exact ⟨f, o, e, h k hlt⟩
      obtain ⟨f2, o2, e2, c2⟩ : ∃ f2 o2, pb = some ⟨f2, o2, none⟩ ∧ w.cell? ⟨f2, o2 + k, none⟩ = some (.int .i64 (l.getD k 0)) := by
        rcases HB.out with h | ⟨f, o, e, h⟩
        · omega
        · exact ⟨f, o, e, h k hlt⟩
      subst e1 e2
      obtain ⟨x, hx⟩ : ∃ x, l.getD k 0 = x := ⟨_, rfl⟩
      rw [hx] at c1 c2
      clear hx
      have hk0 : (0 : Int) ≤ (k : Int) := by omega
      have hk1 : (k : Int) < (l.length : Int) := by omega
      go_wp2_with fail
      go_quiet (fail)
      go_wp2_with fail
      go_roundw
      case rel => exact ⟨k + 1, by omega, by go_num, _, rfl⟩
      case measure => simp [intOf]; omega
    · obtain rfl : k = l.length := by omega
      go_wp2_with fail
      go_ret
      exact ⟨rfl, ⟨rfl, rfl, rfl, Nat.le_refl _, fun _ _ => rfl⟩⟩

/-- Readers and what waits, in memory that is new beside W. -/
structure GrB (W w : World) (base g rb : Nat) (v : Value) (s : GS) : Prop where
  gr : Gr w base g rb v s
  bel : Below W.heap.size W w
  hg : W.heap.size ≤ g
  hrb : W.heap.size ≤ rb
section
variable {W w w' : World} {base g rb : Nat} {v : Value} {s : GS}
theorem below_frm {w a b : World} {l : List Nat} (h : Below w.heap.size w a) (hf : Frm l a b) (hl : ∀ k ∈ l, w.heap.size ≤ k) : Below w.heap.size w b :=
  h.trans (hf.below h.size hl)
theorem GrB.on (h : GrB W w base g rb v s) (hB : Below w.heap.size w w') : GrB W w' base g rb v s := ⟨h.gr.below hB, h.bel.trans (hB.mono h.bel.size), h.hg, h.hrb⟩
theorem GrB.go {l : List Nat} {v' : Value} {s' : GS} (h : GrB W w base g rb v s) (hs : Gr w' base g rb v' s') (hF : Frm l w w') (hl : ∀ k ∈ l, W.heap.size ≤ k) : GrB W w' base g rb v' s' := ⟨hs, below_frm h.bel hF hl, h.hg, h.hrb⟩
theorem GrB.enter (h : GrB W w base g rb v s) {i : Nat} {x : Int × Int} (hx : s.rd[i]? = some x) : Calls Try.prog 10 #[.pointer (some ⟨g, 0, none⟩), .int .i64 i] w fun e w' => e = .returned (.int .i64 0) ∧ GrB W w' base g rb v (s.enter i x) ∧ Frm [rb] w w' :=
  (enter_yes h.gr hx).mono fun _ _ ⟨e, h1, h2⟩ => ⟨e, h.go h1 h2 (by simpa using h.hrb), h2⟩
theorem GrB.leave (h : GrB W w base g rb v s) {i : Nat} {x : Int × Int} (hx : s.rd[i]? = some x) (hd : x.1 ≠ 0) : Calls Try.prog 11 #[.pointer (some ⟨g, 0, none⟩), .int .i64 i] w fun e w' => e = .returned (.int .i64 0) ∧ GrB W w' base g rb v (s.leave i x) ∧ Frm [rb] w w' :=
  (leave_yes h.gr hx hd).mono fun _ _ ⟨e, h1, h2⟩ => ⟨e, h.go h1 h2 (by simpa using h.hrb), h2⟩
theorem GrB.push (h : GrB W w base g rb v s) {id : Int} (hm : s.wt.length < 16) : Calls Try.prog 12 #[.pointer (some ⟨g, 0, none⟩), .int .i64 id] w fun e w' => ∃ sv v', e = .returned (.tuple #[.bool (((inside s.rd s.rd.length).length : Int) == 0), .int .i64 0]) ∧
    GrB W w' base g rb v' { s with wt := s.wt ++ [⟨id, sv, sinceOf s.rd⟩] } ∧ Frm (g :: v.ownBlock.toList) w w' :=
  (defer_yes h.gr hm).mono fun _ _ ⟨sv, v', e, h1, h2⟩ => ⟨sv, v', e, h.go h1 h2 (by
    intro k hk
    have := h.hg
    have := h.gr.gb
    rcases List.mem_cons.1 hk with rfl | hk
    · exact h.hg
    · have := (h.gr.hv.lt k (by simpa using hk)).1; omega), h2⟩
theorem GrB.poll (h : GrB W w base g rb v s) : Calls Try.prog 13 #[.pointer (some ⟨g, 0, none⟩)] w fun e X => ∃ lv ov, e = .returned ov ∧ GrB W X base g rb lv { s with wt := keptOf s s.wt.length } ∧ Win X w.heap.size 2 1 ov (outOf s s.wt.length).length ((outOf s s.wt.length).map (Value.int .i64)) ∧ Frm [g] w X :=
  (poll_any h.gr).mono fun _ _ ⟨lv, ov, e, h1, h2, h3⟩ => ⟨lv, ov, e, h.go h1 h3 (by simpa using h.hg), h2, h3⟩
theorem gr_begin (n : Nat) (W w : World) (h1 : 1 ≤ n) (h2 : n ≤ 8) (hB : Below W.heap.size W w) :
    Calls Try.prog 8 #[.int .i64 n] w fun e w' => ∃ g rb, e = .returned (.tuple #[.pointer (some ⟨g, 0, none⟩), .int .i64 0]) ∧ GrB W w' (w.heap.size + 2) g rb (.slice none 0 0) (GS.new n) :=
  (new_yes n w h1 h2).mono fun _ _ ⟨e, a, b⟩ => ⟨_, _, e, a, hB.trans (b.mono hB.size), by have := hB.size; omega, hB.size⟩
end

def ks1 : GS := ⟨[(1, 0), (0, 0)], []⟩
def ks2 (sv : Value) : GS := ⟨[(1, 0), (0, 0)], [⟨7, sv, [0, -1]⟩]⟩
def ks3 (sv : Value) : GS := ⟨[(0, 1), (0, 0)], [⟨7, sv, [0, -1]⟩]⟩
theorem kn1 : (GS.new 2).enter 0 (0, 0) = ks1 := by kernel_rfl
theorem kn2 (sv : Value) : ({ ks1 with wt := ks1.wt ++ [⟨7, sv, sinceOf ks1.rd⟩] } : GS) = ks2 sv := by kernel_rfl
theorem kn3 (sv : Value) : ({ ks2 sv with wt := keptOf (ks2 sv) (ks2 sv).wt.length } : GS) = ks2 sv ∧ outOf (ks2 sv) (ks2 sv).wt.length = [] := ⟨by kernel_rfl, by kernel_rfl⟩
theorem kn4 (sv : Value) : (ks2 sv).leave 0 (1, 0) = ks3 sv := by kernel_rfl
theorem kn5 (sv : Value) : outOf (ks3 sv) (ks3 sv).wt.length = [7] := by kernel_rfl
set_option maxRecDepth 100000 in
set_option maxHeartbeats 4000000 in
theorem known_any (w : World) : Calls Try.prog 15 #[] w fun e w' => e = .returned (.bool true) ∧ Below w.heap.size w w' := by
  have E0 := Lib.hid (gr_begin 2 w w (by omega) (by omega) (Below.refl _ _))
  go_enter Try.func15, Try.ntmps15
  go_upto_region 4 with (first | (go_at_call 8; refine E0.out.mono ?_; rintro e w1 ⟨g, rb, rfl, g1⟩; have G1 := Lib.hid g1; clear g1))
  clear E0
  go_upto_region 5 with (first | (go_at_call 10; refine (G1.out.enter (i := 0) (x := (0, 0)) rfl).mono ?_; rintro e w2 ⟨rfl, g2, _⟩; rw [kn1] at g2; have G2 := Lib.hid g2; clear g2))
  clear G1
  go_upto_region 6 with (first | (go_at_call 12; refine (G2.out.push (id := 7) (by decide)).mono ?_; rintro e w3 ⟨sv, v3, rfl, g3, _⟩; rw [kn2] at g3; have G3 := Lib.hid g3; rw [show ((((inside ks1.rd ks1.rd.length).length : Nat) : Int) == 0) = false by decide +kernel]; clear g3))
  clear G2
  go_upto_region 7 with (first | (go_at_call 13; refine G3.out.poll.mono ?_; rintro e w4 ⟨v4, oa, rfl, g4, n4, _⟩; rw [(kn3 sv).1] at g4; rw [(kn3 sv).2] at n4; have G4 := Lib.hid g4; obtain ⟨pa, ca, rfl⟩ : ∃ pa ca, oa = .slice pa 0 ca := n4.value; clear g4 n4))
  clear G3
  go_upto_region 8 with (first | (go_at_call 11; refine (G4.out.leave (i := 0) (x := (1, 0)) rfl (by decide)).mono ?_; rintro e w5 ⟨rfl, g5, _⟩; rw [kn4] at g5; have G5 := Lib.hid g5; clear g5))
  clear G4
  go_upto_region 9 with (first | (go_at_call 13; refine G5.out.poll.mono ?_; rintro e w6 ⟨v6, ob, rfl, g6, n6, _⟩; have B6 := Lib.hid g6.bel; rw [kn5] at n6; have N6 := Lib.hid (Win.nums n6 rfl); clear g6 n6))
  clear G5
  have N7 := Lib.hid (N6.out.alloc (.cells #[.int .i64 7] 2))
  have N8 := Lib.hid (nums_new w6 [7] 2 1)
  obtain ⟨pb, cb, hob, _⟩ := N6.out
  subst hob
  go_wp2_with (first | (go_at_call 16; refine (same16 _ _ [7] _ (by simp) N7.out N8.out).mono ?_; rintro e w8 ⟨rfl, b8⟩; have HB8 := Lib.hid b8; clear b8))
  go_ret
  have b0 := B6.out.alloc B6.out.size (.cells #[.int .i64 7] 2)
  exact ⟨rfl, b0.trans (HB8.out.mono b0.size)⟩
end Go.Proofs.Ytedfegbafjmkgaa
