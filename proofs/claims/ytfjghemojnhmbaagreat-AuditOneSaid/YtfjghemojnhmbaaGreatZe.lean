/- The walk of AuditOne. -/
import Derived.Test.YtfjghemojnhmbaaGreatQuiet
import Derived.Test.YtfjghemojnhmbaaGreatZd
namespace Go.Proofs.YtfjghemojnhmbaaGreat
open Go.RowKit

def ev2 : Ev := ⟨2, 0, Cal.zero, Res.zero⟩
def rn1 : Res := ⟨0, 1, 0, 0, 0, 0, 0, 0, 0, [], []⟩
theorem shp2 : shp [ev2] = (1, 0) := by rfl
theorem shp0 : shp [] = (0, 0) := by rfl
theorem fld1 : fldI 1 rn1 = false := by rfl
theorem fld3 : fldI 3 rn1 = true := by rfl
theorem ev_new {w : World} {L : Array Value} (hL : L = (ev2.cells (.slice none 0 0) (.slice none 0 0) (.slice none 0 0)).toArray) :
    Calls Tryz.prog 7 #[.slice (some ⟨w.heap.size, 0, none⟩) 1 1] (w.alloc (.cells L 44)) fun e w' => e = .returned (.tuple #[.int .i64 1, .int .i64 0]) ∧ Below w.heap.size w w' := by
  subst hL
  have hev : Evs (w.alloc (.cells (ev2.cells (.slice none 0 0) (.slice none 0 0) (.slice none 0 0)).toArray 44)) (some ⟨w.heap.size, 0, none⟩) [ev2] := by
    refine .inr ⟨w.heap.size, 0, rfl, by simp, fun i e he => ?_⟩
    have hi : i < 1 := (List.getElem?_eq_some_iff.1 he).1
    obtain rfl : i = 0 := by omega
    obtain rfl : ev2 = e := by simpa using he
    refine ⟨.slice none 0 0, .slice none 0 0, .slice none 0 0, ⟨Den.nil _ _, Den.nil _ _, Den.nil _ _⟩, fun j v hv => ?_⟩
    rw [World.cell?_alloc_new, ← hv]
    simp
  refine (shapes_any (E := [ev2]) rfl hev (by decide)).mono fun e w' he => ?_
  rw [shp2] at he
  exact ⟨he.1, ((Below.refl _ _).alloc (Nat.le_refl _) _).trans (he.2.mono (by simp))⟩
theorem nil_shapes (w : World) : Calls Tryz.prog 7 #[.slice none 0 0] w fun e w' => e = .returned (.tuple #[.int .i64 0, .int .i64 0]) ∧ Below w.heap.size w w' := by
  have := shapes_any (w := w) (a := none) (n := 0) (cap := 0) (E := []) rfl (.inl rfl) (by omega)
  rw [shp0] at this
  exact this
theorem f6_any (w : World) {op : Int} {b : Bool} (h : fldI op rn1 = b) : Calls Tryz.prog 15 #[.int .i64 op, .agg (rn1.cells (.slice none 0 0) (.slice none 0 0)).toArray] w fun e w' => e = .returned (.bool b) ∧ Below w.heap.size w w' := by
  rw [← h]
  exact fields_any op (Den.nil _ _) (Den.nil _ _)
set_option maxRecDepth 100000 in
set_option maxHeartbeats 4000000 in
theorem known_any (w : World) : Calls Tryz.prog 8 #[] w fun e w' => e = .returned (.bool true) ∧ Below w.heap.size w w' := by
  go_enter Tryz.func8, Tryz.ntmps8
  go_wp2_with fail
  refine (ev_new (by rfl)).mono ?_
  rintro e w1 ⟨rfl, b1⟩
  have B1 := Lib.hid b1
  clear b1
  go_wp2_with fail
  refine (nil_shapes _).mono ?_
  rintro e w2 ⟨rfl, b2⟩
  have B2 := Lib.hid (B1.out.trans (b2.mono B1.out.size))
  clear b2
  go_wp2_with fail
  refine (f6_any (op := 1) _ fld1).mono ?_
  rintro e w3 ⟨rfl, b3⟩
  have B3 := Lib.hid (B2.out.trans (b3.mono B2.out.size))
  clear b3
  go_wp2_with fail
  refine (f6_any (op := 3) _ fld3).mono ?_
  rintro e w4 ⟨rfl, b4⟩
  have B4 := Lib.hid (B3.out.trans (b4.mono B3.out.size))
  clear b4
  go_wp2_with fail
  go_ret
  exact ⟨rfl, B4.out⟩
theorem flat_take (XS : List EX) (k : Nat) : (flat XS).take (k * 22) = flat (XS.take k) := by
  induction k generalizing XS with
  | zero => simp [flat]
  | succ k ih =>
    cases XS with
    | nil => simp [flat]
    | cons x l =>
      show (x.cells ++ flat l).take _ = x.cells ++ flat (l.take k)
      have hx : x.cells.length = 22 := rfl
      rw [List.take_append, hx, show (k + 1) * 22 - 22 = k * 22 by omega, ih, List.take_of_length_le (by omega)]
theorem flat_drop (XS : List EX) (k : Nat) : (flat XS).drop (k * 22) = flat (XS.drop k) := by
  induction k generalizing XS with
  | zero => simp
  | succ k ih =>
    cases XS with
    | nil => simp [flat]
    | cons x l =>
      show (x.cells ++ flat l).drop _ = flat (l.drop k)
      have hx : x.cells.length = 22 := rfl
      rw [List.drop_append, hx, show (k + 1) * 22 - 22 = k * 22 by omega, ih, List.drop_of_length_le (by omega)]
      rfl
theorem flat_one (XS : List EX) (h : ∀ X ∈ XS, ∀ u ∈ X.cells, u.oneCell' = true) : ∀ u ∈ flat XS, u.oneCell' = true := by
  intro u hu
  obtain ⟨c, hc, hu⟩ := List.mem_flatten.1 hu
  obtain ⟨X, hX, rfl⟩ := List.mem_map.1 hc
  exact h X hX u hu
theorem tri_one {w : World} {X : EX} (h : Tri w X.1.c X.1.r X.2.1 X.2.2.1 X.2.2.2) : ∀ u ∈ X.cells, u.oneCell' = true := by
  intro u hu
  have h1 := h.1.one
  have h2 := h.2.1.one
  have h3 := h.2.2.one
  simp only [EX.cells, Ev.cells, List.mem_cons, List.not_mem_nil, or_false] at hu
  rcases hu with rfl | rfl | rfl | rfl | rfl | rfl | rfl | rfl | rfl | rfl | rfl | rfl | rfl | rfl | rfl | rfl | rfl | rfl | rfl | rfl | rfl | rfl <;> first | rfl | assumption
/-- One event's Result told of. -/
theorem EvR.told {S : Nat → Prop} {w : World} {base f o n c j : Nat} {XS : List EX} {X : EX} (h : EvR S w base (.slice (some ⟨f, o, none⟩) n c) n XS) (hj : XS[j]? = some X) (k : Int) :
    Evs (w.setCell ⟨f, o + j * 22 + 11, none⟩ (.int .i64 k)) (some ⟨f, o, none⟩) ((XS.map (·.1)).set j ⟨X.1.k, X.1.t, X.1.c, { X.1.r with w := k }⟩) ∧ (w.cell? ⟨f, o + j * 22 + 11, none⟩ = some (.int .i64 X.1.r.w)) := by
  have hjn : j < n := by rw [← h.len]; exact (List.getElem?_eq_some_iff.1 hj).1
  obtain ⟨cur, hb⟩ := h.win.blk
  have h11 := row_cell h.win h.len hj (q := 11) (by omega)
  have hlt : o + j * 22 + 11 < cur.size := by
    have : w.cell? ⟨f, o + j * 22 + 11, none⟩ = some (.int .i64 X.1.r.w) := h11
    rw [hb.cell] at this
    exact (Array.getElem?_eq_some_iff.1 this).1
  refine ⟨.inr ⟨f, o, rfl, by simpa using hb.lt, fun i e he => ?_⟩, h11⟩
  have hfm : Frm [f] w (w.setCell ⟨f, o + j * 22 + 11, none⟩ (.int .i64 k)) := (Frm.refl _ _).setCell (by simp) _
  have tri : ∀ Y ∈ XS, Tri (w.setCell ⟨f, o + j * 22 + 11, none⟩ (.int .i64 k)) Y.1.c Y.1.r Y.2.1 Y.2.2.1 Y.2.2.2 := fun Y hY => (h.tri Y hY).frm hfm (fun g hg => by rw [List.mem_singleton.1 hg]; exact h.off Y hY f rfl)
  have far : ∀ q, q ≠ o + j * 22 + 11 → (w.setCell ⟨f, o + j * 22 + 11, none⟩ (.int .i64 k)).cell? ⟨f, q, none⟩ = w.cell? ⟨f, q, none⟩ := fun q hq => by
    rw [(hb.set _ _).cell, hb.cell, Array.getElem?_setIfInBounds_ne (by omega)]
  by_cases hij : i = j
  · subst hij
    rw [List.getElem?_set_self (by rw [List.length_map, h.len]; exact hjn)] at he
    cases he
    refine ⟨X.2.1, X.2.2.1, X.2.2.2, ?_, fun q u hu => ?_⟩
    · have := tri X (List.mem_of_getElem? hj)
      exact this
    · have hq : q < 22 := (List.getElem?_eq_some_iff.1 hu).1
      by_cases h1 : q = 11
      · subst h1
        rw [(hb.set _ _).cell, Array.getElem?_setIfInBounds_self_of_lt hlt, ← hu]
        rfl
      · rw [far _ (by omega), row_cell h.win h.len hj hq, ← hu]
        have e : (Ev.cells ⟨X.1.k, X.1.t, X.1.c, { X.1.r with w := k }⟩ X.2.1 X.2.2.1 X.2.2.2) = X.cells.set 11 (.int .i64 k) := rfl
        rw [e, List.getElem?_set_ne (by omega)]
  · rw [List.getElem?_set_ne (fun q => hij q.symm), List.getElem?_map] at he
    obtain ⟨Y, hY, rfl⟩ : ∃ Y, XS[i]? = some Y ∧ Y.1 = e := by
      rcases hx : XS[i]? with _ | Y
      · rw [hx] at he; cases he
      · rw [hx] at he; cases he; exact ⟨Y, rfl, rfl⟩
    refine ⟨Y.2.1, Y.2.2.1, Y.2.2.2, tri Y (List.mem_of_getElem? hY), fun q u hu => ?_⟩
    have hq : q < 22 := (List.getElem?_eq_some_iff.1 hu).1
    rw [far _ (by intro h; apply hij; omega), row_cell h.win h.len hY hq, ← hu]
    rfl
set_option maxRecDepth 100000 in
set_option maxHeartbeats 8000000 in
theorem audit_any {w : World} {la : Option Addr} {ln lc : Nat} {SL : List Stp} (hl : Stps w la SL) (hlen : SL.length = ln) (at_ : Int) (hat : R64 at_) (out : Bool) : Calls Tryz.prog 3 #[.slice la ln lc, .int .i64 at_, .bool out] w fun e w' => e = .returned (.bool true) ∧ Below w.heap.size w w' := by
  have HL := Lib.hid (And.intro hl (And.intro hlen hat))
  clear hl hlen hat
  have C7 : Hid (∀ X a n cap E, E.length = n → Evs X a E → n ≤ 1000 → Calls Tryz.prog 7 #[.slice a n cap] X fun e w' => e = .returned (.tuple #[.int .i64 (shp E).1, .int .i64 (shp E).2]) ∧ Below X.heap.size X w') := Lib.hid fun X a n cap E h1 h2 h3 => shapes_any h1 h2 h3
  have C8 := Lib.hid known_any
  go_enter Tryz.func3, Tryz.ntmps3
  go_upto_region 2 with (first | (go_at_call 5; (with_reducible refine (big_any _).mono ?_); rintro e w1 ⟨rfl, hb⟩; have H1 := Lib.hid hb; clear hb) | (go_at_call 6; (with_reducible refine (pair_any _).mono ?_); rintro e w2 ⟨ub, rfl, hb, _, hu⟩; have H2 := Lib.hid (H1.out.trans (hb.mono H1.out.size)); have HU := Lib.hid hu; clear hb hu) | (go_at_call 4; (with_reducible refine (events_any HU.out (HL.out.1.below H2.out) HL.out.2.1).mono ?_); rintro e w3 ⟨xa, n, xc, XS, L, rfl, hb, hr, hx, hok, h12⟩; have H3 := Lib.hid (H2.out.trans (hb.mono H2.out.size)); have HR := Lib.hid (hr.win.of_base' H2.out.size); have HX := Lib.hid (And.intro hr (And.intro hx (And.intro hok h12))); clear hb hr hx))
  have hn : n = 2 * L.length := by have := congrArg List.length HX.out.2.1; rw [List.length_map, HX.out.1.len, pairs_len] at this; exact this
  have HV := HX.out.1.evs
  rw [HX.out.2.1] at HV
  have C71 := C7.out w3 xa n xc (pairs L) (by rw [pairs_len, hn]) HV (by omega)
  rw [shp_serial hok] at C71
  dsimp only at C71
  have HVV := Lib.hid HV
  have HN0 := Lib.hid (And.intro hn h12)
  clear HV hn h12
  go_upto_region 5 with (first | (go_at_call 7; (with_reducible refine C71.mono ?_); rintro e w4 ⟨rfl, hb⟩; have H4 := Lib.hid (H3.out.trans (hb.mono H3.out.size)); have HB4 := Lib.hid hb; clear hb))
  obtain ⟨hn, h12⟩ := HN0.out
  obtain ⟨m, hm⟩ : ∃ m, L.length = m := ⟨_, rfl⟩
  have HLm := Lib.hid hm
  rw [hm] at hn h12
  have HN := Lib.hid (And.intro hn (And.intro h12 hok))
  clear hm hok C71
  by_cases h0 : m = 0
  · have k1 : (n : Int) < 2 := by omega
    clear hn h12
    go_wp2_with (first | (go_at_call 8; (with_reducible refine (C8.out _).mono ?_); rintro e w5 ⟨rfl, hb⟩; have H5 := Lib.hid (H4.out.trans (hb.mono H4.out.size)); clear hb))
    go_ret
    exact ⟨rfl, H5.out⟩
  have k1 : ¬ (n : Int) < 2 := by omega
  have W : ∀ x : Int, -4000 ≤ x → x ≤ 4000 → IntKind.i64.wrap x = x := fun x a b => by rw [IntWalk.i64_left]; exact IntWalk.wrap64_in _ ⟨by omega, by omega⟩
  have e0 : (n : Int).tdiv 2 = (m : Int) := by rw [hn, show ((2 * m : Nat) : Int) = (m : Int) * 2 by omega]; exact Int.mul_tdiv_cancel _ (by decide)
  have e1 := W (m : Int) (by omega) (by omega)
  have e2 := W ((m : Int) - 1) (by omega) (by omega)
  have HW := Lib.hid W
  have h0' := Lib.hid h0
  clear W hn h12 h0
  go_upto_region 8 with (first | (go_at_call 9; (with_reducible refine (within2_any at_ ((m : Int) - 1) (by have := h0'.out; omega) (by have := HN.out.2.1; omega) HL.out.2.2 _).mono ?_); rintro e wn ⟨kz, hp0, hp1, rfl, hw⟩; subst hw; obtain ⟨k, rfl⟩ : ∃ k : Nat, kz = k := ⟨kz.toNat, by omega⟩; obtain ⟨K, hK⟩ : ∃ K : Nat, K = 2 * k := ⟨_, rfl⟩; have e3 : IntKind.i64.wrap (2 * (k : Int)) = (K : Int) := (by rw [HW.out _ (by omega) (by have := HN.out.2.1; omega)]; omega); have HK : Hid (K = 2 * k ∧ k < m) := Lib.hid ⟨hK, by omega⟩; clear hp0 hp1 hK))
  have H6 := Lib.hid (HX.out.1.below HB4.out)
  obtain ⟨f, o, cap, hxe⟩ := H6.out.win.form (by have := h0'.out; have := HN.out.1; omega)
  cases hxe
  obtain ⟨X, hX⟩ : ∃ X, XS[K]? = some X := ⟨_, List.getElem?_eq_getElem (by have := HK.out; have := HN.out.1; have := H6.out.len; omega)⟩
  have HKL : Hid (k < L.length) := Lib.hid (by rw [HLm.out]; exact HK.out.2)
  have hX1 : X.1 = ⟨1, (L[k]'HKL.out).t, (L[k]'HKL.out).c, Res.zero⟩ := by
    have h1 := (pairs_at L k _ (List.getElem?_eq_getElem HKL.out)).1
    rw [← HX.out.2.1, List.getElem?_map, ← HK.out.1, hX] at h1
    simpa using h1
  have HXX := Lib.hid (And.intro hX hX1)
  clear hX hX1 e0 e1 e2
  have hcap := H6.out.win.room
  have HF := Lib.hid (H6.out.win.lt f rfl)
  have k2 : (0 : Int) ≤ (K : Int) := by omega
  have k3 : (K : Int) < (n : Int) := by have := HK.out; have := HN.out.1; omega
  have k4 : (K : Int) ≤ (xc : Int) := by omega
  have k5 : (n : Int) ≤ (xc : Int) := by omega
  cases out
  case false =>
    obtain ⟨hev, hc⟩ := H6.out.told HXX.out.1 35
    have HEV := Lib.hid hev
    have hfz : w4.frozen? ⟨f, o + K * 22 + 11, none⟩ = false := H6.out.win.free _
    clear hev
    go_upto_region 13 with fail
    clear hc hfz
    have H7 := Lib.hid (H4.out.setCell (p := ⟨f, o + K * 22 + 11, none⟩) (show w.heap.size ≤ f from Nat.le_trans H2.out.size HF.out.1) (.int .i64 35))
    generalize w4.setCell ⟨f, o + K * 22 + 11, none⟩ (.int .i64 35) = w5 at HEV H7 ⊢
    have C72 := C7.out w5 _ n xc _ (by rw [List.length_set, List.length_map]; exact H6.out.len) HEV.out (by have := HN.out; omega)
    rw [shp_told HN.out.2.2 HKL.out (r := { X.1.r with w := 35 }) (by rw [List.length_set, HX.out.2.1]) (fun i hi => by rw [List.getElem?_set_ne (by have := HK.out.1; omega), HX.out.2.1]) (by rw [← HK.out.1, List.getElem?_set_self (by rw [List.length_map, H6.out.len]; omega), HXX.out.2]) (show (35 : Int) ≠ 0 by decide)] at C72
    rw [← HK.out.1] at C72
    dsimp only at C72
    go_wp2_with (first | (go_at_call 7; (with_reducible refine C72.mono ?_); rintro e w6 ⟨rfl, hb⟩; have H8 := Lib.hid (H7.out.trans (hb.mono H7.out.size)); clear hb) | (go_at_call 8; (with_reducible refine (C8.out _).mono ?_); rintro e w7 ⟨rfl, hb⟩; have H9 := Lib.hid (H8.out.trans (hb.mono H8.out.size)); clear hb))
    go_ret
    exact ⟨rfl, H9.out⟩
  case true =>
    obtain ⟨i44, h441, h442, h443, h444⟩ := info_parts info44
    have e4 : IntKind.i64.wrap ((K : Int) + 1) = ((K + 1 : Nat) : Int) := by rw [HW.out _ (by omega) (by have := HN.out; omega)]; omega
    have k7 : ((K + 1 : Nat) : Int) ≤ (n : Int) := by omega
    have k8 : (0 : Int) ≤ ((K + 1 : Nat) : Int) := by omega
    have k9 : ((K + 1 : Nat) : Int) ≤ (xc : Int) := by omega
    have HONE := Lib.hid (fun X (hX : X ∈ XS) => tri_one (H6.out.tri X hX))
    have HK1 : Hid (K + 1 ≤ n) := Lib.hid (by omega)
    generalize hK1 : K + 1 = K1 at e4 k7 k8 k9 HK1
    have HKK := Lib.hid hK1
    have k10 : ¬ xc = K1 := by have := HN.out.1; have := HK.out; omega
    clear hK1
    go_upto_region 9 with fail
    have H6d := Lib.hid (H6.out.below (Below.refl _ _).drew)
    have H4d := Lib.hid H4.out.drew
    refine hand_start (S := fun _ => True) 11 (by kernel_rfl) (by rfl) trivial (fun hHeld => ?_)
    generalize w4.drew = wx at H6d H4d ⊢
    (refine take_on 1 (v := ?_) rfl (by kernel_rfl) (by decide +kernel) (by decide +kernel) (by rfl) (by assumption) (fun _ _ _ h => h) ?_ ?_; rotate_left; (focus (intro w hSw; (try dsimp only at hSw); go_simp; try with_reducible rfl)); (try simp only [Act.put, List.setIfInBounds_toArray, List.set_cons_zero, List.set_cons_succ]))
    (refine take_on 2 (v := ?_) rfl (by kernel_rfl) (by decide +kernel) (by decide +kernel) (by rfl) (by assumption) (fun _ _ _ h => h) ?_ ?_; rotate_left; (focus (intro w hSw; (try dsimp only at hSw); go_simp; try with_reducible rfl)); (try simp only [Act.put, List.setIfInBounds_toArray, List.set_cons_zero, List.set_cons_succ]))
    (refine take_on 3 (v := ?_) rfl (by kernel_rfl) (by decide +kernel) (by decide +kernel) (by rfl) (by assumption) (fun _ _ _ h => h) ?_ ?_; rotate_left; (focus (intro w hSw; (try dsimp only at hSw); go_simp; try with_reducible rfl)); (try simp only [Act.put, List.setIfInBounds_toArray, List.set_cons_zero, List.set_cons_succ]))
    (refine take_on 5 (v := ?_) rfl (by kernel_rfl) (by decide +kernel) (by decide +kernel) (by rfl) (by assumption) (fun _ _ _ h => h) ?_ ?_; rotate_left; (focus (intro w hSw; (try dsimp only at hSw); go_simp; try with_reducible rfl)); (try simp only [Act.put, List.setIfInBounds_toArray, List.set_cons_zero, List.set_cons_succ]))
    (refine take_on 6 (v := ?_) rfl (by kernel_rfl) (by decide +kernel) (by decide +kernel) (by rfl) (by assumption) (fun _ _ _ h => h) ?_ ?_; rotate_left; (focus (intro w hSw; (try dsimp only at hSw); go_simp; try with_reducible rfl)); (try simp only [Act.put, List.setIfInBounds_toArray, List.set_cons_zero, List.set_cons_succ]))
    (refine take_on 7 (v := ?_) rfl (by kernel_rfl) (by decide +kernel) (by decide +kernel) (by rfl) (by assumption) (fun _ _ _ h => h) ?_ ?_; rotate_left; (focus (intro w hSw; (try dsimp only at hSw); go_simp; try with_reducible rfl)); (try simp only [Act.put, List.setIfInBounds_toArray, List.set_cons_zero, List.set_cons_succ]))
    (refine take_on 8 (v := ?_) rfl (by kernel_rfl) (by decide +kernel) (by decide +kernel) (by rfl) (by assumption) (fun _ _ _ h => h) ?_ ?_; rotate_left; (focus (intro w hSw; (try dsimp only at hSw); go_simp; try with_reducible rfl)); (try simp only [Act.put, List.setIfInBounds_toArray, List.set_cons_zero, List.set_cons_succ]))
    have HWx := Lib.hid (H6d.out.win.of_base (Nat.zero_le _))
    have HE0 := Lib.hid (Win.empty wx 44 22)
    have HB0 : Hid (Below wx.heap.size wx (wx.alloc (.cells #[] 44))) := Lib.hid ((Below.refl _ _).alloc (Nat.le_refl _) _)
    refine wpAnyH_ready (rs := [0]) (by decide +kernel) (by simp) ?_
    refine step_on 0 rfl (by rfl) (fun KK hK => ?_) AllReadyH.nil
    go_simp
    refine hK.out _ _ trivial (fun hHeld => ?_)
    clear hK KK
    (try simp only [List.setIfInBounds_toArray])
    generalize wx.alloc (.cells #[] 44) = wy at HE0 HB0 ⊢
    have hBx : wx.heap.size ≤ wx.heap.size := Nat.le_refl _
    obtain ⟨B0, hB0⟩ : ∃ B, wx.heap.size = B := ⟨_, rfl⟩
    rw [hB0] at HE0 HB0 ⊢
    have HB00 := Lib.hid hB0
    clear hB0 hBx
    have hn24 : n ≤ 24 ∧ K ≤ n ∧ K1 ≤ n := by have := HN.out; have := HK1.out; omega
    have HN24 := Lib.hid hn24
    obtain ⟨f1, o1, c1, w5, r1, r2, r3, r4⟩ := run_append_fresh (P := Tryz.prog) wy B0 23 23 44 i44 _ 22 240 Tryz.underlying23 h441 h442 h443 h444 rfl (by decide) (by decide) B0 0 0 0 [] HE0.out (some ⟨f, o, none⟩) K xc (flat (XS.take K)) (by rw [flat_len, List.length_take, H6.out.len]; have := HN24.out; omega) (by rw [← flat_take]; exact (HWx.out.below (by rw [HB00.out]; exact HB0.out)).src HN24.out.2.1 (fun h => by cases h)) (flat_one _ (fun X hX => HONE.out X (List.mem_of_mem_take hX))) (by unfold maxLen; omega) (by omega) (by rw [← HB00.out]; exact HB0.out.size)
    refine wpAnyH_ready (rs := [4]) (by decide +kernel) (by simp) ?_
    refine step_on 4 rfl (by rfl) (fun KK hK => ?_) AllReadyH.nil
    refine wp_append_run (.tmp 43) (.tmp 46) 23 rfl r1 ?_
    refine hK.out _ _ trivial (fun hHeld => ?_)
    clear hK KK
    (try simp only [Act.put, List.setIfInBounds_toArray, List.set_cons_zero, List.set_cons_succ])
    have HB5 : Hid (Below wx.heap.size wx w5) := Lib.hid (by rw [HB00.out]; exact HB0.out.trans r3)
    have HE5 := Lib.hid r2
    have hsrc : ∀ j u, (flat (XS.drop K1))[j]? = some u → w5.cell? ((⟨f, o + K1 * 22, none⟩ : Addr).add j) = some u := fun j u hu => by
      rw [← flat_drop, List.getElem?_drop] at hu
      have hj : K1 * 22 + j < n * 22 := by
        have := (List.getElem?_eq_some_iff.1 hu).1
        rwa [flat_len, H6.out.len] at this
      rw [Addr.add_mid, Nat.add_assoc, (HWx.out.below HB5.out).cells _ hj, hu]
    obtain ⟨f2, o2, c2, w6, s1, s2, s3, s4⟩ := run_append_fresh (P := Tryz.prog) w5 B0 23 23 44 i44 _ 22 240 Tryz.underlying23 h441 h442 h443 h444 rfl (by decide) (by decide) f1 o1 c1 (0 + K) _ r2 (some ⟨f, o + K1 * 22, none⟩) (n - K1) (xc - K1) (flat (XS.drop K1)) (by rw [flat_len, List.length_drop, H6.out.len]) (.inl ⟨_, rfl, hsrc⟩) (flat_one _ (fun X hX => HONE.out X (List.mem_of_mem_drop hX))) (by unfold maxLen; omega) (by omega) (by rw [← HB00.out]; exact HB5.out.size)
    clear r1 r2 r3 r4 hsrc
    refine wpAnyH_ready (rs := [9]) (by decide +kernel) (by simp) ?_
    refine step_on 9 rfl (by rfl) (fun KK hK => ?_) AllReadyH.nil
    refine wp_append_run (.tmp 47) (.tmp 51) 23 rfl s1 ?_
    refine hK.out _ _ trivial (fun hHeld => ?_)
    clear hK KK
    (try simp only [Act.put, List.setIfInBounds_toArray, List.set_cons_zero, List.set_cons_succ])
    have HB6 : Hid (Below wx.heap.size wx w6) := Lib.hid (HB5.out.trans (by rw [HB00.out]; exact s3))
    have H7 := Lib.hid (H4d.out.trans (HB6.out.mono H4d.out.size))
    have H66 := Lib.hid (H6d.out.below HB6.out)
    have HV2 : Hid (Evs w6 (some ⟨f2, o2, none⟩) ((pairs L).take (2 * k) ++ (pairs L).drop (2 * k + 1)) ∧ ((pairs L).take (2 * k) ++ (pairs L).drop (2 * k + 1)).length = 0 + K + (n - K1)) := Lib.hid (by
      have e := evs_of (n := 0 + K + (n - K1)) (XS := XS.take K ++ XS.drop K1) (by rw [List.length_append, List.length_take, List.length_drop, H6.out.len]; have := HN24.out; omega) (by rw [flat_app]; exact s2) (fun Y hY => H66.out.tri Y ((List.mem_append.1 hY).elim List.mem_of_mem_take List.mem_of_mem_drop))
      rw [List.map_append, List.map_take, List.map_drop, HX.out.2.1, ← HKK.out, HK.out.1] at e
      refine ⟨e, ?_⟩
      have hpl : (pairs L).length = n := by rw [← HX.out.2.1, List.length_map, H6.out.len]
      rw [List.length_append, List.length_take, List.length_drop, hpl, ← HKK.out, ← HK.out.1]
      have := HN24.out
      omega)
    have C73 := C7.out w6 _ (0 + K + (n - K1)) c2 _ HV2.out.2 HV2.out.1 (by omega)
    rw [shp_out HN.out.2.2 HKL.out] at C73
    rw [← HK.out.1] at C73
    dsimp only at C73
    clear s1 s2 s3 s4
    generalize 0 + K + (n - K1) = N2 at C73 ⊢
    (refine take_on 10 (v := ?_) rfl (by kernel_rfl) (by decide +kernel) (by decide +kernel) (by rfl) (by assumption) (fun _ _ _ h => h) ?_ ?_; rotate_left; (focus (intro w hSw; (try dsimp only at hSw); go_simp; try with_reducible rfl)); (try simp only [Act.put, List.setIfInBounds_toArray, List.set_cons_zero, List.set_cons_succ]))
    refine wpAnyH_done (by kernel_rfl) ?_ _
    go_wp2_with (first | (go_at_call 7; (with_reducible refine C73.mono ?_); rintro e w7 ⟨rfl, hb⟩; have H8 := Lib.hid (H7.out.trans (hb.mono H7.out.size)); clear hb) | (go_at_call 8; (with_reducible refine (C8.out _).mono ?_); rintro e w8 ⟨rfl, hb⟩; have H9 := Lib.hid (H8.out.trans (hb.mono H8.out.size)); clear hb))
    go_ret
    exact ⟨rfl, H9.out⟩
end Go.Proofs.YtfjghemojnhmbaaGreat
