/- The walk of AuditShapes. -/
import Derived.Test.YtjefjonogbkknaaShapes
import Derived.Test.YtjefjonogbkknaaRShapes
namespace Go.Proofs.Ytjefjonogbkknaa
open Go.RowKit

def ev2 : Ev := ⟨2, 0, Cal.zero, Res.zero⟩
def rn1 : Res := ⟨0, 1, 0, 0, 0, 0, 0, 0, 0, [], []⟩
theorem shp2 : shp [ev2] = (1, 0) := by rfl
theorem shp0 : shp [] = (0, 0) := by rfl
theorem fld1 : fldI 1 rn1 = false := by rfl
theorem fld3 : fldI 3 rn1 = true := by rfl
theorem ev_new {w : World} {L : Array Value} (hL : L = (ev2.cells (.slice none 0 0) (.slice none 0 0) (.slice none 0 0)).toArray) :
    Calls Try.prog 4 #[.slice (some ⟨w.heap.size, 0, none⟩) 1 1] (w.alloc (.cells L 42)) fun e w' => e = .returned (.tuple #[.int .i64 1, .int .i64 0]) ∧ Below w.heap.size w w' := by
  subst hL
  have hev : Evs (w.alloc (.cells (ev2.cells (.slice none 0 0) (.slice none 0 0) (.slice none 0 0)).toArray 42)) (some ⟨w.heap.size, 0, none⟩) [ev2] := by
    refine .inr ⟨w.heap.size, 0, rfl, by simp, fun i e he => ?_⟩
    have hi : i < 1 := (List.getElem?_eq_some_iff.1 he).1
    obtain rfl : i = 0 := by omega
    obtain rfl : ev2 = e := by simpa using he
    refine ⟨.slice none 0 0, .slice none 0 0, .slice none 0 0, ⟨Den.nil _ _, Den.nil _ _, Den.nil _ _⟩, fun j v hv => ?_⟩
    rw [World.cell?_alloc_new, ← hv]
    simp
  refine (shapes_any (E := [ev2]) rfl hev (by decide)).mono fun e w' he => ?_
  rw [shp2] at he
  exact ⟨he.1, ((Below.refl _ _).alloc (Nat.le_refl _) _).trans (he.2.mono (by simp))⟩
theorem nil_shapes (w : World) : Calls Try.prog 4 #[.slice none 0 0] w fun e w' => e = .returned (.tuple #[.int .i64 0, .int .i64 0]) ∧ Below w.heap.size w w' := by
  have := shapes_any (w := w) (a := none) (n := 0) (cap := 0) (E := []) rfl (.inl rfl) (by omega)
  rw [shp0] at this
  exact this
theorem f6_any (w : World) {op : Int} {b : Bool} (h : fldI op rn1 = b) : Calls Try.prog 6 #[.int .i64 op, .agg (rn1.cells (.slice none 0 0) (.slice none 0 0)).toArray] w fun e w' => e = .returned (.bool b) ∧ Below w.heap.size w w' := by
  rw [← h]
  exact fields_any op (Den.nil _ _) (Den.nil _ _)

set_option maxRecDepth 100000 in
set_option maxHeartbeats 4000000 in
theorem known_any (w : World) : Calls Try.prog 8 #[] w fun e w' => e = .returned (.bool true) ∧ Below w.heap.size w w' := by
  go_enter Try.func8, Try.ntmps8
  go_wp2_with fail
  refine (ev_new (by rfl)).mono ?_
  rintro e w1 ⟨rfl, b1⟩
  have B1 := Lib.hid b1
  clear b1
  go_wp2_with fail
  refine (nil_shapes _).mono ?_
  rintro e w2 ⟨rfl, b2⟩
  have B2 := Lib.hid (B1.out.trans (b2.mono B1.out.size))
  clear b2
  go_wp2_with fail
  refine (f6_any (op := 1) _ fld1).mono ?_
  rintro e w3 ⟨rfl, b3⟩
  have B3 := Lib.hid (B2.out.trans (b3.mono B2.out.size))
  clear b3
  go_wp2_with fail
  refine (f6_any (op := 3) _ fld3).mono ?_
  rintro e w4 ⟨rfl, b4⟩
  have B4 := Lib.hid (B3.out.trans (b4.mono B3.out.size))
  clear b4
  go_wp2_with fail
  go_ret
  exact ⟨rfl, B4.out⟩

set_option maxRecDepth 100000 in
set_option maxHeartbeats 16000000 in
theorem audit_any {w : World} {a : Option Addr} {n cap : Nat} {E0 : List Ev} {op : Int} {r : Res} {y z : Value} (hE0 : E0.length = n) (hr0 : Evs w a E0) (hcap : n ≤ cap) (hc : cap ≤ 9223372036854775807)
    (hy : Den 1 w y (byts r.ds)) (hz : Den 16 w z (strs r.ss)) :
    Calls Try.prog 3 #[.slice a n cap, .int .i64 op, .agg (r.cells y z).toArray] w fun e w' => e = .returned (.bool true) ∧ Below w.heap.size w w' := by
  obtain ⟨A, hA⟩ : ∃ A : Array Value, A = (r.cells y z).toArray := ⟨_, rfl⟩
  rw [← hA]
  have H1 : Hid (Holds (w.alloc (.cells A 29)) w.heap.size (r.cells y z).toArray) := Lib.hid (by rw [← hA]; exact Holds.new _ _ _)
  have HW : Hid (Below w.heap.size w (w.alloc (.cells A 29))) := Lib.hid ((Below.refl w.heap.size w).alloc (Nat.le_refl _) _)
  have DY := Lib.hid (hy.below HW.out)
  have DZ := Lib.hid (hz.below HW.out)
  have HEV0 := Lib.hid (hr0.below HW.out)
  clear hA hy hz hr0
  go_enter Try.func3, Try.ntmps3
  go_upto_if 13 with fail
  generalize hW : w.alloc (.cells A 29) = W at *
  clear hW
  go_cut [0] (fun v wx => ∃ m, v = .slice a m cap ∧ m ≤ 40 ∧ m ≤ cap ∧ m = (E0.take 40).length ∧ wx = W)
  case first =>
    by_cases h : 40 < n
    · have d : decide ((n : Int) > 40) = true := decide_eq_true (by omega)
      have d' : decide (40 < (n : Int)) = true := decide_eq_true (by omega)
      have g1 : (40 : Int) ≤ (cap : Int) := by omega
      go_wp2_with fail
      go_meet
      exact ⟨40, rfl, by omega, by omega, by simp; omega, rfl⟩
    · have d : decide ((n : Int) > 40) = false := decide_eq_false (by omega)
      have d' : decide (40 < (n : Int)) = false := decide_eq_false (by omega)
      go_wp2_with fail
      go_meet
      exact ⟨n, rfl, by omega, by omega, by simp; omega, rfl⟩
  case rest =>
    obtain ⟨m, rfl, hm40, hmc, hm, rfl⟩ := hcut
    obtain ⟨E, hEq⟩ : ∃ E, E = E0.take 40 := ⟨_, rfl⟩
    have HEV : Hid (Evs wc a E) := Lib.hid (by rw [hEq]; exact HEV0.out.take 40)
    have HEL : Hid (E.length = m) := Lib.hid (by rw [hEq]; exact hm.symm)
    clear hEq hm hE0 hcap hc HEV0
    have hm1000 : m ≤ 1000 := by omega
    go_wp2_with fail
    refine (shapes_any HEL.out HEV.out hm1000).mono ?_
    rintro e w1 ⟨rfl, b1⟩
    have HB1 := Lib.hid b1
    have HE1 := Lib.hid (HEV.out.below b1)
    clear b1
    go_wp2_with fail
    refine (rshapes_any HEL.out HE1.out hm1000 hmc).mono ?_
    rintro e w2 ⟨rfl, b2⟩
    have HB2 := Lib.hid (HB1.out.trans (b2.mono HB1.out.size))
    clear b2
    obtain ⟨P, hP⟩ : ∃ P, (shp E).1 = P := ⟨_, rfl⟩
    obtain ⟨Q, hQ⟩ : ∃ Q, (shp E).2 = Q := ⟨_, rfl⟩
    rw [hP, hQ]
    clear hP hQ
    have RR := Lib.hid (H1.out.below HB2.out).range
    have FF := (H1.out.below HB2.out).lt
    obtain ⟨V, hV⟩ : ∃ V, V = fldI op r := ⟨_, rfl⟩
    have HX6 : Hid (∀ X, Below w2.heap.size w2 X → Calls Try.prog 6 #[.int .i64 op, .agg (r.cells y z).toArray] X fun e' w' => e' = .returned (.bool V) ∧ Below X.heap.size X w') := Lib.hid (fun X hX => by
      rw [hV]
      have hb := HB2.out.trans (hX.mono HB2.out.size)
      exact fields_any op (DY.out.below hb) (DZ.out.below hb))
    have HX7 : Hid (∀ X, Below w2.heap.size w2 X → Calls Try.prog 7 #[.int .i64 op, .agg (r.cells y z).toArray] X fun e' w' => e' = .returned (.bool V) ∧ Below X.heap.size X w') := Lib.hid (fun X hX => by
      rw [hV]
      have hb := HB2.out.trans (hX.mono HB2.out.size)
      exact ref_any op (DY.out.below hb) (DZ.out.below hb))
    clear hV
    go_upto_region 5 with fail
    try simp only [List.append_eq, List.cons_append, List.nil_append]
    refine wp_region_graft (by kernel_rfl) (by kernel_rfl) ?_
    repeat (first | (go_big_quiet_want; refine quiet_load_mid 29 (.tmp 5) rfl w.heap.size 0 rfl (r.cells y z) _ Try.underlying29 rfl size33 RR.out FF ?_; simp only [Act.put, List.setIfInBounds_toArray, List.set_cons_zero, List.set_cons_succ]; go_big_quiet_on) | go_big_quiet_step ((first | (go_at_call 6; with_reducible exact calls_graft (HX6.out _ (graft_below _ _))) | (go_at_call 7; with_reducible exact calls_graft (HX7.out _ (graft_below _ _))) | (go_at_call 8; with_reducible exact calls_graft (known_any _)))))
    refine wpQuiet_nil ?_
    intro w3 b3
    have HB3 := Lib.hid (HB2.out.trans (b3.mono HB2.out.size))
    go_wp2_with fail
    go_ret
    exact ⟨rfl, HW.out.trans (HB3.out.mono HW.out.size)⟩
end Go.Proofs.Ytjefjonogbkknaa
