/- Chapter 2's runs that every statement asks again. -/
import Derived.Test.YtmhmgenchpemkaaHoldLaw
namespace Go.Proofs.Ytmhmgenchpemkaa
open Go.RowKit

theorem Below.of_frm {w a b : World} {l : List Nat} (h : Below w.heap.size w a) (hf : Frm l a b) (hl : ∀ k ∈ l, w.heap.size ≤ k) : Below w.heap.size w b :=
  h.trans (hf.below h.size hl)
theorem new_int (n : Int) (w : World) (h1 : 1 ≤ n) (h2 : n ≤ 64) :
    Calls Try.prog 10 #[.int .i64 n] w fun e w' => e = .returned (.tuple #[.pointer (some ⟨w.heap.size + 1, 0, none⟩), .int .i64 0]) ∧ IsMem w' (w.heap.size + 1) w.heap.size (MS.new n.toNat) ∧ Below w.heap.size w w' := by
  obtain ⟨k, rfl⟩ := Int.eq_ofNat_of_zero_le (show 0 ≤ n by omega)
  rw [Int.toNat_natCast]
  exact new_yes k w (by omega) (by omega)

theorem jobs_at : ∀ (L : List Jb) (i : Nat) (x : Jb), L[i]? = some x → ∀ j v, x.cells[j]? = some v → (L.flatMap Jb.cells)[i * 5 + j]? = some v
  | [], i, x, h, _, _, _ => by simp at h
  | y :: L, 0, x, h, j, v, hv => by
    simp at h; subst h
    have hj : j < y.cells.length := (List.getElem?_eq_some_iff.1 hv).1
    rw [List.flatMap_cons, Nat.zero_mul, Nat.zero_add, List.getElem?_append_left hj]; exact hv
  | y :: L, i + 1, x, h, j, v, hv => by
    have := jobs_at L i x (by simpa using h) j v hv
    have e : y.cells.length = 5 := rfl
    rw [List.flatMap_cons, List.getElem?_append_right (by rw [e]; omega), e, show (i + 1) * 5 + j - 5 = i * 5 + j from by omega]
    exact this
theorem jobs_new (w : World) (js : List Jb) (ty : TypeId) (cap : Nat) : JobsAt (w.alloc (.cells (js.flatMap Jb.cells).toArray ty)) (.slice (some ⟨w.heap.size, 0, none⟩) js.length cap) js := by
  refine .inr ⟨w.heap.size, 0, cap, rfl, by simp, fun i j hj k v hv => ?_⟩
  rw [Nat.zero_add, World.cell?_alloc_new]
  simpa using jobs_at js i j hj k v hv
theorem state_done {x : Mch} (h : x.done = true) : x.state = .agg #[.bool true, .int .i64 x.sa, .int .i64 x.sb, .int .i64 x.tries] := by rw [Mch.state, h]
theorem state_not {x : Mch} (h : x.done = false) : x.state = .agg #[.bool false, .int .i64 x.sa, .int .i64 x.sb, .int .i64 x.tries] := by rw [Mch.state, h]

def kj : Jb := ⟨1, 0, 0, 0, 0⟩
def kx1 : Mch := (stepM (MS.new 4) kj.mch 0).1
def ks1 : MS := (stepM (MS.new 4) kj.mch 0).2
def kx2 : Mch := (stepM ks1 kx1 0).1
def ks2 : MS := (stepM ks1 kx1 0).2
theorem known_vals : kx1.done = false ∧ kx2.done = true ∧ ([kj].any fun j => !j.ok (MS.new 4).ws.length) = false := by decide +kernel
theorem Sys.kept {w w' : World} {r b c f o cap : Nat} {v : Value} {L : List Mch} {s : MS} {W : World} (h : Sys w r b c f o cap v L s) (hB : Below W.heap.size W w) (hb : W.heap.size ≤ b) (hc : W.heap.size ≤ c) (hf : W.heap.size ≤ f) (hF : Frm [f, b, c] w w') : Below W.heap.size W w' :=
  Below.of_frm hB hF (by simp; omega)

set_option maxRecDepth 100000 in
set_option maxHeartbeats 4000000 in
theorem known_any (w : World) : Calls Try.prog 16 #[] w fun e w' => e = .returned (.bool true) ∧ Below w.heap.size w w' := by
  obtain ⟨v1, v2, v3⟩ := known_vals
  go_enter Try.func16, Try.ntmps16
  go_upto_region 2 with (first | (go_at_call 10; refine (new_int 4 w (by omega) (by omega)).mono ?_; rintro e w1 ⟨rfl, m1, B1⟩))
  have M1 : Hid (IsMem w1 (w.heap.size + 1) w.heap.size (MS.new 4)) := Lib.hid m1
  have HB1 := Lib.hid B1
  obtain ⟨b, hb⟩ : ∃ b, w.heap.size + 1 = b := ⟨_, rfl⟩
  obtain ⟨c, hc⟩ : ∃ c, w.heap.size = c := ⟨_, rfl⟩
  rw [hb, hc] at M1
  rw [hb]
  have hbc : c ≤ b := by omega
  have HC := Lib.hid hc
  clear m1 B1 hb hc
  have X : Hid (Calls Try.prog 11 #[.pointer (some ⟨b, 0, none⟩), .slice (some ⟨w1.heap.size, 0, none⟩) 1 1] (w1.alloc (.cells #[.int .i64 1, .int .i64 0, .int .i64 0, .int .i64 0, .int .i64 0] 29)) fun e w' => ∃ r f o cap v', e = .returned (.tuple #[.pointer (some ⟨r, 0, none⟩), .int .i64 0]) ∧ Sys w' r b c f o cap v' [kj.mch] (MS.new 4) ∧ w1.heap.size ≤ r ∧ w1.heap.size ≤ f ∧ Below w1.heap.size w1 w') := Lib.hid (by
    refine (run_yes (js := [kj]) (s := MS.new 4) (M1.out.frm (l := []) (.of_below ((Below.refl _ _).alloc (Nat.le_refl _) _)) (by simp) (by simp)) (jobs_new w1 [kj] 29 1) (by decide) v3).mono ?_
    rintro e w2 ⟨r, f, o, cap, v', rfl, h1, h2, h3, h4⟩
    rw [World.size_alloc] at h2 h3
    exact ⟨r, f, o, cap, v', rfl, h1, by omega, by omega, ((Below.refl _ _).alloc (Nat.le_refl _) _).trans (h4.mono (by simp))⟩)
  go_upto_region 5 with (first | (go_at_call 11; refine X.out.mono ?_; rintro e w2 ⟨r, f, o, cap, v', rfl, y1, y2, y3, y4⟩; have Y1 := Lib.hid y1; have Y4 := Lib.hid (HB1.out.trans (y4.mono HB1.out.size)); have hf : Hid (w.heap.size ≤ f) := Lib.hid (by have := HB1.out.size; omega); clear y1 y2 y3 y4))
  clear X M1 HB1
  go_upto_region 6 with (first | (go_at_call 14; refine (step_yes (i := 0) Y1.out rfl rfl).mono ?_; rintro e w3 ⟨rfl, z1, z2⟩; have Z1 : Hid (Sys w3 r b c f o cap v' [kx1] ks1) := Lib.hid z1; have Z2 := Lib.hid (Y1.out.kept Y4.out (by have := HC.out; omega) (by have := HC.out; omega) hf.out z2); rw [show (stepM (MS.new 4) kj.mch 0).1.state = _ from state_not (x := kx1) v1]; clear z1 z2))
  obtain ⟨w4, hw4⟩ : ∃ w4, w3.alloc (.cells #[.bool false, .int .i64 kx1.sa, .int .i64 kx1.sb, .int .i64 kx1.tries] 38) = w4 := ⟨_, rfl⟩
  rw [hw4]
  have b4 : Below w3.heap.size w3 w4 := by rw [← hw4]; exact (Below.refl _ _).alloc (Nat.le_refl _) _
  have HS1 : Hid (Holds w4 w3.heap.size #[.bool false, .int .i64 kx1.sa, .int .i64 kx1.sb, .int .i64 kx1.tries]) := Lib.hid (by rw [← hw4]; exact Holds.new _ _ _)
  have Z4 := Lib.hid (Z1.out.below b4)
  have B4 := Lib.hid (Z2.out.trans (b4.mono Z2.out.size))
  have NS1 : Hid (w3.heap.size ∉ [f, b, c]) := Lib.hid (by
    have h1 := Z1.out.hm.hb.lt
    have h2 := Z1.out.hm.hc.lt
    have h3 := (Z1.out.rows (by decide)).2.1
    simp; omega)
  obtain ⟨S1, hS1⟩ : ∃ S1, w3.heap.size = S1 := ⟨_, rfl⟩
  rw [hS1] at HS1 NS1 ⊢
  clear hS1 b4 hw4 Z1 Z2 Y1 Y4
  go_upto_region 7 with (first | (go_at_call 14; refine (step_yes (i := 0) Z4.out rfl v1).mono ?_; rintro e w5 ⟨rfl, z1, z2⟩; have Z1 : Hid (Sys w5 r b c f o cap v' [kx2] ks2) := Lib.hid z1; have Z2 := Lib.hid (Z4.out.kept B4.out (by have := HC.out; omega) (by have := HC.out; omega) hf.out z2); have HT1 := Lib.hid (HS1.out.frm z2 NS1.out); rw [show (stepM ks1 kx1 0).1.state = _ from state_done (x := kx2) v2]; clear z1 z2))
  obtain ⟨w6, hw6⟩ : ∃ w6, w5.alloc (.cells #[.bool true, .int .i64 kx2.sa, .int .i64 kx2.sb, .int .i64 kx2.tries] 38) = w6 := ⟨_, rfl⟩
  rw [hw6]
  have b6 : Below w5.heap.size w5 w6 := by rw [← hw6]; exact (Below.refl _ _).alloc (Nat.le_refl _) _
  have HS2 : Hid (Holds w6 w5.heap.size #[.bool true, .int .i64 kx2.sa, .int .i64 kx2.sb, .int .i64 kx2.tries]) := Lib.hid (by rw [← hw6]; exact Holds.new _ _ _)
  have Z6 := Lib.hid (Z1.out.below b6)
  have B6 := Lib.hid (Z2.out.trans (b6.mono Z2.out.size))
  have HT2 := Lib.hid (HT1.out.below b6)
  obtain ⟨S2, hS2⟩ : ∃ S2, w5.heap.size = S2 := ⟨_, rfl⟩
  rw [hS2] at HS2 ⊢
  clear hS2 b6 hw6 Z1 Z2 HS1 HT1 Z4 B4 NS1
  go_upto_region 8 with (first | (go_at_call 14; refine (step_past (i := 0) Z6.out rfl v2).mono ?_; rintro e w7 ⟨rfl, b7⟩; have HB7 := Lib.hid (B6.out.trans (b7.mono B6.out.size)); have HS27 := Lib.hid (HS2.out.below b7); have HT27 := Lib.hid (HT2.out.below b7); simp only [zstate]; clear b7))
  obtain ⟨w8, hw8⟩ : ∃ w8, w7.alloc (.cells #[.bool false, .int .i64 0, .int .i64 0, .int .i64 0] 38) = w8 := ⟨_, rfl⟩
  rw [hw8]
  have b8 : Below w7.heap.size w7 w8 := by rw [← hw8]; exact (Below.refl _ _).alloc (Nat.le_refl _) _
  have c1 : w8.cell? ⟨S1, 0, none⟩ = some (.bool false) := (HT27.out.below b8).cell 0
  have c2 : w8.cell? ⟨S2, 0, none⟩ = some (.bool true) := (HS27.out.below b8).cell 0
  have HB8 := Lib.hid (HB7.out.trans (b8.mono HB7.out.size))
  clear hw8 b8 HB7 HT27 HS27 HT2 HS2 Z6 B6
  go_wp2_with fail
  go_ret
  exact ⟨rfl, HB8.out⟩
end Go.Proofs.Ytmhmgenchpemkaa
