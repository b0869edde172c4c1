/- Chapter 2: Step. -/
import Derived.Test.YtmhmgenchpemkaaNew2
import Derived.Test.YtmhmgenchpemkaaHold
namespace Go.Proofs.Ytmhmgenchpemkaa
open Go.RowKit

/-- What one step of the i-th machine does. -/
def stepM (s : MS) (x : Mch) (i : Nat) : Mch × MS := if x.kind = 1 then holdM s x (i + 1) else pairM s x
def Mch.state (x : Mch) : Value := .agg #[.bool x.done, .int .i64 x.sa, .int .i64 x.sb, .int .i64 x.tries]
def zstate : Value := .agg #[.bool false, .int .i64 0, .int .i64 0, .int .i64 0]
theorem Sys.step {w w' : World} {r b c f o cap i : Nat} {v : Value} {L : List Mch} {s s' : MS} {y : Mch} (h : Sys w r b c f o cap v L s) (hv : v = .slice (some ⟨f, o, none⟩) L.length cap) (hr : RowsAt w' f o (L.set i y)) (hm : IsMem w' b c s') (hf : Frm [f, b, c] w w') : Sys w' r b c f o cap v (L.set i y) s' :=
  ⟨h.hr.frm hf (by simp [h.rf, h.rb, h.rc]), hm, .inr ⟨by rw [List.length_set]; exact hv, hr⟩, by rw [List.length_set]; exact h.le, h.fb, h.fc, h.rb, h.rc, h.rf⟩

theorem state_out {fn : Func} {tmps : Array Value} {w : World} {S : Nat} {p q x y z : Value} (hr : fn.results = #[.cell 4 38, .tmp 5]) (h4 : tmps.getD 4 undef = .pointer (some ⟨S, 0, none⟩)) (h5 : tmps.getD 5 undef = z)
    (v0 : w.cell? ⟨S, 0, none⟩ = some p) (v1 : w.cell? ⟨S, 1, none⟩ = some q) (v2 : w.cell? ⟨S, 2, none⟩ = some x) (v3 : w.cell? ⟨S, 3, none⟩ = some y) : (results fn tmps).run Try.prog w = .ok (.tuple #[.agg #[p, q, x, y], z]) w := by
  unfold results
  rw [hr]
  have h4' : tmps[4]?.getD undef = .pointer (some ⟨S, 0, none⟩) := by rw [← h4]; simp
  have h5' : tmps[5]?.getD undef = z := by rw [← h5]; simp
  simp [asAddr, h4', h5', go_sem, v0, v1, v2, v3]

theorem Frm.over {l m : List Nat} {a b c : World} (h : Frm l a b) (k : Frm m b c) (hm : ∀ x ∈ m, a.heap.size ≤ x) : Frm l a c :=
  ⟨k.os.trans h.os, k.tape.trans h.tape, k.output.trans h.output, Nat.le_trans h.size k.size, fun i hi hn => (k.block i (Nat.lt_of_lt_of_le hi h.size) (fun hm' => by have := hm i hm'; omega)).trans (h.block i hi hn)⟩
section
variable {w : World} {r b c f o cap : Nat} {v : Value} {L : List Mch} {s : MS}
theorem Sys.value (h : Sys w r b c f o cap v L s) : ∃ a cp, v = .slice a L.length cp := by
  rcases h.hv with ⟨rfl, q⟩ | ⟨q, _⟩
  · exact ⟨none, 0, q⟩
  · exact ⟨_, _, q⟩
theorem Sys.rows (h : Sys w r b c f o cap v L s) (hl : 0 < L.length) : v = .slice (some ⟨f, o, none⟩) L.length cap ∧ RowsAt w f o L := by
  rcases h.hv with ⟨rfl, q⟩ | q
  · simp at hl
  · exact q
set_option maxRecDepth 100000 in
set_option maxHeartbeats 4000000 in
theorem step_arg (h : Sys w r b c f o cap v L s) {i : Int} (hi : i < 0 ∨ (L.length : Int) ≤ i) : Calls Try.prog 14 #[.pointer (some ⟨r, 0, none⟩), .int .i64 i] w fun e w' => e = .returned (.tuple #[zstate, .int .i64 1]) ∧ Below w.heap.size w w' := by
  obtain ⟨a, cp, rfl⟩ := h.value
  have r1 : w.cell? ⟨r, 1, none⟩ = some (.slice a L.length cp) := h.hr.cell 1
  have rl := h.hr.lt
  clear h
  by_cases h0 : i < 0
  · have d : decide (i < 0) = true := by simpa using h0
    go_enter Try.func14, Try.ntmps14
    go_wp2_with fail
    refine bodyPost_ret (state_out rfl rfl rfl (World.cell?_alloc_new _ _ _ _) (World.cell?_alloc_new _ _ _ _) (World.cell?_alloc_new _ _ _ _) (World.cell?_alloc_new _ _ _ _)) rfl ?_
    exact ⟨rfl, (Below.refl _ _).alloc (Nat.le_refl _) _⟩
  · have d : decide (i < 0) = false := by simpa using h0
    have hL : (L.length : Int) ≤ i := by omega
    go_enter Try.func14, Try.ntmps14
    go_wp2_with fail
    refine bodyPost_ret (state_out rfl rfl rfl (World.cell?_alloc_new _ _ _ _) (World.cell?_alloc_new _ _ _ _) (World.cell?_alloc_new _ _ _ _) (World.cell?_alloc_new _ _ _ _)) rfl ?_
    exact ⟨rfl, (Below.refl _ _).alloc (Nat.le_refl _) _⟩
set_option maxRecDepth 100000 in
set_option maxHeartbeats 4000000 in
theorem step_past (h : Sys w r b c f o cap v L s) {i : Nat} {x : Mch} (hx : L[i]? = some x) (hd : x.done = true) : Calls Try.prog 14 #[.pointer (some ⟨r, 0, none⟩), .int .i64 i] w fun e w' => e = .returned (.tuple #[zstate, .int .i64 16]) ∧ Below w.heap.size w w' := by
  have hil := (List.getElem?_eq_some_iff.1 hx).1
  obtain ⟨rfl, hR⟩ := h.rows (by omega)
  have r1 : w.cell? ⟨r, 1, none⟩ = some (.slice (some ⟨f, o, none⟩) L.length cap) := h.hr.cell 1
  have rl := h.hr.lt
  have u5 := (hR.at hx).2.2.2.2.2.1
  rw [hd] at u5
  have fl := hR.1
  have hi0 : (0 : Int) ≤ (i : Int) := by omega
  have hi1 : (i : Int) < (L.length : Int) := by omega
  clear h hR
  go_enter Try.func14, Try.ntmps14
  go_wp2_with fail
  refine bodyPost_ret (state_out rfl rfl rfl (World.cell?_alloc_new _ _ _ _) (World.cell?_alloc_new _ _ _ _) (World.cell?_alloc_new _ _ _ _) (World.cell?_alloc_new _ _ _ _)) rfl ?_
  exact ⟨rfl, (Below.refl _ _).alloc (Nat.le_refl _) _⟩
set_option maxRecDepth 100000 in
set_option maxHeartbeats 4000000 in
theorem step_yes (h : Sys w r b c f o cap v L s) {i : Nat} {x : Mch} (hx : L[i]? = some x) (hd : x.done = false) : Calls Try.prog 14 #[.pointer (some ⟨r, 0, none⟩), .int .i64 i] w fun e w' => e = .returned (.tuple #[(stepM s x i).1.state, .int .i64 0]) ∧ Sys w' r b c f o cap v (L.set i (stepM s x i).1) (stepM s x i).2 ∧ Frm [f, b, c] w w' := by
  have hil := (List.getElem?_eq_some_iff.1 hx).1
  obtain ⟨hv, hR⟩ := h.rows (by omega)
  have h8 := h.le
  have B0 : Below w.heap.size w (w.alloc (.cells #[.bool false, .int .i64 0, .int .i64 0, .int .i64 0] 38)) := (Below.refl _ _).alloc (Nat.le_refl _) _
  have H1 := Lib.hid (h.below B0)
  have HS : Hid (Holds (w.alloc (.cells #[.bool false, .int .i64 0, .int .i64 0, .int .i64 0] 38)) w.heap.size #[.bool false, .int .i64 0, .int .i64 0, .int .i64 0]) := Lib.hid (Holds.new _ _ _)
  obtain ⟨w1, hw1⟩ : ∃ w1, w.alloc (.cells #[.bool false, .int .i64 0, .int .i64 0, .int .i64 0] 38) = w1 := ⟨_, rfl⟩
  subst hv
  have HF0 : Hid (Frm [f, b, c] w w1) := Lib.hid (.of_below (by rw [← hw1]; exact B0))
  have fS : f < w.heap.size := hR.1
  have rS := h.hr.lt
  have bS := h.hm.hb.lt
  have cS := h.hm.hc.lt
  have hi0 : (0 : Int) ≤ (i : Int) := by omega
  have hi1 : (i : Int) < (L.length : Int) := by omega
  have hi8 : i < 8 := by omega
  have HX := Lib.hid hx
  go_enter Try.func14, Try.ntmps14
  go_upto_region 1 with fail
  rw [hw1] at H1 HS B0
  obtain ⟨S, hS⟩ : ∃ S, w.heap.size = S := ⟨_, rfl⟩
  rw [hS] at HS fS bS cS rS ⊢
  have r0 : w1.cell? ⟨r, 0, none⟩ = some (.pointer (some ⟨b, 0, none⟩)) := H1.out.hr.cell 0
  have r1 : w1.cell? ⟨r, 1, none⟩ = some (.slice (some ⟨f, o, none⟩) L.length cap) := H1.out.hr.cell 1
  obtain ⟨u0, u1, u2, u3, u4, u5, u6, u7, u8, u9, u10, u11, u12, u13⟩ := (H1.out.rows (by omega)).2.at HX.out
  rw [hd] at u5
  have HS1 := Lib.hid hS
  have HR1 := Lib.hid (H1.out.rows (by omega)).2
  have HFB := Lib.hid H1.out.fb
  have HFC := Lib.hid H1.out.fc
  clear h hR hw1 hx hS B0 u1 u2 u3 u4 u6 u7 u8 u9 u10 u11 u12 u13
  have NS : Hid (S ∉ [f, b, c]) := Lib.hid (by simp; omega)
  by_cases k1 : x.kind = 1
  · have E : Hid (stepM s x i = holdM s x (i + 1)) := Lib.hid (by rw [stepM, if_pos k1])
    rw [k1] at u0
    clear k1
    go_upto_region 9 with (first | (go_at_call 32; go_must (refine (hold_any (num := (i : Int) + 1) HR1.out HX.out H1.out.hm HFB.out HFC.out).mono ?_); rintro e w2 ⟨rfl, a1, m1, f1⟩; have A1 := Lib.hid a1; have M1 := Lib.hid m1; have F1 := Lib.hid f1; clear a1 m1 f1))
    have H2 := Lib.hid (H1.out.step rfl A1.out M1.out F1.out)
    obtain ⟨u0, u1, u2, u3, u4, u5, u6, u7, u8, u9, u10, u11, u12, u13⟩ := A1.out.at (List.getElem?_set_self hil)
    have hs2 := HS.out.frm F1.out NS.out
    have v0 : w2.cell? ⟨S, 0, none⟩ = some (.bool false) := hs2.cell 0
    have v1 : w2.cell? ⟨S, 1, none⟩ = some (.int .i64 0) := hs2.cell 1
    have v2 : w2.cell? ⟨S, 2, none⟩ = some (.int .i64 0) := hs2.cell 2
    have v3 : w2.cell? ⟨S, 3, none⟩ = some (.int .i64 0) := hs2.cell 3
    have fS' := hs2.free
    have HS2 := Lib.hid hs2
    have fne : ¬ f = S := by omega
    clear hs2
    go_wp2_with fail
    have hs3 := (((HS2.out.set 0 (.bool (holdM s x (i + 1)).1.done) (by simp)).set 1 (.int .i64 (holdM s x (i + 1)).1.sa) (by simp)).set 2 (.int .i64 (holdM s x (i + 1)).1.sb) (by simp)).set 3 (.int .i64 (holdM s x (i + 1)).1.tries) (by simp)
    refine bodyPost_ret (state_out rfl rfl rfl (hs3.cell 0) (hs3.cell 1) (hs3.cell 2) (hs3.cell 3)) rfl ?_
    rw [E.out]
    have f4 : Frm [S] w2 _ := ((((Frm.refl [S] w2).setCell (p := ⟨S, 0, none⟩) (by simp) (.bool (holdM s x (i + 1)).1.done)).setCell (p := ⟨S, 1, none⟩) (by simp) (.int .i64 (holdM s x (i + 1)).1.sa)).setCell (p := ⟨S, 2, none⟩) (by simp) (.int .i64 (holdM s x (i + 1)).1.sb)).setCell (p := ⟨S, 3, none⟩) (by simp) (.int .i64 (holdM s x (i + 1)).1.tries)
    refine ⟨rfl, H2.out.frm f4 (by simp; omega) (by simp; omega) (by simp; omega) (by simp; omega), ?_⟩
    exact (HF0.out.trans F1.out).over f4 (by simp; have := HS1.out; omega)
  · have E : Hid (stepM s x i = pairM s x) := Lib.hid (by rw [stepM, if_neg k1])
    have d1 : (x.kind == 1) = false := by simpa using k1
    clear k1
    go_upto_region 9 with (first | (go_at_call 33; refine (pair_any HR1.out HX.out H1.out.hm HFB.out HFC.out).mono ?_; rintro e w2 ⟨rfl, a1, m1, f1⟩; have A1 := Lib.hid a1; have M1 := Lib.hid m1; have F1 := Lib.hid f1; clear a1 m1 f1))
    have H2 := Lib.hid (H1.out.step rfl A1.out M1.out F1.out)
    obtain ⟨u0, u1, u2, u3, u4, u5, u6, u7, u8, u9, u10, u11, u12, u13⟩ := A1.out.at (List.getElem?_set_self hil)
    have hs2 := HS.out.frm F1.out NS.out
    have v0 : w2.cell? ⟨S, 0, none⟩ = some (.bool false) := hs2.cell 0
    have v1 : w2.cell? ⟨S, 1, none⟩ = some (.int .i64 0) := hs2.cell 1
    have v2 : w2.cell? ⟨S, 2, none⟩ = some (.int .i64 0) := hs2.cell 2
    have v3 : w2.cell? ⟨S, 3, none⟩ = some (.int .i64 0) := hs2.cell 3
    have fS' := hs2.free
    have HS2 := Lib.hid hs2
    have fne : ¬ f = S := by omega
    clear hs2
    go_wp2_with fail
    have hs3 := (((HS2.out.set 0 (.bool (pairM s x).1.done) (by simp)).set 1 (.int .i64 (pairM s x).1.sa) (by simp)).set 2 (.int .i64 (pairM s x).1.sb) (by simp)).set 3 (.int .i64 (pairM s x).1.tries) (by simp)
    refine bodyPost_ret (state_out rfl rfl rfl (hs3.cell 0) (hs3.cell 1) (hs3.cell 2) (hs3.cell 3)) rfl ?_
    rw [E.out]
    have f4 : Frm [S] w2 _ := ((((Frm.refl [S] w2).setCell (p := ⟨S, 0, none⟩) (by simp) (.bool (pairM s x).1.done)).setCell (p := ⟨S, 1, none⟩) (by simp) (.int .i64 (pairM s x).1.sa)).setCell (p := ⟨S, 2, none⟩) (by simp) (.int .i64 (pairM s x).1.sb)).setCell (p := ⟨S, 3, none⟩) (by simp) (.int .i64 (pairM s x).1.tries)
    refine ⟨rfl, H2.out.frm f4 (by simp; omega) (by simp; omega) (by simp; omega) (by simp; omega), ?_⟩
    exact (HF0.out.trans F1.out).over f4 (by simp; have := HS1.out; omega)
end
end Go.Proofs.Ytmhmgenchpemkaa
