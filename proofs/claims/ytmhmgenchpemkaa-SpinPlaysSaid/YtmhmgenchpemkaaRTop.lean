/- The reference's Shown, Step and same walked. -/
import Derived.Test.YtmhmgenchpemkaaRRead
namespace Go.Proofs.Ytmhmgenchpemkaa
open Go.RowKit

def RS.shown (y : RS) : List Value := if y.done = true then y.st else [.bool false, .int .i64 0, .int .i64 0, .int .i64 y.tries]
theorem result_four {fn : Func} {tmps : Array Value} {w : World} {S a : Nat} {p q x y : Value} (hr : fn.results = #[.cell a 53]) (h4 : tmps.getD a undef = .pointer (some ⟨S, 0, none⟩))
    (v0 : w.cell? ⟨S, 0, none⟩ = some p) (v1 : w.cell? ⟨S, 1, none⟩ = some q) (v2 : w.cell? ⟨S, 2, none⟩ = some x) (v3 : w.cell? ⟨S, 3, none⟩ = some y) : (results fn tmps).run Try.prog w = .ok (.agg #[p, q, x, y]) w := by
  unfold results
  rw [hr]
  have h4' : tmps[a]?.getD undef = .pointer (some ⟨S, 0, none⟩) := by rw [← h4]; simp
  simp [asAddr, h4', go_sem, v0, v1, v2, v3]
set_option maxRecDepth 100000 in
set_option maxHeartbeats 400000 in
theorem shown_any (w : World) (y : RS) : Calls Try.prog 37 #[.agg y.st.toArray] w fun e w' => e = .returned (.agg y.shown.toArray) ∧ Below w.heap.size w w' := by
  unfold RS.st
  cases hd : y.done
  · have E : Hid (y.shown = [.bool false, .int .i64 0, .int .i64 0, .int .i64 y.tries]) := Lib.hid (by rw [RS.shown, hd]; rfl)
    clear hd
    go_enter Try.func37, Try.ntmps37
    go_wp2_with fail
    have HN := Holds.new (w.alloc (.cells #[.bool false, .int .i64 0, .int .i64 0, .int .i64 y.tries] 53)) #[.bool false, .int .i64 0, .int .i64 0, .int .i64 y.tries] 53
    rw [World.size_alloc] at HN
    refine bodyPost_ret (result_four rfl rfl (HN.cell 0) (HN.cell 1) (HN.cell 2) (HN.cell 3)) rfl ?_
    rw [E.out]
    exact ⟨rfl, ((Below.refl _ _).alloc (Nat.le_refl _) _).alloc (by simp) _⟩
  · have E : Hid (y.shown = [.bool true, .int .i64 y.a, .int .i64 y.b, .int .i64 y.tries]) := Lib.hid (by rw [RS.shown, if_pos hd, RS.st, hd])
    clear hd
    go_enter Try.func37, Try.ntmps37
    go_wp2_with fail
    have HN := Holds.new (w.alloc (.cells #[.bool true, .int .i64 y.a, .int .i64 y.b, .int .i64 y.tries] 53)) #[.bool true, .int .i64 y.a, .int .i64 y.b, .int .i64 y.tries] 53
    rw [World.size_alloc] at HN
    refine bodyPost_ret (result_four rfl rfl (HN.cell 0) (HN.cell 1) (HN.cell 2) (HN.cell 3)) rfl ?_
    rw [E.out]
    exact ⟨rfl, ((Below.refl _ _).alloc (Nat.le_refl _) _).alloc (by simp) _⟩

/-- Two states that are told alike. -/
theorem same4_any (w : World) {x : Mch} {y : RS} (h : y.shown = x.st) : Calls Try.prog 22 #[.agg x.st.toArray, .agg y.st.toArray] w fun e w' => e = .returned (.bool true) ∧ Below w.heap.size w w' := by
  have HS : Hid (∀ X, Calls Try.prog 37 #[.agg y.st.toArray] X fun e w' => e = .returned (.agg x.st.toArray) ∧ Below X.heap.size X w') := Lib.hid (fun X => by rw [← h]; exact shown_any X y)
  clear h
  unfold Mch.st at HS ⊢
  unfold RS.st at HS ⊢
  go_enter Try.func22, Try.ntmps22
  go_wp2_with fail
  refine (HS.out _).mono ?_
  rintro e w1 ⟨rfl, b1⟩
  have B0 : Below w.heap.size w ((w.alloc (.cells #[.bool x.done, .int .i64 x.sa, .int .i64 x.sb, .int .i64 x.tries] 38)).alloc (.cells #[.bool y.done, .int .i64 y.a, .int .i64 y.b, .int .i64 y.tries] 53)) := ((Below.refl _ _).alloc (Nat.le_refl _) _).alloc (by simp) _
  have H1 : Holds ((w.alloc (.cells #[.bool x.done, .int .i64 x.sa, .int .i64 x.sb, .int .i64 x.tries] 38)).alloc (.cells #[.bool y.done, .int .i64 y.a, .int .i64 y.b, .int .i64 y.tries] 53)) w.heap.size #[.bool x.done, .int .i64 x.sa, .int .i64 x.sb, .int .i64 x.tries] := (Holds.new _ _ _).alloc _
  have H2 := Holds.new (w.alloc (.cells #[.bool x.done, .int .i64 x.sa, .int .i64 x.sb, .int .i64 x.tries] 38)) #[.bool y.done, .int .i64 y.a, .int .i64 y.b, .int .i64 y.tries] 53
  rw [World.size_alloc] at H2
  have HB := Lib.hid (B0.trans (b1.mono B0.size))
  have H1 := H1.below b1
  have H2 := H2.below b1
  have x0 : w1.cell? ⟨w.heap.size, 0, none⟩ = some (.bool x.done) := H1.cell 0
  have x1 : w1.cell? ⟨w.heap.size, 1, none⟩ = some (.int .i64 x.sa) := H1.cell 1
  have x2 : w1.cell? ⟨w.heap.size, 2, none⟩ = some (.int .i64 x.sb) := H1.cell 2
  have x3 : w1.cell? ⟨w.heap.size, 3, none⟩ = some (.int .i64 x.tries) := H1.cell 3
  have y0 : w1.cell? ⟨w.heap.size + 1, 0, none⟩ = some (.bool y.done) := H2.cell 0
  have y1 : w1.cell? ⟨w.heap.size + 1, 1, none⟩ = some (.int .i64 y.a) := H2.cell 1
  have y2 : w1.cell? ⟨w.heap.size + 1, 2, none⟩ = some (.int .i64 y.b) := H2.cell 2
  have y3 : w1.cell? ⟨w.heap.size + 1, 3, none⟩ = some (.int .i64 y.tries) := H2.cell 3
  have fz := H2.2.1
  have l1 := H1.lt
  have l2 := H2.lt
  obtain ⟨B, hB⟩ : ∃ B, B = w.heap.size := ⟨_, rfl⟩
  have HBB := Lib.hid hB
  rw [← hB] at x0 x1 x2 x3 y0 y1 y2 y3 fz l1 l2 ⊢
  clear H1 H2 B0 b1 hB
  go_wp2_with fail
  go_ret
  refine ⟨rfl, ?_⟩
  rw [HBB.out]
  exact (((HB.out.setCell (by simp) _).setCell (by simp) _).setCell (by simp) _).setCell (by simp) _
theorem state_out2 {fn : Func} {tmps : Array Value} {w : World} {S : Nat} {p q x y z : Value} (hr : fn.results = #[.cell 4 53, .tmp 5]) (h4 : tmps.getD 4 undef = .pointer (some ⟨S, 0, none⟩)) (h5 : tmps.getD 5 undef = z)
    (v0 : w.cell? ⟨S, 0, none⟩ = some p) (v1 : w.cell? ⟨S, 1, none⟩ = some q) (v2 : w.cell? ⟨S, 2, none⟩ = some x) (v3 : w.cell? ⟨S, 3, none⟩ = some y) : (results fn tmps).run Try.prog w = .ok (.tuple #[.agg #[p, q, x, y], z]) w := by
  unfold results
  rw [hr]
  have h4' : tmps[4]?.getD undef = .pointer (some ⟨S, 0, none⟩) := by rw [← h4]; simp
  have h5' : tmps[5]?.getD undef = z := by rw [← h5]; simp
  simp [asAddr, h4', h5', go_sem, v0, v1, v2, v3]

section
variable {w : World} {q rb c A C L S : Nat} {vJ : Value} {js : List Jb} {Y : List RS} {s : MS} {k : Nat} {y : RS} {j : Jb}
def stepR (s : MS) (j : Jb) (y : RS) (num : Int) : RS × MS := if j.kind = 1 then holdR s j y num else if j.kind = 2 then writeR s j y else readR s j y
def okPc (j : Jb) (y : RS) : Prop := 0 ≤ y.pc ∧ y.pc ≤ (if j.kind = 1 then 2 else if j.kind = 2 then 5 else 4)
set_option maxRecDepth 100000 in
set_option maxHeartbeats 1000000 in
theorem rstep_arg (h : RSys w q rb c A C L S vJ js Y s) {i : Int} (hi : i < 0 ∨ (js.length : Int) ≤ i) : Calls Try.prog 21 #[.pointer (some ⟨q, 0, none⟩), .int .i64 i] w fun e w' => e = .returned (.tuple #[zstate, .int .i64 1]) ∧ Below w.heap.size w w' := by
  have q1 : w.cell? ⟨q, 1, none⟩ = some vJ := h.hq.cell 1
  have ql := h.hq.lt
  obtain ⟨a, cp, rfl⟩ : ∃ a cp, vJ = .slice a js.length cp := by
    rcases h.hj with ⟨rfl, a, cap, e⟩ | ⟨f, o, cap, e, _⟩
    · exact ⟨a, cap, e⟩
    · exact ⟨_, _, e⟩
  clear h
  by_cases h0 : i < 0
  · have d : decide (i < 0) = true := by simpa using h0
    go_enter Try.func21, Try.ntmps21
    go_wp2_with fail
    refine bodyPost_ret (state_out2 rfl rfl rfl (World.cell?_alloc_new _ _ _ _) (World.cell?_alloc_new _ _ _ _) (World.cell?_alloc_new _ _ _ _) (World.cell?_alloc_new _ _ _ _)) rfl ?_
    exact ⟨rfl, (Below.refl _ _).alloc (Nat.le_refl _) _⟩
  · have d : decide (i < 0) = false := by simpa using h0
    have hL : (js.length : Int) ≤ i := by omega
    go_enter Try.func21, Try.ntmps21
    go_wp2_with fail
    refine bodyPost_ret (state_out2 rfl rfl rfl (World.cell?_alloc_new _ _ _ _) (World.cell?_alloc_new _ _ _ _) (World.cell?_alloc_new _ _ _ _) (World.cell?_alloc_new _ _ _ _)) rfl ?_
    exact ⟨rfl, (Below.refl _ _).alloc (Nat.le_refl _) _⟩
set_option maxRecDepth 100000 in
set_option maxHeartbeats 1000000 in
theorem rstep_past (h : RSys w q rb c A C L S vJ js Y s) (hy : Y[k]? = some y) (hk : js[k]? = some j) (hd : y.done = true) : Calls Try.prog 21 #[.pointer (some ⟨q, 0, none⟩), .int .i64 k] w fun e w' => e = .returned (.tuple #[zstate, .int .i64 16]) ∧ Below w.heap.size w w' := by
  obtain ⟨f, o, cap, rfl⟩ := h.form hk
  have q1 : w.cell? ⟨q, 1, none⟩ = some (.slice (some ⟨f, o, none⟩) js.length cap) := h.hq.cell 1
  obtain ⟨_, _, _, r5, _⟩ := h.row hy
  obtain ⟨s0, _⟩ := h.hS.at hy
  rw [hd] at s0
  have ql := h.hq.lt
  have sl := h.hS.1
  have h8 := h.le
  have hkl := (List.getElem?_eq_some_iff.1 hk).1
  have k0 : (0 : Int) ≤ (k : Int) := by omega
  have k1 : (k : Int) < (js.length : Int) := by omega
  clear h
  go_enter Try.func21, Try.ntmps21
  go_wp2_with fail
  refine bodyPost_ret (state_out2 rfl rfl rfl (World.cell?_alloc_new _ _ _ _) (World.cell?_alloc_new _ _ _ _) (World.cell?_alloc_new _ _ _ _) (World.cell?_alloc_new _ _ _ _)) rfl ?_
  exact ⟨rfl, (Below.refl _ _).alloc (Nat.le_refl _) _⟩
theorem RSys.lts (h : RSys w q rb c A C L S vJ js Y s) : ∀ b ∈ [q, A, C, L, S, rb, c], b < w.heap.size := by
  intro b hb
  simp only [List.mem_cons, List.not_mem_nil, or_false] at hb
  rcases hb with rfl | rfl | rfl | rfl | rfl | rfl | rfl
  · exact h.hq.lt
  · exact h.hA.lt
  · exact h.hC.lt
  · exact h.hL.lt
  · exact h.hS.1
  · exact h.hm.hb.lt
  · exact h.hm.hc.lt
theorem RSys.jlt {f o cap n : Nat} (h : RSys w q rb c A C L S (.slice (some ⟨f, o, none⟩) n cap) js Y s) (hk : js[k]? = some j) : f < w.heap.size := by
  rcases h.hj with ⟨e, _⟩ | ⟨f', o', cap', e, hf, r⟩
  · rw [e] at hk; simp at hk
  · cases e; exact hf
set_option maxRecDepth 100000 in
set_option maxHeartbeats 1000000 in
theorem rstep_yes (h : RSys w q rb c A C L S vJ js Y s) (hy : Y[k]? = some y) (hk : js[k]? = some j) (hd : y.done = false) (e0 : wrap64 (j.at_ + 0) = j.at_) (hp : okPc j y) (hkd : j.kind = 1 ∨ j.kind = 2 ∨ j.kind = 3) :
    Calls Try.prog 21 #[.pointer (some ⟨q, 0, none⟩), .int .i64 k] w fun e w' => e = .returned (.tuple #[.agg (stepR s j y (k + 1)).1.st.toArray, .int .i64 0]) ∧ RSys w' q rb c A C L S vJ js (Y.set k (stepR s j y (k + 1)).1) (stepR s j y (k + 1)).2 ∧ Frm [A, C, L, S, rb, c] w w' := by
  obtain ⟨f, o, cap, rfl⟩ := h.form hk
  have hjl := h.jlt hk
  have hlt := Lib.hid h.lts
  have B0 : Below w.heap.size w (w.alloc (.cells #[.bool false, .int .i64 0, .int .i64 0, .int .i64 0] 53)) := (Below.refl _ _).alloc (Nat.le_refl _) _
  have H1 := Lib.hid (h.below B0)
  have HS : Hid (Holds (w.alloc (.cells #[.bool false, .int .i64 0, .int .i64 0, .int .i64 0] 53)) w.heap.size #[.bool false, .int .i64 0, .int .i64 0, .int .i64 0]) := Lib.hid (Holds.new _ _ _)
  have HF0 : Hid (Frm [A, C, L, S, rb, c] w (w.alloc (.cells #[.bool false, .int .i64 0, .int .i64 0, .int .i64 0] 53))) := Lib.hid (.of_below B0)
  have h8 := h.le
  have hkl := (List.getElem?_eq_some_iff.1 hk).1
  have hyl := (List.getElem?_eq_some_iff.1 hy).1
  have k0 : (0 : Int) ≤ (k : Int) := by omega
  have k1 : (k : Int) < (js.length : Int) := by omega
  have HY := Lib.hid hy
  have HK := Lib.hid hk
  have E0 := Lib.hid e0
  clear h B0 hy hk e0
  obtain ⟨y', hy'⟩ : ∃ y', (stepR s j y (k + 1)).1 = y' := ⟨_, rfl⟩
  obtain ⟨s', hs'⟩ : ∃ s', (stepR s j y (k + 1)).2 = s' := ⟨_, rfl⟩
  rw [hy', hs']
  go_enter Try.func21, Try.ntmps21
  go_upto_region 1 with fail
  generalize w.alloc (.cells #[.bool false, .int .i64 0, .int .i64 0, .int .i64 0] 53) = w1 at *
  obtain ⟨Z, hZ⟩ : ∃ Z, w.heap.size = Z := ⟨_, rfl⟩
  rw [hZ] at HS hlt hjl ⊢
  have HZ := Lib.hid hZ
  clear hZ
  obtain ⟨q0, q1, j0, _⟩ := H1.out.job HK.out
  obtain ⟨_, _, _, r5, _⟩ := H1.out.row HY.out
  obtain ⟨s0, _⟩ := H1.out.hS.at HY.out
  rw [hd] at s0
  rcases hkd with hk1 | hk1 | hk1
  · have e1 : stepR s j y (k + 1) = holdR s j y (k + 1) := by rw [stepR, if_pos hk1]
    rw [e1] at hy' hs'
    have hpc : y.pc = 0 ∨ y.pc = 1 ∨ y.pc = 2 := by
      unfold okPc at hp
      rw [if_pos hk1] at hp
      omega
    have HX : Hid (Calls Try.prog 34 #[.pointer (some ⟨q, 0, none⟩), .int .i64 k] w1 fun e w' => e = .returned (.tuple #[]) ∧ RSys w' q rb c A C L S (.slice (some ⟨f, o, none⟩) js.length cap) js (Y.set k y') s' ∧ Frm [A, C, L, S, rb, c] w1 w') := Lib.hid (by
      rw [← hy', ← hs']
      exact rhold_any H1.out HY.out HK.out E0.out hpc)
    rw [hk1] at j0
    clear hp hpc e1 hk1 hy' hs'
    go_wp2_with fail
    refine HX.out.mono ?_
    rintro e w2 ⟨rfl, m2, f2⟩
    have H2 := Lib.hid m2
    have F2 := Lib.hid (HF0.out.trans f2)
    have hZn : Z ∉ [A, C, L, S, rb, c] := fun hm => by have := hlt.out Z (List.mem_cons_of_mem _ hm); omega
    have HS2 := Lib.hid (HS.out.frm f2 hZn)
    have HY2 : (Y.set k y')[k]? = some y' := List.getElem?_set_self hyl
    clear m2 f2 q0 q1 j0 r5 s0
    obtain ⟨_, _, _, r5, _⟩ := H2.out.row HY2
    obtain ⟨s0, s1, s2, s3⟩ := H2.out.hS.at HY2
    have z0 : w2.cell? ⟨Z, 0, none⟩ = some (.bool false) := HS2.out.cell 0
    have z1 : w2.cell? ⟨Z, 1, none⟩ = some (.int .i64 0) := HS2.out.cell 1
    have z2 : w2.cell? ⟨Z, 2, none⟩ = some (.int .i64 0) := HS2.out.cell 2
    have z3 : w2.cell? ⟨Z, 3, none⟩ = some (.int .i64 0) := HS2.out.cell 3
    have fz := HS2.out.2.1
    go_wp2_with fail
    have G := (((HS2.out.set 0 (.bool y'.done) (by simp)).set 1 (.int .i64 y'.a) (by simp)).set 2 (.int .i64 y'.b) (by simp)).set 3 (.int .i64 y'.tries) (by simp)
    have FZ : Frm [Z] w2 ((((w2.setCell ⟨Z, 0, none⟩ (.bool y'.done)).setCell ⟨Z, 1, none⟩ (.int .i64 y'.a)).setCell ⟨Z, 2, none⟩ (.int .i64 y'.b)).setCell ⟨Z, 3, none⟩ (.int .i64 y'.tries)) := ((((Frm.refl _ _).setCell (by simp) _).setCell (by simp) _).setCell (by simp) _).setCell (by simp) _
    refine bodyPost_ret (state_out2 rfl rfl rfl (G.cell 0) (G.cell 1) (G.cell 2) (G.cell 3)) rfl ?_
    refine ⟨rfl, H2.out.frm FZ (fun b hb => ?_), F2.out.over FZ (by rw [HZ.out]; simp)⟩
    have hb : b = Z := by simpa using hb
    subst hb
    refine ⟨fun hm => by have := hlt.out b hm; omega, fun e => ?_⟩
    have : f = b := by simpa [Value.ownBlock] using e
    omega
  · have e1 : stepR s j y (k + 1) = writeR s j y := by rw [stepR, if_neg (by omega), if_pos hk1]
    rw [e1] at hy' hs'
    have hpc : y.pc = 0 ∨ y.pc = 1 ∨ y.pc = 2 ∨ y.pc = 3 ∨ y.pc = 4 ∨ y.pc = 5 := by
      unfold okPc at hp
      rw [if_neg (show ¬ j.kind = 1 by omega), if_pos hk1] at hp
      omega
    have HX : Hid (Calls Try.prog 35 #[.pointer (some ⟨q, 0, none⟩), .int .i64 k] w1 fun e w' => e = .returned (.tuple #[]) ∧ RSys w' q rb c A C L S (.slice (some ⟨f, o, none⟩) js.length cap) js (Y.set k y') s' ∧ Frm [A, C, L, S, rb, c] w1 w') := Lib.hid (by
      rw [← hy', ← hs']
      exact rwrite_any H1.out HY.out HK.out E0.out hpc)
    rw [hk1] at j0
    clear hp hpc e1 hk1 hy' hs'
    go_wp2_with fail
    refine HX.out.mono ?_
    rintro e w2 ⟨rfl, m2, f2⟩
    have H2 := Lib.hid m2
    have F2 := Lib.hid (HF0.out.trans f2)
    have hZn : Z ∉ [A, C, L, S, rb, c] := fun hm => by have := hlt.out Z (List.mem_cons_of_mem _ hm); omega
    have HS2 := Lib.hid (HS.out.frm f2 hZn)
    have HY2 : (Y.set k y')[k]? = some y' := List.getElem?_set_self hyl
    clear m2 f2 q0 q1 j0 r5 s0
    obtain ⟨_, _, _, r5, _⟩ := H2.out.row HY2
    obtain ⟨s0, s1, s2, s3⟩ := H2.out.hS.at HY2
    have z0 : w2.cell? ⟨Z, 0, none⟩ = some (.bool false) := HS2.out.cell 0
    have z1 : w2.cell? ⟨Z, 1, none⟩ = some (.int .i64 0) := HS2.out.cell 1
    have z2 : w2.cell? ⟨Z, 2, none⟩ = some (.int .i64 0) := HS2.out.cell 2
    have z3 : w2.cell? ⟨Z, 3, none⟩ = some (.int .i64 0) := HS2.out.cell 3
    have fz := HS2.out.2.1
    go_wp2_with fail
    have G := (((HS2.out.set 0 (.bool y'.done) (by simp)).set 1 (.int .i64 y'.a) (by simp)).set 2 (.int .i64 y'.b) (by simp)).set 3 (.int .i64 y'.tries) (by simp)
    have FZ : Frm [Z] w2 ((((w2.setCell ⟨Z, 0, none⟩ (.bool y'.done)).setCell ⟨Z, 1, none⟩ (.int .i64 y'.a)).setCell ⟨Z, 2, none⟩ (.int .i64 y'.b)).setCell ⟨Z, 3, none⟩ (.int .i64 y'.tries)) := ((((Frm.refl _ _).setCell (by simp) _).setCell (by simp) _).setCell (by simp) _).setCell (by simp) _
    refine bodyPost_ret (state_out2 rfl rfl rfl (G.cell 0) (G.cell 1) (G.cell 2) (G.cell 3)) rfl ?_
    refine ⟨rfl, H2.out.frm FZ (fun b hb => ?_), F2.out.over FZ (by rw [HZ.out]; simp)⟩
    have hb : b = Z := by simpa using hb
    subst hb
    refine ⟨fun hm => by have := hlt.out b hm; omega, fun e => ?_⟩
    have : f = b := by simpa [Value.ownBlock] using e
    omega
  · have e1 : stepR s j y (k + 1) = readR s j y := by rw [stepR, if_neg (by omega), if_neg (by omega)]
    rw [e1] at hy' hs'
    have hpc : y.pc = 0 ∨ y.pc = 1 ∨ y.pc = 2 ∨ y.pc = 3 ∨ y.pc = 4 := by
      unfold okPc at hp
      rw [if_neg (show ¬ j.kind = 1 by omega), if_neg (show ¬ j.kind = 2 by omega)] at hp
      omega
    have HX : Hid (Calls Try.prog 36 #[.pointer (some ⟨q, 0, none⟩), .int .i64 k] w1 fun e w' => e = .returned (.tuple #[]) ∧ RSys w' q rb c A C L S (.slice (some ⟨f, o, none⟩) js.length cap) js (Y.set k y') s' ∧ Frm [A, C, L, S, rb, c] w1 w') := Lib.hid (by
      rw [← hy', ← hs']
      exact rread_any H1.out HY.out HK.out E0.out hpc)
    rw [hk1] at j0
    clear hp hpc e1 hk1 hy' hs'
    go_wp2_with fail
    refine HX.out.mono ?_
    rintro e w2 ⟨rfl, m2, f2⟩
    have H2 := Lib.hid m2
    have F2 := Lib.hid (HF0.out.trans f2)
    have hZn : Z ∉ [A, C, L, S, rb, c] := fun hm => by have := hlt.out Z (List.mem_cons_of_mem _ hm); omega
    have HS2 := Lib.hid (HS.out.frm f2 hZn)
    have HY2 : (Y.set k y')[k]? = some y' := List.getElem?_set_self hyl
    clear m2 f2 q0 q1 j0 r5 s0
    obtain ⟨_, _, _, r5, _⟩ := H2.out.row HY2
    obtain ⟨s0, s1, s2, s3⟩ := H2.out.hS.at HY2
    have z0 : w2.cell? ⟨Z, 0, none⟩ = some (.bool false) := HS2.out.cell 0
    have z1 : w2.cell? ⟨Z, 1, none⟩ = some (.int .i64 0) := HS2.out.cell 1
    have z2 : w2.cell? ⟨Z, 2, none⟩ = some (.int .i64 0) := HS2.out.cell 2
    have z3 : w2.cell? ⟨Z, 3, none⟩ = some (.int .i64 0) := HS2.out.cell 3
    have fz := HS2.out.2.1
    go_wp2_with fail
    have G := (((HS2.out.set 0 (.bool y'.done) (by simp)).set 1 (.int .i64 y'.a) (by simp)).set 2 (.int .i64 y'.b) (by simp)).set 3 (.int .i64 y'.tries) (by simp)
    have FZ : Frm [Z] w2 ((((w2.setCell ⟨Z, 0, none⟩ (.bool y'.done)).setCell ⟨Z, 1, none⟩ (.int .i64 y'.a)).setCell ⟨Z, 2, none⟩ (.int .i64 y'.b)).setCell ⟨Z, 3, none⟩ (.int .i64 y'.tries)) := ((((Frm.refl _ _).setCell (by simp) _).setCell (by simp) _).setCell (by simp) _).setCell (by simp) _
    refine bodyPost_ret (state_out2 rfl rfl rfl (G.cell 0) (G.cell 1) (G.cell 2) (G.cell 3)) rfl ?_
    refine ⟨rfl, H2.out.frm FZ (fun b hb => ?_), F2.out.over FZ (by rw [HZ.out]; simp)⟩
    have hb : b = Z := by simpa using hb
    subst hb
    refine ⟨fun hm => by have := hlt.out b hm; omega, fun e => ?_⟩
    have : f = b := by simpa [Value.ownBlock] using e
    omega
end
end Go.Proofs.Ytmhmgenchpemkaa
