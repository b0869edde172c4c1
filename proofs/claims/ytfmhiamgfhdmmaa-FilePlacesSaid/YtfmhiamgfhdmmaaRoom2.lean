/- The walks of Room and In, stepped through. -/
import Derived.Test.YtfmhiamgfhdmmaaRoom
import Derived.BigRegionIn
namespace Go.Proofs.Ytfmhiamgfhdmmaa
open Go.RowKit Go.Shelf

attribute [local go_sem] Oper.semAt_some

theorem cntP_snoc_in {l : List Nat} {x p : Nat} (h : x / 8 = p) : cntP (l ++ [x]) p = cntP l p + 1 := by simp [cntP, List.filter_append, h]
theorem cntP_snoc_out {l : List Nat} {x p : Nat} (h : x / 8 ≠ p) : cntP (l ++ [x]) p = cntP l p := by simp [cntP, List.filter_append, h]
theorem cntP_le (l : List Nat) (p : Nat) : cntP l p ≤ l.length := List.length_filter_le _ _

set_option maxRecDepth 100000 in
set_option maxHeartbeats 2000000 in
theorem room_in (F : Fence) (n : Nat) (h20 : F.fn 20) (h25 : F.fn 25) (h27 : F.fn 27) (h29 : F.fn 29) (hro : F.round = none) (hn : 3 ≤ n) (b : Nat) (s : TS) (p : Nat) (hp : p < 8) (w : World) (h : IsTb w b s) :
    CallsIn F n Try.prog 20 #[.pointer (some ⟨b, 0, none⟩), .int .i64 p] w fun e w' => e = .returned (.int .i64 (roomOf s p)) ∧ Below w.heap.size w w' := by
  have h1 : 1 ≤ n := by omega
  have H := Lib.hid h
  have hlb := h.lt
  clear h
  refine callsIn_of_wp_marks Try.func20 rfl h20 ?_ hro
  simp only [Try.ntmps20, List.size_toArray, List.length_cons, List.length_nil, Nat.reduceAdd, Nat.reduceSub, Array.replicate_succ, Array.replicate_zero, List.push_toArray, List.append_toArray, List.nil_append, List.cons_append]
  gi_wp2_with (first | (gi_at_call 27; refine (proc_in F (n - 1) h27 hro _ (by omega) _).mono ?_; rintro e w' ⟨rfl, rfl⟩) | (gi_at_call 25; refine (seq_in F (n - 1) h25 hro _ _).mono ?_; rintro e w' ⟨rfl, rfl⟩))
  have b0 := Boxed.new w 3 (.int .i64 (p : Int))
  have b1 := Boxed.new (w.alloc (.cells #[.int .i64 (p : Int)] 3)) 3 (.int .i64 0)
  have b2 := Boxed.new ((w.alloc (.cells #[.int .i64 (p : Int)] 3)).alloc (.cells #[.int .i64 0] 3)) 3 (.int .i64 0)
  have bM := Boxed.new (((w.alloc (.cells #[.int .i64 (p : Int)] 3)).alloc (.cells #[.int .i64 0] 3)).alloc (.cells #[.int .i64 0] 3)) 23 (.pointer (some ⟨b, 0, none⟩))
  have hB0 : Below w.heap.size w ((((w.alloc (.cells #[.int .i64 (p : Int)] 3)).alloc (.cells #[.int .i64 0] 3)).alloc (.cells #[.int .i64 0] 3)).alloc (.cells #[.pointer (some ⟨b, 0, none⟩)] 23)) := ((((Below.refl _ w).alloc (Nat.le_refl _) _).alloc (by simp) _).alloc (by simp; omega) _).alloc (by simp; omega) _
  simp only [World.size_alloc] at b1 b2 bM
  refine wpIn_rangeFunc_ownG hro h1 (gf := 29) (lb := #[.pointer (some ⟨w.heap.size + 1 + 1 + 1, 0, none⟩)]) rfl h29 (enters_of Try.func29 (by kernel_rfl) rfl)
    (each_stops F (n - 1) h29 hro (by omega) (w.heap.size + 1 + 1 + 1) b s _ (by simp) bM.cell (H.out.below hB0)) K2.trans (K2.put (by simp) (by simp; omega)) (Below.refl _ _) (fun _ => rfl)
    (fun pre W => Boxed W w.heap.size 3 (.int .i64 (p : Int)) ∧ Boxed W (w.heap.size + 1) 3 (.int .i64 (cntP pre p : Int)) ∧ Boxed W (w.heap.size + 1 + 1) 3 (.int .i64 (pre.length : Int)) ∧ Below w.heap.size w W)
    (fun _ _ _ => False)
    (OwnFrom.and (Own.from (boxed_own w.heap.size 3 (fun _ : List Nat => .int .i64 (p : Int))) _) (OwnFrom.and (Own.from (boxed_own (w.heap.size + 1) 3 (fun pre : List Nat => .int .i64 (cntP pre p : Int))) _) (OwnFrom.and (Own.from (boxed_own (w.heap.size + 1 + 1) 3 (fun pre : List Nat => .int .i64 (pre.length : Int))) _) (ownFrom_below (Nat.le_refl _) (by simp; omega)))))
    (fun _ _ _ _ _ hs _ _ => hs)
    ⟨((b0.alloc _).alloc _).alloc _, (b1.alloc _).alloc _, b2.alloc _, hB0⟩
    (fun x => { tmps := #[.pointer (some ⟨b, 0, none⟩), .int .i64 (p : Int), undef, .pointer (some ⟨w.heap.size, 0, none⟩), .int .i64 0, .pointer (some ⟨w.heap.size + 1, 0, none⟩), .pointer (some ⟨w.heap.size + 1 + 1, 0, none⟩), .int .i64 ((x / 8 : Nat) : Int), .int .i64 (p : Int), .bool true, .bool false, .pointer (some ⟨b, 0, none⟩), .func (.func 29) #[] #[.pointer (some ⟨w.heap.size + 1 + 1 + 1, 0, none⟩)], .int .i64 ((x / 8 : Nat) : Int), (s.T x).file, undef, undef, undef, undef, undef, undef, undef, undef, undef, undef, undef, undef, undef, undef, undef, undef, undef], defers := [] }) ?assign ?body ?done ?stop
  case assign =>
    intro l x W K hK
    simp only [encs]
    gi_wp2
    simpa [encs] using hK
  case body =>
    rintro l pre x W ⟨hv0, hv1, hv2, hB⟩ hlt
    have hc0 := hv0.cell
    have hc1 := hv1.cell
    have hc2 := hv2.cell
    have hf1 := hv1.frozen
    have hf2 := hv2.frozen
    have hlt' : pre.length ≤ 64 := by omega
    have hcl := cntP_le pre p
    by_cases hx : x / 8 = p
    · have e : ((((x / 8 : Nat) : Int)) == (p : Int)) = true := by simpa using (by omega : ((x / 8 : Nat) : Int) = (p : Int))
      have HX := Lib.hid hx
      clear hx
      gi_wp2
      refine ⟨((KeepsOthers.setCell _ _ _).trans (KeepsOthers.setCell _ _ _)).from _, ((K2.refl _ _ _).set (by omega) (by omega) _).set (by omega) (by omega) _, ⟨(hv0.other (by omega) _).other (by omega) _, ?_, ?_, (hB.setCell (p := ⟨w.heap.size + 1 + 1, 0, none⟩) (by show w.heap.size ≤ w.heap.size + 1 + 1; omega) _).setCell (p := ⟨w.heap.size + 1, 0, none⟩) (by show w.heap.size ≤ w.heap.size + 1; omega) _⟩⟩
      · have := (hv1.other (B' := w.heap.size + 1 + 1) (by omega) (.int .i64 ((pre.length : Int) + 1))).set (.int .i64 ((cntP pre p : Int) + 1))
        rw [cntP_snoc_in HX.out]
        simpa using this
      · have := (hv2.set (.int .i64 ((pre.length : Int) + 1))).other (B' := w.heap.size + 1) (by omega) (.int .i64 ((cntP pre p : Int) + 1))
        simpa using this
    · have e : ((((x / 8 : Nat) : Int)) == (p : Int)) = false := beq_eq_false_iff_ne.2 (by omega)
      have HX := Lib.hid hx
      clear hx
      gi_wp2
      refine ⟨(KeepsOthers.setCell _ _ _).from _, (K2.refl _ _ _).set (by omega) (by omega) _, ⟨hv0.other (by omega) _, ?_, ?_, hB.setCell (p := ⟨w.heap.size + 1 + 1, 0, none⟩) (by show w.heap.size ≤ w.heap.size + 1 + 1; omega) _⟩⟩
      · rw [cntP_snoc_out HX.out]
        exact hv1.other (by omega) _
      · have := hv2.set (.int .i64 ((pre.length : Int) + 1))
        simpa using this
  case done =>
    rintro D ys W hD rfl ⟨hv0, hv1, hv2, hB⟩ hK
    have hc1 := hv1.cell
    have hc2 := hv2.cell
    have hm := (H.out.below hB).c0
    have hbel : ∀ o', Below w.heap.size w (W.putObj D o') := fun o' => hB.trans (belowK_b (w := w) (Nat.le_refl _) W D _ _ (by simp at hD; omega) hK rfl rfl)
    have hbelD : ∀ o', Below w.heap.size w (W.drew.putObj D o') := fun o' => hB.drew.trans (belowK_b (w := w) (Nat.le_refl _) W.drew D _ _ (by simp at hD; omega) (show W.drew.heap[D]? = some (.deferred (some [])) from hK) rfl rfl)
    have HBelD := Lib.hid hbelD
    clear hbelD
    have HBel := Lib.hid hbel
    clear hbel
    by_cases g1 : 8 ≤ ownT s.T p
    · have d1 : decide (((cntP (told s.T 64) p : Nat) : Int) ≥ 8) = true := decide_eq_true (by unfold ownT at g1; omega)
      have hres : roomOf s p = 41 := if_pos g1
      have HRES := Lib.hid hres
      clear g1 hres
      gi_wp2
      refine ⟨by simp, .inl ⟨_, _, rfl, run_takeDeferred hK, ?_⟩⟩
      exact ⟨_, results_tmp rfl _ _ _, by rw [HRES.out]; rfl, HBel.out _⟩
    · have d1 : decide (((cntP (told s.T 64) p : Nat) : Int) ≥ 8) = false := decide_eq_false (by unfold ownT at g1; omega)
      by_cases g2 : s.most ≤ (cntT s.T : Int)
      · have d2 : decide (((told s.T 64).length : Int) ≥ s.most) = true := decide_eq_true g2
        have hres : roomOf s p = 40 := by simp [roomOf, g1, g2]
        have HRES := Lib.hid hres
        clear g1 g2 hres
        gi_wp2
        gi_region
        all_goals
          gi_wp2
          refine ⟨by simp, .inl ⟨_, _, rfl, run_takeDeferred (w := W.drew) hK, ?_⟩⟩
          exact ⟨_, results_tmp rfl _ _ _, by rw [HRES.out]; rfl, HBelD.out _⟩
      · have d2 : decide (((told s.T 64).length : Int) ≥ s.most) = false := decide_eq_false g2
        have hres : roomOf s p = 0 := by simp [roomOf, g1, g2]
        have HRES := Lib.hid hres
        clear g1 g2 hres
        gi_wp2
        gi_region
        all_goals
          gi_wp2
          refine ⟨by simp, .inl ⟨_, _, rfl, run_takeDeferred (w := W.drew) hK, ?_⟩⟩
          exact ⟨_, results_tmp rfl _ _ _, by rw [HRES.out]; rfl, HBelD.out _⟩
  case stop =>
    rintro D c pre W _ _ h _
    exact h.elim

/-- How many are open within a mount. -/
def inT (T : Nat → Sl) (l : List Nat) (m : Int) : Nat := (l.filter fun x => (T x).m == m).length
theorem inT_snoc_in {T : Nat → Sl} {l : List Nat} {x : Nat} {m : Int} (h : (T x).m = m) : inT T (l ++ [x]) m = inT T l m + 1 := by simp [inT, List.filter_append, h]
theorem inT_snoc_out {T : Nat → Sl} {l : List Nat} {x : Nat} {m : Int} (h : (T x).m ≠ m) : inT T (l ++ [x]) m = inT T l m := by simp [inT, List.filter_append, h]
theorem inT_le (T : Nat → Sl) (l : List Nat) (m : Int) : inT T l m ≤ l.length := List.length_filter_le _ _

set_option maxRecDepth 100000 in
set_option maxHeartbeats 2000000 in
theorem in_in (F : Fence) (n : Nat) (h14 : F.fn 14) (h25 : F.fn 25) (h29 : F.fn 29) (hro : F.round = none) (hn : 3 ≤ n) (b : Nat) (s : TS) (m : Int) (w : World) (h : IsTb w b s) :
    CallsIn F n Try.prog 14 #[.pointer (some ⟨b, 0, none⟩), .int .i64 m] w fun e w' => e = .returned (.int .i64 (inT s.T (told s.T 64) m)) ∧ Below w.heap.size w w' := by
  have h1 : 1 ≤ n := by omega
  have H := Lib.hid h
  have hlb := h.lt
  clear h
  refine callsIn_of_wp_marks Try.func14 rfl h14 ?_ hro
  simp only [Try.ntmps14, List.size_toArray, List.length_cons, List.length_nil, Nat.reduceAdd, Nat.reduceSub, Array.replicate_succ, Array.replicate_zero, List.push_toArray, List.append_toArray, List.nil_append, List.cons_append]
  gi_wp2_with (gi_at_call 25; refine (seq_in F (n - 1) h25 hro _ _).mono ?_; rintro e w' ⟨rfl, rfl⟩)
  have b0 := Boxed.new w 3 (.int .i64 m)
  have b1 := Boxed.new (w.alloc (.cells #[.int .i64 m] 3)) 3 (.int .i64 0)
  have bM := Boxed.new ((w.alloc (.cells #[.int .i64 m] 3)).alloc (.cells #[.int .i64 0] 3)) 23 (.pointer (some ⟨b, 0, none⟩))
  have hB0 : Below w.heap.size w (((w.alloc (.cells #[.int .i64 m] 3)).alloc (.cells #[.int .i64 0] 3)).alloc (.cells #[.pointer (some ⟨b, 0, none⟩)] 23)) := (((Below.refl _ w).alloc (Nat.le_refl _) _).alloc (by simp) _).alloc (by simp; omega) _
  simp only [World.size_alloc] at b1 bM
  refine wpIn_rangeFunc_ownH hro h1 (gf := 29) (lb := #[.pointer (some ⟨w.heap.size + 1 + 1, 0, none⟩)]) rfl h29 (enters_of Try.func29 (by kernel_rfl) rfl)
    (each_stops F (n - 1) h29 hro (by omega) (w.heap.size + 1 + 1) b s _ (by simp) bM.cell (H.out.below hB0)) K2.trans (K2.put (by simp) (by simp; omega)) (Below.refl _ _) (fun _ => rfl)
    (fun pre W => Boxed W w.heap.size 3 (.int .i64 m) ∧ Boxed W (w.heap.size + 1) 3 (.int .i64 (inT s.T pre m : Int)) ∧ Below w.heap.size w W ∧ w.heap.size + 1 + 1 < W.heap.size)
    (fun _ _ _ => False)
    (OwnFrom.and (Own.from (boxed_own w.heap.size 3 (fun _ : List Nat => .int .i64 m)) _) (OwnFrom.and (Own.from (boxed_own (w.heap.size + 1) 3 (fun pre : List Nat => .int .i64 (inT s.T pre m : Int))) _) (OwnFrom.and (ownFrom_below (Nat.le_refl _) (by simp; omega)) (fun _ X Y row hs hg _ => by have := hg.size; omega))))
    (fun _ _ _ _ _ hs _ _ => hs)
    ⟨(b0.alloc _).alloc _, b1.alloc _, hB0, by simp⟩
    (fun x a' W => ∃ B, W.heap[B]? = some (.cells #[.int .i64 (s.T x).m, .int .i64 (s.T x).n, .int .i64 (s.T x).f, .int .i64 (s.T x).p] 41 (0, 0)) ∧ a' = { tmps := #[.pointer (some ⟨b, 0, none⟩), .int .i64 m, undef, .pointer (some ⟨w.heap.size, 0, none⟩), .int .i64 0, .pointer (some ⟨w.heap.size + 1, 0, none⟩), undef, .pointer (some ⟨B, 0, none⟩), .pointer (some ⟨b, 0, none⟩), .func (.func 29) #[] #[.pointer (some ⟨w.heap.size + 1 + 1, 0, none⟩)], .int .i64 ((x / 8 : Nat) : Int), (s.T x).file, undef, undef, undef, undef, undef, undef, undef, undef], defers := [] })
    ?hax ?assign ?body ?done ?stop
  case hax =>
    rintro x a' _ X Y row ⟨B, h2, h3⟩ hg hrow
    refine ⟨B, (hg.block B (Array.getElem?_eq_some_iff.1 h2).1 fun e => ?_).trans h2, h3⟩
    obtain ⟨_, o, ho, hc⟩ := hrow B e.symm
    rw [h2] at ho; cases ho; cases hc
  case assign =>
    rintro l pre x W K ⟨hv0, hv1, hB, hs⟩ hK
    simp only [encs, Sl.file]
    have hlB := H.out.lt
    gi_wp2
    refine hK _ _ ((KeepsOthers.alloc _ _).from _) ((K2.refl _ _ _).alloc hs (by omega) _) ⟨hv0.alloc _, hv1.alloc _, hB.alloc hB.size _, by simp; omega⟩ ⟨W.heap.size, World.alloc_heap_new _ _, ?_⟩
    simp [Sl.file]
  case body =>
    rintro l pre x a' W hl hr ⟨hv0, hv1, hB, hs⟩ ⟨B, hBc, rfl⟩ hlt
    have hc0 := hv0.cell
    have hc1 := hv1.cell
    have hf1 := hv1.frozen
    have hb0 : W.cell? ⟨B, 0, none⟩ = some (.int .i64 (s.T x).m) := by simp [World.cell?, hBc]
    have hcl := inT_le s.T pre m
    have hlt' : pre.length ≤ 64 := by omega
    by_cases hx : (s.T x).m = m
    · have e : ((s.T x).m == m) = true := by simpa using hx
      have HX := Lib.hid hx
      clear hx
      gi_wp2
      refine ⟨(KeepsOthers.setCell _ _ _).from _, (K2.refl _ _ _).set (by omega) (by omega) _, ⟨hv0.other (by omega) _, ?_, hB.setCell (p := ⟨w.heap.size + 1, 0, none⟩) (by show w.heap.size ≤ w.heap.size + 1; omega) _, by simpa using hs⟩⟩
      have := hv1.set (.int .i64 ((inT s.T pre m : Int) + 1))
      rw [inT_snoc_in HX.out]
      simpa using this
    · have e : ((s.T x).m == m) = false := by simpa using hx
      have HX := Lib.hid hx
      clear hx
      gi_wp2
      refine ⟨KeepsFrom.refl _ _, K2.refl _ _ _, ⟨hv0, ?_, hB, hs⟩⟩
      rw [inT_snoc_out HX.out]
      exact hv1
  case done =>
    rintro D ys W hD rfl ⟨hv0, hv1, hB, hs⟩ hK
    have hc1 := hv1.cell
    gi_wp2
    refine ⟨by simp, .inl ⟨_, _, rfl, run_takeDeferred hK, ?_⟩⟩
    exact ⟨_, results_tmp rfl _ _ _, rfl, hB.trans (belowK_b (w := w) (Nat.le_refl _) W D _ _ (by simp at hD; omega) hK rfl rfl)⟩
  case stop =>
    rintro D c pre W _ _ h _
    exact h.elim
end Go.Proofs.Ytfmhiamgfhdmmaa
