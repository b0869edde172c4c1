/- The walks of Room, Count and In. -/
import Derived.Test.YtfmhiamgfhdmmaaEach
namespace Go.Proofs.Ytfmhiamgfhdmmaa
open Go.RowKit Go.Shelf

attribute [local go_sem] Oper.semAt_some

theorem seq_in (F : Fence) (n : Nat) (h25 : F.fn 25) (hro : F.round = none) (p : Option Addr) (w : World) :
    CallsIn F n Try.prog 25 #[.pointer p] w fun e w' => e = .returned (.func (.func 29) #[] #[.pointer (some ⟨w.heap.size, 0, none⟩)]) ∧ w' = w.alloc (.cells #[.pointer p] 23) := by
  refine callsIn_of_wp Try.func25 rfl h25 ?_ hro
  simp only [Try.ntmps25, List.size_toArray, List.length_cons, List.length_nil, Nat.reduceAdd, Nat.reduceSub, Array.replicate_succ, Array.replicate_zero, List.push_toArray, List.append_toArray, List.nil_append, List.cons_append]
  gi_wp2
  go_ret
  exact ⟨rfl, rfl⟩

def encs (T : Nat → Sl) (x : Nat) : Array Value := #[.int .i64 ((x / 8 : Nat) : Int), (T x).file]
theorem each_stops (F : Fence) (n : Nat) (h29 : F.fn 29) (hro : F.round = none) (hn : 1 ≤ n) (Bm b : Nat) (s : TS) (w : World) (hBm : Bm < w.heap.size)
    (hB : w.cell? ⟨Bm, 0, none⟩ = some (.pointer (some ⟨b, 0, none⟩))) (hm : IsTb w b s) :
    SeqStopsK F n Try.prog 29 #[.pointer (some ⟨Bm, 0, none⟩)] (encs s.T) (K2 Bm b) (fun ys => ys = told s.T 64) (fun _ => True) 64 w := fun l J Jx W hW hab _ hY h0 => by
  refine (each1_in F n h29 hro hn l Bm b s J Jx W hab hY (by have := hW.size; omega) ((hW.cell (p := ⟨Bm, 0, none⟩) hBm).trans hB) (hm.below hW) h0).mono ?_
  rintro e W' ⟨he, ⟨ys, rfl, hj⟩ | ⟨pre, _, hj⟩⟩
  · exact ⟨he, .inl ⟨_, rfl, hj⟩⟩
  · exact ⟨he, .inr ⟨pre, trivial, hj⟩⟩
theorem K2.put {p q B : Nat} (hp : p < B) (hq : q < B) (W : World) (l : Nat) (o o' : Obj) (hl : B ≤ l) (_h : W.heap[l]? = some o) (_ : o.isCells = false) (_ : o.isWalk = false) : K2 p q W (W.putObj l o') := by
  have g := grownBy_putObj' W l o'
  exact ⟨g.size, World.putObj_heap_other (by omega), World.putObj_heap_other (by omega)⟩
theorem K2.set {p q x : Nat} {A B : World} (h : K2 p q A B) (hp : x ≠ p) (hq : x ≠ q) (v : Value) : K2 p q A (B.setCell ⟨x, 0, none⟩ v) :=
  h.trans ⟨by simp, Below.heap_setCell _ _ _ _ (fun e => hp e.symm), Below.heap_setCell _ _ _ _ (fun e => hq e.symm)⟩

theorem proc_in (F : Fence) (m : Nat) (h27 : F.fn 27) (hro : F.round = none) (n : Int) (hn : 0 ≤ n ∧ n < 8) (w : World) : CallsIn F m Try.prog 27 #[.int .i64 n] w fun e w' => e = .returned (.bool true) ∧ w = w' := by
  have d1 : decide (n ≥ 0) = true := by simpa using hn.1
  have d2 : decide (n < 8) = true := by simpa using hn.2
  refine callsIn_of_wp Try.func27 rfl h27 ?_ hro
  simp only [Try.ntmps27, List.size_toArray, List.length_cons, List.length_nil, Nat.reduceAdd, Nat.reduceSub, Array.replicate_succ, Array.replicate_zero, List.push_toArray, List.append_toArray, List.nil_append, List.cons_append]
  gi_wp2
  go_ret
  exact ⟨rfl, rfl⟩

def cntP (l : List Nat) (p : Nat) : Nat := (l.filter fun x => x / 8 == p).length
/-- How many are open; how many of one process. -/
def cntT (T : Nat → Sl) : Nat := (told T 64).length
def ownT (T : Nat → Sl) (p : Nat) : Nat := cntP (told T 64) p
def roomOf (s : TS) (p : Nat) : Int := if 8 ≤ ownT s.T p then 41 else if s.most ≤ (cntT s.T : Int) then 40 else 0

set_option maxRecDepth 100000 in
set_option maxHeartbeats 2000000 in
theorem count_in (F : Fence) (n : Nat) (h13 : F.fn 13) (h25 : F.fn 25) (h29 : F.fn 29) (hro : F.round = none) (hn : 3 ≤ n) (b : Nat) (s : TS) (w : World) (h : IsTb w b s) :
    CallsIn F n Try.prog 13 #[.pointer (some ⟨b, 0, none⟩)] w fun e w' => e = .returned (.int .i64 (cntT s.T)) ∧ Below w.heap.size w w' := by
  have h1 : 1 ≤ n := by omega
  have H := Lib.hid h
  have hlb := h.lt
  clear h
  refine callsIn_of_wp_marks Try.func13 rfl h13 ?_ hro
  simp only [Try.ntmps13, List.size_toArray, List.length_cons, List.length_nil, Nat.reduceAdd, Nat.reduceSub, Array.replicate_succ, Array.replicate_zero, List.push_toArray, List.append_toArray, List.nil_append, List.cons_append]
  gi_wp2_with (gi_at_call 25; refine (seq_in F (n - 1) h25 hro _ _).mono ?_; rintro e w' ⟨rfl, rfl⟩)
  have bL := Boxed.new w 3 (.int .i64 0)
  have bM := Boxed.new (w.alloc (.cells #[.int .i64 0] 3)) 23 (.pointer (some ⟨b, 0, none⟩))
  rw [World.size_alloc] at bM
  have hB0 : Below w.heap.size w ((w.alloc (.cells #[.int .i64 0] 3)).alloc (.cells #[.pointer (some ⟨b, 0, none⟩)] 23)) := ((Below.refl _ w).alloc (Nat.le_refl _) _).alloc (by simp) _
  refine wpIn_rangeFunc_ownG hro h1 (gf := 29) (lb := #[.pointer (some ⟨w.heap.size + 1, 0, none⟩)]) rfl h29 (enters_of Try.func29 (by kernel_rfl) rfl)
    (each_stops F (n - 1) h29 hro (by omega) (w.heap.size + 1) b s _ (by simp) bM.cell (H.out.below hB0)) K2.trans (K2.put (by simp) (by simp; omega)) (Below.refl _ _) (fun _ => rfl)
    (fun pre W => Boxed W w.heap.size 3 (.int .i64 (pre.length : Int)) ∧ Below w.heap.size w W)
    (fun _ _ _ => False)
    (OwnFrom.and (Own.from (boxed_own w.heap.size 3 (fun pre : List Nat => .int .i64 (pre.length : Int))) _) (ownFrom_below (Nat.le_refl _) (by simp; omega)))
    (fun _ _ _ _ _ hs _ _ => hs)
    ⟨bL.alloc _, hB0⟩
    (fun x => { tmps := #[.pointer (some ⟨b, 0, none⟩), undef, .int .i64 0, .pointer (some ⟨w.heap.size, 0, none⟩), .pointer (some ⟨b, 0, none⟩), .func (.func 29) #[] #[.pointer (some ⟨w.heap.size + 1, 0, none⟩)], .int .i64 ((x / 8 : Nat) : Int), (s.T x).file, undef, undef, undef], defers := [] }) ?assign ?body ?done ?stop
  case assign =>
    intro l x W K hK
    gi_wp2
    simpa [encs] using hK
  case body =>
    rintro l pre x W ⟨hv, hB⟩ hlt
    have hc := hv.cell
    have hf := hv.frozen
    have hlt' : pre.length ≤ 64 := by omega
    gi_wp2
    refine ⟨(KeepsOthers.setCell _ _ _).from _, (K2.refl _ _ _).set (by omega) (by omega) _, ?_, hB.setCell (p := ⟨w.heap.size, 0, none⟩) (Nat.le_refl _) _⟩
    have := hv.set (.int .i64 ((pre.length : Int) + 1))
    simpa using this
  case done =>
    rintro D ys W hD rfl ⟨hv, hB⟩ hK
    have hc := hv.cell
    gi_wp2
    refine ⟨by simp, .inl ⟨_, _, rfl, run_takeDeferred hK, ?_⟩⟩
    exact ⟨_, results_tmp rfl _ _ _, rfl, hB.trans (belowK_b (w := w) (Nat.le_refl _) W D _ _ (by simp at hD; omega) hK rfl rfl)⟩
  case stop =>
    rintro D c pre W _ _ h _
    exact h.elim
end Go.Proofs.Ytfmhiamgfhdmmaa
