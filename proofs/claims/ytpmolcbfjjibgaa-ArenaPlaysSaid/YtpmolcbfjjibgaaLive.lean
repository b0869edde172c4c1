/- The walk of (*arena.Arena).Live: a list in new memory of the handles of all live slots. -/
import Derived.RangeFuncBox
import Derived.RangeFuncLeaves
import Derived.RangeFuncCalls
import Derived.RangeFuncBound
import Derived.RangeFuncNested
import Derived.Shelf.Abstract
import Derived.OwnWalkIn
import Derived.TacticsInMore
import Derived.LoopNIn
import Derived.LoopIn
import Derived.Maps.AppendAt
import Derived.Test.YtpmolcbfjjibgaaCalls
import Derived.Test.YtpmolcbfjjibgaaElder
namespace Go.Proofs.Ytpmolcbfjjibgaa
open Go.RowKit Go.Shelf

attribute [local go_sem] Oper.semAt_some

/-- The handles of the live slots below k. -/
def told (sl : List (Int × Int)) (k : Nat) : List (Nat × Int) := ((List.range k).filter fun j => (sl.getD j (0, 0)).1 % 2 == 1).map fun j => (j, (sl.getD j (0, 0)).1)
theorem told_even {sl : List (Int × Int)} {k : Nat} (h : (sl.getD k (0, 0)).1 % 2 ≠ 1) : told sl (k + 1) = told sl k := by
  have : ((sl.getD k (0, 0)).1 % 2 == 1) = false := by simpa using h
  simp only [told, List.range_succ, List.filter_append, List.filter_cons, this, List.filter_nil, Bool.false_eq_true, if_false, List.append_nil]
theorem told_odd {sl : List (Int × Int)} {k : Nat} (h : (sl.getD k (0, 0)).1 % 2 = 1) : told sl (k + 1) = told sl k ++ [(k, (sl.getD k (0, 0)).1)] := by
  have : ((sl.getD k (0, 0)).1 % 2 == 1) = true := by simpa using h
  simp only [told, List.range_succ, List.filter_append, List.filter_cons, this, List.filter_nil, if_true, List.map_append, List.map_cons, List.map_nil]
theorem told_length (sl : List (Int × Int)) (k : Nat) : (told sl k).length ≤ k := by
  unfold told; rw [List.length_map]; exact Nat.le_trans (List.length_filter_le _ _) (by simp)
theorem hp_told (sl : List (Int × Int)) : hp (told sl sl.length) = handles sl := by
  unfold hp told handles; rw [List.map_map]; rfl

theorem AbidesFrom.new {β : Type} {B : Nat} {J : β → World → Prop} (h : AbidesFrom B J) {s : β} {w : World} (_hB : B ≤ w.heap.size) (hj : J s w) (o : Obj) : J s (w.alloc o) :=
  h s w _ none hj ⟨rfl, rfl, rfl, by simp, fun k hk _ => ((Below.refl w.heap.size w).alloc (Nat.le_refl _) o).block k hk⟩ (by simp)

set_option maxRecDepth 100000 in
set_option maxHeartbeats 2000000 in
theorem live1_in (F : Fence) (n : Nat) (h29 : F.fn 29) (hro : F.round = none) (hn : 1 ≤ n) (l Bm n₀ b c : Nat) (sl : List (Int × Int)) (hlen : sl.length ≤ 64) (_hb : b < n₀) (hc : c < n₀) (J Jx : List (Nat × Int) → World → Prop)
    (W : World) (hn₀ : n₀ ≤ W.heap.size) (hab : AbidesFrom W.heap.size J)
    (hY : ∀ pre x W, J pre W → pre.length < sl.length → YieldAt F (n - 1) Try.prog l #[.agg #[.int .i64 (x.1 : Int), .int .i64 x.2]] W fun e W' =>
      (e = .returned (.bool true) ∧ J (pre ++ [x]) W' ∧ Below n₀ W W') ∨ (e = .returned (.bool false) ∧ Jx (pre ++ [x]) W'))
    (hBm : W.cell? ⟨Bm, 0, none⟩ = some (.pointer (some ⟨b, 0, none⟩))) (hBb : W.cell? ⟨b, 0, none⟩ = some (.slice (some ⟨c, 0, none⟩) sl.length sl.length))
    (hcs : ∀ j, j < sl.length → W.cell? ⟨c, j * 2, none⟩ = some (.int .i64 (sl.getD j (0, 0)).1) ∧ W.cell? ⟨c, j * 2 + 1, none⟩ = some (.int .i64 (sl.getD j (0, 0)).2)) (h0 : J [] W) :
    CallsIn F n Try.prog 29 #[.func (.yield l) #[] #[], .pointer (some ⟨Bm, 0, none⟩)] W fun e W' => (∃ v, e = .returned v) ∧
      ((∃ ys, ys = told sl sl.length ∧ J ys W') ∨ (∃ pre, (∃ k, k ≤ sl.length ∧ pre = told sl k) ∧ Jx pre W')) := by
  refine callsIn_of_wp Try.func29 rfl h29 ?_ hro
  simp only [Try.ntmps29, List.size_toArray, List.length_cons, List.length_nil, Nat.reduceAdd, Nat.reduceSub, Array.replicate_succ, Array.replicate_zero, List.push_toArray, List.append_toArray, List.nil_append, List.cons_append]
  gi_wp2
  gi_loopw [10] (fun i wr => ∃ k : Nat, k ≤ sl.length ∧ i = .int .i64 k ∧ J (told sl k) wr ∧ Below n₀ W wr)
    (fun i _ => sl.length - (intOf i).toNat)
  case atStart => exact ⟨0, Nat.zero_le _, rfl, h0, Below.refl _ _⟩
  case round =>
    obtain ⟨k, hk, rfl, hJs, hnx⟩ := hrel
    by_cases hlt : k < sl.length
    · have hc0 := (hnx.cell (p := ⟨c, k * 2, none⟩) hc).trans (hcs k hlt).1
      have hc1 := (hnx.cell (p := ⟨c, k * 2 + 1, none⟩) hc).trans (hcs k hlt).2
      have hsz := hnx.size
      obtain ⟨g, hg⟩ : ∃ g, (sl.getD k (0, 0)).1 = g := ⟨_, rfl⟩
      obtain ⟨v, hv⟩ : ∃ v, (sl.getD k (0, 0)).2 = v := ⟨_, rfl⟩
      rw [hg] at hc0
      rw [hv] at hc1
      clear hv
      have hcx : ¬ c = wr.heap.size := by omega
      have hJa : J (told sl k) (wr.alloc (.cells #[.int .i64 g, .int .i64 v] 68)) := AbidesFrom.new hab hsz hJs _
      have hBa : Below n₀ W (wr.alloc (.cells #[.int .i64 g, .int .i64 v] 68)) := hnx.alloc (by omega) _
      by_cases hodd : g % 2 = 1
      · have hA : bits .and .i64 g 1 = 1 := by rw [and1]; exact hodd
        obtain ⟨fn, tmps, assign, body, hy, hR⟩ := hY _ (k, g) _ hJa (Nat.lt_of_le_of_lt (told_length _ _) hlt)
        dsimp only at hy
        gi_wp2
        refine hR.mono ?_
        rintro e W3 (⟨rfl, hJ3, hk3⟩ | ⟨rfl, hJx3⟩)
        · gi_wp2
          go_roundw
          case rel => exact ⟨k + 1, by omega, by simp, by rw [told_odd (by rw [hg]; exact hodd), hg]; exact hJ3, hBa.trans hk3⟩
          case measure => simp [intOf]; omega
        · gi_wp2
          refine bodyPost_ret (results_none rfl _ _ _) rfl ?_
          exact ⟨⟨_, rfl⟩, .inr ⟨_, ⟨k + 1, by omega, by rw [told_odd (by rw [hg]; exact hodd), hg]⟩, hJx3⟩⟩
      · have hA : bits .and .i64 g 1 = 0 := by rw [and1]; omega
        gi_wp2
        refine ⟨by simp, ?_⟩
        gi_wp2
        go_roundw
        case rel => exact ⟨k + 1, by omega, by simp, by rw [told_even (by rw [hg]; exact hodd)]; exact hJa, hBa⟩
        case measure => simp [intOf]; omega
    · obtain rfl : k = sl.length := by omega
      gi_wp2
      go_end0
      exact ⟨⟨_, rfl⟩, .inl ⟨_, rfl, hJs⟩⟩

theorem seq_in (F : Fence) (n : Nat) (h27 : F.fn 27) (hro : F.round = none) (p : Option Addr) (w : World) :
    CallsIn F n Try.prog 27 #[.pointer p] w fun e w' => e = .returned (.func (.func 29) #[] #[.pointer (some ⟨w.heap.size, 0, none⟩)]) ∧ w' = w.alloc (.cells #[.pointer p] 24) := by
  refine callsIn_of_wp Try.func27 rfl h27 ?_ hro
  simp only [Try.ntmps27, List.size_toArray, List.length_cons, List.length_nil, Nat.reduceAdd, Nat.reduceSub, Array.replicate_succ, Array.replicate_zero, List.push_toArray, List.append_toArray, List.nil_append, List.cons_append]
  gi_wp2
  go_ret
  exact ⟨rfl, rfl⟩

theorem live_stops (F : Fence) (n : Nat) (h29 : F.fn 29) (hro : F.round = none) (hn : 1 ≤ n) (Bm n₀ b c : Nat) (fv : Value) (s : AS) (w : World) (base : Nat) (hBm : Bm < w.heap.size) (hn₀ : n₀ ≤ w.heap.size) (hb : b < n₀) (hc : c < n₀)
    (hB : w.cell? ⟨Bm, 0, none⟩ = some (.pointer (some ⟨b, 0, none⟩))) (hm : IsAr w base b c fv s) :
    SeqStopsK F n Try.prog 29 #[.pointer (some ⟨Bm, 0, none⟩)] (fun x : Nat × Int => #[Value.agg #[.int .i64 (x.1 : Int), .int .i64 x.2]]) (Below n₀) (fun ys => ys = told s.sl s.sl.length) (fun _ => True) s.sl.length w := fun l J Jx W hW hab _ hY h0 => by
  have m' : IsAr W base b c fv s := hm.frm (l := []) (Frm.of_below hW) (by simp)
  refine (live1_in F n h29 hro hn l Bm n₀ b c s.sl hm.le hb hc J Jx W (by have := hW.size; omega) hab hY ((hW.cell (p := ⟨Bm, 0, none⟩) hBm).trans hB) (by rw [m'.hb.cell 0]; rfl) (fun j hj => ⟨(m'.hc.cell _).trans (pairs_get _ _ hj).1, (m'.hc.cell _).trans (pairs_get _ _ hj).2⟩) h0).mono ?_
  rintro e W' ⟨he, ⟨ys, rfl, hj⟩ | ⟨pre, _, hj⟩⟩
  · exact ⟨he, .inl ⟨_, rfl, hj⟩⟩
  · exact ⟨he, .inr ⟨pre, trivial, hj⟩⟩

theorem cells_two (w : World) (x y : Value) (t : TypeId) : ∀ j u, [x, y][j]? = some u → (w.alloc (.cells #[x, y] t)).cell? ((⟨w.heap.size, 0, none⟩ : Addr).add j) = some u := by
  intro j u hj
  match j, hj with
  | 0, hj => simp at hj; subst hj; simp [Addr.add]
  | 1, hj => simp at hj; subst hj; simp [Addr.add]

def LivePost (w : World) (sl : List (Int × Int)) (e : Ending) (W' : World) : Prop := ∃ v, e = .returned v ∧ Win W' w.heap.size 30 2 v (handles sl).length (prs (handles sl)) ∧ Below w.heap.size w W'

set_option maxRecDepth 100000 in
set_option maxHeartbeats 2000000 in
theorem live_in (F : Fence) (n : Nat) (h13 : F.fn 13) (h27 : F.fn 27) (h29 : F.fn 29) (hro : F.round = none) (hn : 3 ≤ n) (base b c : Nat) (fv : Value) (s : AS) (w : World) (h : IsAr w base b c fv s) :
    CallsIn F n Try.prog 13 #[.pointer (some ⟨b, 0, none⟩)] w (LivePost w s.sl) := by
  have h1 : 1 ≤ n := by omega
  have H := Lib.hid h
  have hlb := h.hb.lt
  have hlc := h.hc.lt
  clear h
  obtain ⟨i0, hi, hz0, hz1, hz2⟩ := info_parts info30
  refine callsIn_of_wp_marks Try.func13 rfl h13 ?_ hro
  simp only [Try.ntmps13, List.size_toArray, List.length_cons, List.length_nil, Nat.reduceAdd, Nat.reduceSub, Array.replicate_succ, Array.replicate_zero, List.push_toArray, List.append_toArray, List.nil_append, List.cons_append]
  gi_wp2_with (gi_at_call 27; refine (seq_in F (n - 1) h27 hro _ _).mono ?_; rintro e w' ⟨rfl, rfl⟩)
  have bL := Boxed.new w 28 (.slice none 0 0)
  have bM := Boxed.new (w.alloc (.cells #[.slice none 0 0] 28)) 24 (.pointer (some ⟨b, 0, none⟩))
  rw [World.size_alloc] at bM
  have hB0 : Below w.heap.size w ((w.alloc (.cells #[.slice none 0 0] 28)).alloc (.cells #[.pointer (some ⟨b, 0, none⟩)] 24)) := ((Below.refl _ w).alloc (Nat.le_refl _) _).alloc (by simp) _
  refine wpIn_rangeFunc_ownH hro h1 (gf := 29) (lb := #[.pointer (some ⟨w.heap.size + 1, 0, none⟩)]) rfl h29 (enters_of Try.func29 (by kernel_rfl) rfl)
    (live_stops F (n - 1) h29 hro (by omega) (w.heap.size + 1) w.heap.size b c fv s _ base (by simp) (by simp; omega) hlb hlc bM.cell (H.out.frm (l := []) (Frm.of_below hB0) (by simp))) belowK_t (belowK_b (by simp; omega)) (Below.refl _ _) (fun _ => rfl)
    (fun pre W => (∃ v, Boxed W w.heap.size 28 v ∧ W.ownsRow w.heap.size 30 2 v pre.length (prs (hp pre)) ∧ True) ∧ Below w.heap.size w W)
    (fun _ _ _ => False)
    (OwnFrom.and (Own.from (holdsRow_own w.heap.size w.heap.size 28 30 2 (fun pre : List (Nat × Int) => pre.length) (fun pre => prs (hp pre)) (fun _ _ => True)) _) (ownFrom_below (Nat.le_refl _) (by simp; omega)))
    (fun _ _ _ _ _ hs _ _ => hs)
    ⟨⟨_, bL.alloc _, World.ownsRow_nil _ _ _ _, trivial⟩, hB0⟩
    (fun x a' W => ∃ B, W.heap[B]? = some (.cells #[.int .i64 (x.1 : Int), .int .i64 x.2] 30 (0, 0)) ∧ a' = { tmps := #[.pointer (some ⟨b, 0, none⟩), undef, .slice none 0 0, .pointer (some ⟨w.heap.size, 0, none⟩), .pointer (some ⟨B, 0, none⟩), .pointer (some ⟨b, 0, none⟩), .func (.func 29) #[] #[.pointer (some ⟨w.heap.size + 1, 0, none⟩)], .agg #[.int .i64 (x.1 : Int), .int .i64 x.2], undef, undef, undef, undef, undef], defers := [] })
    ?hax ?assign ?body ?done ?stop
  case hax =>
    rintro x a' _ X Y row ⟨B, h2, h3⟩ hg hrow
    refine ⟨B, (hg.block B (Array.getElem?_eq_some_iff.1 h2).1 fun e => ?_).trans h2, h3⟩
    obtain ⟨_, o, ho, hc⟩ := hrow B e.symm
    rw [h2] at ho; cases ho; cases hc
  case assign =>
    rintro l pre x W K ⟨⟨v, hv, hrow, _⟩, hB⟩ hK
    gi_wp2
    exact hK _ _ ((KeepsOthers.alloc _ _).from _) ((Below.refl _ W).alloc hB.size _) ⟨⟨v, hv.alloc _, hrow.alloc _, trivial⟩, hB.alloc hB.size _⟩ ⟨W.heap.size, World.alloc_heap_new _ _, rfl⟩
  case body =>
    rintro l pre x a' W hl hr ⟨⟨v, hv, hrow, _⟩, hB⟩ ⟨B, hBc, rfl⟩ hlt
    have hc := hv.cell
    have hle := H.out.le
    have hb0 : W.cell? ⟨B, 0, none⟩ = some (.int .i64 (x.1 : Int)) := by simp [World.cell?, hBc]
    have hb1 : W.cell? ⟨B, 1, none⟩ = some (.int .i64 x.2) := by simp [World.cell?, hBc]
    gi_wp2_with (gi_at_builtin; refine wpListIn_append_own _ rfl _ _ 28 rfl w.heap.size 30 i0 _ 2 16 Try.underlying28 hi hz0 hz1 hz2 rfl (by decide) _ _ _ rfl (hrow.alloc _) ⟨W.heap.size, 0, none⟩ 1 1 [.int .i64 (x.1 : Int), .int .i64 x.2] rfl rfl (cells_two _ _ _ _) (by simp [Value.oneCell']) (by unfold maxLen; omega) (by omega) (by have := hB.size; simp; omega) ?_; intro v' w1 hown' hgrow _; obtain ⟨g', cap', rfl⟩ := ownsRow_succ hown'; obtain ⟨hv1, hv2, hr2, hk2, hb2⟩ := hv.appended (by decide) hrow hB.size (Nat.le_refl _) hown' hgrow; have hc1 := hv1.cell; have hf1 := hv1.frozen)
    exact ⟨hk2.from _, hb2, ⟨_, hv2, by simpa [hp, prs, pairs] using hr2, trivial⟩, hB.trans hb2⟩
  case done =>
    rintro D ys W hD rfl ⟨⟨v, hv, hrow, _⟩, hB⟩ hK
    have hc := hv.cell
    gi_wp2
    refine ⟨by simp, .inl ⟨_, _, rfl, run_takeDeferred hK, ?_⟩⟩
    refine ⟨_, results_tmp rfl _ _ _, v, rfl, ?_, hB.trans (belowK_b (w := w) (Nat.le_refl _) W D _ _ (by simp at hD; omega) hK rfl rfl)⟩
    have := Win.of_own (ownsRow_putObj hrow (.deferred none) hK rfl)
    rw [← hp_told, hp_length]
    exact this
  case stop =>
    rintro D c pre W _ _ h _
    exact h.elim
theorem ar_live {base b : Nat} {l : List Nat} {s : AS} {w : World} (h : Ar w base b l s) : Calls Try.prog 13 #[.pointer (some ⟨b, 0, none⟩)] w (LivePost w s.sl) := by
  obtain ⟨c, fv, h, _⟩ := h
  exact (callsIn_wide (n := 3)).1 (live_in Fence.wide 3 trivial trivial trivial rfl (by omega) base b c fv s w h)
end Go.Proofs.Ytpmolcbfjjibgaa
