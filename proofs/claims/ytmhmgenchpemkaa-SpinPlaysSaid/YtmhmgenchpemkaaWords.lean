/- The walk of (*cell.Memory).Words: a list in new memory of what the cells hold. -/
import Derived.RangeFuncBox
import Derived.RangeFuncLeaves
import Derived.RangeFuncCalls
import Derived.RangeFuncBound
import Derived.Shelf.Abstract
import Derived.WalkKit
import Derived.OwnWalkIn
import Derived.TacticsInMore
import Derived.LoopNIn
import Derived.LoopIn
import Derived.Maps.AppendAt
import Derived.Test.YtmhmgenchpemkaaMem2
namespace Go.Proofs.Ytmhmgenchpemkaa
open Go.RowKit Go.Shelf

attribute [local go_sem] Oper.semAt_some

/-- What has come when k rounds are over. -/
def upto {α : Type} (f : Nat → α) (k : Nat) : List α := (List.range k).map f
theorem upto_succ {α : Type} (f : Nat → α) (k : Nat) : upto f (k + 1) = upto f k ++ [f k] := by simp [upto, List.range_succ]
theorem upto_length {α : Type} (f : Nat → α) (k : Nat) : (upto f k).length = k := by simp [upto]
theorem upto_all (zs : List Int) : (upto (fun j => (j, zs.getD j 0)) zs.length).map (·.2) = zs := by
  apply List.ext_getElem
  · simp [upto]
  · intro i h1 h2
    simp [upto, h2]

theorem upto_row (zs : List Int) : ((upto (fun j => (j, zs.getD j 0)) zs.length).map fun x => Value.int .i64 x.2) = zs.map (Value.int .i64) := by
  conv => rhs; rw [← upto_all zs]
  rw [List.map_map]; rfl

set_option maxRecDepth 100000 in
set_option maxHeartbeats 2000000 in
theorem each1_in (F : Fence) (n : Nat) (h24 : F.fn 41) (hro : F.round = none) (hn : 1 ≤ n) (l Bm n₀ b c len : Nat) (f : Nat → Int) (hlen : len ≤ 64) (_hb : b < n₀) (hc : c < n₀) (J Jx : List (Nat × Int) → World → Prop)
    (hY : ∀ pre x W, J pre W → pre.length < len → YieldAt F (n - 1) Try.prog l #[.int .i64 (x.1 : Int), .int .i64 x.2] W fun e W' =>
      (e = .returned (.bool true) ∧ J (pre ++ [x]) W' ∧ Below n₀ W W') ∨ (e = .returned (.bool false) ∧ Jx (pre ++ [x]) W'))
    (W : World) (hBm : W.cell? ⟨Bm, 0, none⟩ = some (.pointer (some ⟨b, 0, none⟩))) (hBb : W.cell? ⟨b, 0, none⟩ = some (.slice (some ⟨c, 0, none⟩) len len)) (hcs : ∀ j, j < len → W.cell? ⟨c, j, none⟩ = some (.int .i64 (f j))) (h0 : J [] W) :
    CallsIn F n Try.prog 41 #[.func (.yield l) #[] #[], .pointer (some ⟨Bm, 0, none⟩)] W fun e W' => (∃ v, e = .returned v) ∧
      ((∃ ys, ys = upto (fun j => (j, f j)) len ∧ J ys W') ∨ (∃ pre, (∃ k, k ≤ len ∧ pre = upto (fun j => (j, f j)) k) ∧ Jx pre W')) := by
  refine callsIn_of_wp Try.func41 rfl h24 ?_ hro
  simp only [Try.ntmps41, List.size_toArray, List.length_cons, List.length_nil, Nat.reduceAdd, Nat.reduceSub, Array.replicate_succ, Array.replicate_zero, List.push_toArray, List.append_toArray, List.nil_append, List.cons_append]
  gi_wp2
  gi_loopw [10] (fun i wr => ∃ k : Nat, k ≤ len ∧ i = .int .i64 k ∧ J (upto (fun j => (j, f j)) k) wr ∧ Below n₀ W wr)
    (fun i _ => len - (intOf i).toNat)
  case atStart => exact ⟨0, Nat.zero_le _, rfl, h0, Below.refl _ _⟩
  case round =>
    obtain ⟨k, hk, rfl, hJs, hnx⟩ := hrel
    by_cases hlt : k < len
    · have hcx' : wr.cell? ⟨c, k, none⟩ = some (.int .i64 (f k)) := (hnx.cell (p := ⟨c, k, none⟩) hc).trans (hcs k hlt)
      obtain ⟨fn, tmps, assign, body, hy, hR⟩ := hY _ (k, f k) wr hJs (by rw [upto_length]; exact hlt)
      dsimp only at hy
      gi_wp2
      refine hR.mono ?_
      rintro e W3 (⟨rfl, hJ3, hk3⟩ | ⟨rfl, hJx3⟩)
      · gi_wp2
        go_roundw
        case rel => exact ⟨k + 1, by omega, by simp, by rw [upto_succ]; exact hJ3, hnx.trans hk3⟩
        case measure => simp [intOf]; omega
      · gi_wp2
        refine bodyPost_ret (results_none rfl _ _ _) rfl ?_
        exact ⟨⟨_, rfl⟩, .inr ⟨_, ⟨k + 1, by omega, (upto_succ _ _).symm⟩, hJx3⟩⟩
    · obtain rfl : k = len := by omega
      gi_wp2
      go_end0
      exact ⟨⟨_, rfl⟩, .inl ⟨_, rfl, hJs⟩⟩

theorem each_in (F : Fence) (n : Nat) (h22 : F.fn 30) (hro : F.round = none) (p : Option Addr) (w : World) :
    CallsIn F n Try.prog 30 #[.pointer p] w fun e w' => e = .returned (.func (.func 41) #[] #[.pointer (some ⟨w.heap.size, 0, none⟩)]) ∧ w' = w.alloc (.cells #[.pointer p] 23) := by
  refine callsIn_of_wp Try.func30 rfl h22 ?_ hro
  simp only [Try.ntmps30, List.size_toArray, List.length_cons, List.length_nil, Nat.reduceAdd, Nat.reduceSub, Array.replicate_succ, Array.replicate_zero, List.push_toArray, List.append_toArray, List.nil_append, List.cons_append]
  gi_wp2
  go_ret
  exact ⟨rfl, rfl⟩

theorem each_stops (F : Fence) (n : Nat) (h24 : F.fn 41) (hro : F.round = none) (hn : 1 ≤ n) (Bm n₀ b c : Nat) (s : MS) (w : World) (hBm : Bm < w.heap.size) (_hn₀ : n₀ ≤ w.heap.size) (hb : b < n₀) (hc : c < n₀)
    (hB : w.cell? ⟨Bm, 0, none⟩ = some (.pointer (some ⟨b, 0, none⟩))) (hm : IsMem w b c s) :
    SeqStopsK F n Try.prog 41 #[.pointer (some ⟨Bm, 0, none⟩)] (fun x : Nat × Int => #[Value.int .i64 (x.1 : Int), .int .i64 x.2]) (Below n₀) (fun ys => ys = upto (fun j => (j, s.ws.getD j 0)) s.ws.length) (fun _ => True) s.ws.length w := fun l J Jx W hW _ _ hY h0 => by
  have m' : IsMem W b c s := hm.frm (Frm.of_below hW) (by simp) (by simp) (l := [])
  refine (each1_in F n h24 hro hn l Bm n₀ b c s.ws.length (fun j => s.ws.getD j 0) hm.le hb hc J Jx hY W ((hW.cell (p := ⟨Bm, 0, none⟩) hBm).trans hB) (by rw [m'.hb.cell 0]; rfl) (fun j hj => (m'.hc.cell j).trans (ints_get _ _ hj)) h0).mono ?_
  rintro e W' ⟨he, ⟨ys, rfl, hj⟩ | ⟨pre, _, hj⟩⟩
  · exact ⟨he, .inl ⟨_, rfl, hj⟩⟩
  · exact ⟨he, .inr ⟨pre, trivial, hj⟩⟩

/-- A list of numbers in new memory: block g, from its head on. -/
def NewList (w W' : World) (g : Nat) (l : List Int) : Prop := w.heap.size ≤ g ∧ ∃ cs : Array Value, Holds W' g cs ∧ ∀ j, j < l.length → cs[j]? = some (.int .i64 (l.getD j 0))
def WordsPost (w : World) (l : List Int) (e : Ending) (W' : World) : Prop := ∃ g, e = .returned (.slice (some ⟨g, 0, none⟩) l.length l.length) ∧ NewList w W' g l ∧ Below w.heap.size w W'

theorem clip_in (F : Fence) (n : Nat) (h23 : F.fn 31) (hro : F.round = none) (p : Addr) (k cap : Nat) (w : World) (hk : k ≤ cap) (_hc : cap ≤ 9223372036854775807) :
    CallsIn F n Try.prog 31 #[.slice (some p) k cap] w fun e w' => e = .returned (.slice (some p) k k) ∧ w = w' := by
  refine callsIn_of_wp Try.func31 rfl h23 ?_ hro
  simp only [Try.ntmps31, List.size_toArray, List.length_cons, List.length_nil, Nat.reduceAdd, Nat.reduceSub, Array.replicate_succ, Array.replicate_zero, List.push_toArray, List.append_toArray, List.nil_append, List.cons_append]
  gi_wp2
  go_ret
  exact ⟨rfl, rfl⟩

theorem own_shape {w W : World} {v : Value} {l : List Int} (hr : W.ownsRow w.heap.size 2 1 v l.length (l.map (Value.int .i64))) (hpos : 1 ≤ l.length) :
    ∃ g cap, v = .slice (some ⟨g, 0, none⟩) l.length cap ∧ l.length ≤ cap ∧ cap ≤ maxLen := by
  obtain ⟨_, h | ⟨g, cap, cur, rfl, hg, hh, h1, h2, h3, h4⟩⟩ := hr
  · omega
  · exact ⟨g, cap, rfl, h1, h2⟩
theorem own_list {w W : World} {g cap : Nat} {l : List Int} (hr : W.ownsRow w.heap.size 2 1 (.slice (some ⟨g, 0, none⟩) l.length cap) l.length (l.map (Value.int .i64))) : NewList w W g l := by
  obtain ⟨_, h | ⟨g', cap', cur, hv, hg, hh, h1, h2, h3, h4⟩⟩ := hr
  · cases h.1
  · cases hv
    have hsz : l.length ≤ cur.size := by rw [h3]; omega
    refine ⟨hg, cur, ⟨fun j => by simp [World.cell?, hh], fun j => by simp [World.frozen?, hh], (Array.getElem?_eq_some_iff.1 hh).1⟩, fun j hj => ?_⟩
    have e : (cur.toList.take (l.length * 1))[j]? = (l.map (Value.int .i64))[j]? := by rw [h4]
    rw [List.getElem?_take_of_lt (by omega)] at e
    rw [← Array.getElem?_toList, e]
    simp [List.getElem?_eq_getElem hj]

set_option maxRecDepth 100000 in
set_option maxHeartbeats 2000000 in
theorem words_in (F : Fence) (n : Nat) (h15 : F.fn 13) (h22 : F.fn 30) (h23 : F.fn 31) (h24 : F.fn 41) (hro : F.round = none) (hn : 3 ≤ n) (b c : Nat) (s : MS) (w : World) (h : IsMem w b c s) (hpos : 1 ≤ s.ws.length) :
    CallsIn F n Try.prog 13 #[.pointer (some ⟨b, 0, none⟩)] w (WordsPost w s.ws) := by
  have h1 : 1 ≤ n := by omega
  have H := Lib.hid h
  have hlb := h.hb.lt
  have hlc := h.hc.lt
  clear h
  obtain ⟨i0, hi, hz0, hz1, hz2⟩ := info_parts info2
  refine callsIn_of_wp_marks Try.func13 rfl h15 ?_ hro
  simp only [Try.ntmps13, List.size_toArray, List.length_cons, List.length_nil, Nat.reduceAdd, Nat.reduceSub, Array.replicate_succ, Array.replicate_zero, List.push_toArray, List.append_toArray, List.nil_append, List.cons_append]
  gi_wp2_with (gi_at_call 30; refine (each_in F (n - 1) h22 hro _ _).mono ?_; rintro e w' ⟨rfl, rfl⟩)
  have bL := Boxed.new w 35 (.slice none 0 0)
  have bM := Boxed.new (w.alloc (.cells #[.slice none 0 0] 35)) 23 (.pointer (some ⟨b, 0, none⟩))
  rw [World.size_alloc] at bM
  have hB0 : Below w.heap.size w ((w.alloc (.cells #[.slice none 0 0] 35)).alloc (.cells #[.pointer (some ⟨b, 0, none⟩)] 23)) := ((Below.refl _ w).alloc (Nat.le_refl _) _).alloc (by simp) _
  refine wpIn_rangeFunc_ownG hro h1 (gf := 41) (lb := #[.pointer (some ⟨w.heap.size + 1, 0, none⟩)]) rfl h24 (enters_of Try.func41 (by kernel_rfl) rfl)
    (each_stops F (n - 1) h24 hro (by omega) (w.heap.size + 1) w.heap.size b c s _ (by simp) (by simp; omega) hlb hlc bM.cell (H.out.frm (l := []) (Frm.of_below hB0) (by simp) (by simp))) belowK_t (belowK_b (by simp; omega)) (Below.refl _ _) (fun _ => rfl)
    (fun pre W => (∃ v, Boxed W w.heap.size 35 v ∧ W.ownsRow w.heap.size 2 1 v pre.length (pre.map fun x => Value.int .i64 x.2) ∧ True) ∧ Below w.heap.size w W)
    (fun _ _ _ => False)
    (OwnFrom.and (Own.from (holdsRow_own w.heap.size w.heap.size 35 2 1 (fun pre : List (Nat × Int) => pre.length) (fun pre => pre.map fun x => Value.int .i64 x.2) (fun _ _ => True)) _) (ownFrom_below (Nat.le_refl _) (by simp; omega)))
    (fun _ _ _ _ _ hs _ _ => hs)
    ⟨⟨_, bL.alloc _, World.ownsRow_nil _ _ _ _, trivial⟩, hB0⟩
    (fun x => { tmps := #[.pointer (some ⟨b, 0, none⟩), undef, .slice none 0 0, .pointer (some ⟨w.heap.size, 0, none⟩), undef, .int .i64 x.2, .pointer (some ⟨b, 0, none⟩), .func (.func 41) #[] #[.pointer (some ⟨w.heap.size + 1, 0, none⟩)], .int .i64 (x.1 : Int), .int .i64 x.2, undef, undef, undef, undef, undef, undef], defers := [] }) ?assign ?body ?done ?stop
  case assign =>
    intro l x W K hK
    gi_wp2
    exact hK
  case body =>
    rintro l pre x W ⟨⟨v, hv, hrow, _⟩, hB⟩ hlt
    have hc := hv.cell
    have hle := H.out.le
    gi_wp2_with (gi_at_builtin; refine wpListIn_append_own _ rfl _ _ 35 rfl w.heap.size 2 i0 (.int .i64 0) 1 8 Try.underlying35 hi hz0 hz1 hz2 rfl (by decide) _ _ _ rfl (hrow.alloc _) ⟨W.heap.size, 0, none⟩ 1 1 [.int .i64 x.2] rfl rfl (cell_one_new _ _ _) (by simp [Value.oneCell']) (by unfold maxLen; omega) (by omega) (by have := hB.size; simp; omega) ?_; intro v' w1 hown' hgrow _; obtain ⟨g', cap', rfl⟩ := ownsRow_succ hown'; obtain ⟨hv1, hv2, hr2, hk2, hb2⟩ := hv.appended (by decide) hrow hB.size (Nat.le_refl _) hown' hgrow; have hc1 := hv1.cell; have hf1 := hv1.frozen)
    exact ⟨hk2.from _, hb2, ⟨_, hv2, by simpa using hr2, trivial⟩, hB.trans hb2⟩
  case done =>
    rintro D ys W hD rfl ⟨⟨v, hv, hrow, _⟩, hB⟩ hK
    rw [upto_row, upto_length] at hrow
    obtain ⟨g, cap, rfl, hl, hm⟩ := own_shape hrow hpos
    have hnew := own_list (ownsRow_putObj hrow (.deferred none) hK rfl)
    have hc := hv.cell
    unfold maxLen at hm
    clear hrow
    gi_wp2_with (gi_at_call 31; refine (clip_in F (n - 1) h23 hro _ _ _ _ hl hm).mono ?_; rintro e w' ⟨rfl, rfl⟩)
    refine ⟨by simp, .inl ⟨_, _, rfl, run_takeDeferred hK, ?_⟩⟩
    exact ⟨_, results_tmp rfl _ _ _, g, rfl, hnew, hB.trans (belowK_b (w := w) (Nat.le_refl _) W D _ _ (by simp at hD; omega) hK rfl rfl)⟩
  case stop =>
    rintro D c pre W _ _ h _
    exact h.elim

theorem words_any (b c : Nat) (s : MS) (w : World) (h : IsMem w b c s) (hpos : 1 ≤ s.ws.length) :
    Calls Try.prog 13 #[.pointer (some ⟨b, 0, none⟩)] w (WordsPost w s.ws) :=
  (callsIn_wide (n := 3)).1 (words_in Fence.wide 3 trivial trivial trivial trivial rfl (by omega) b c s w h hpos)
end Go.Proofs.Ytmhmgenchpemkaa
