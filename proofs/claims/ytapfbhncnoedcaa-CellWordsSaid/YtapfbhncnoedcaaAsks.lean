/- The walk of CellWords. -/
import Derived.Test.YtapfbhncnoedcaaKnown
import Derived.Test.YtapfbhncnoedcaaWords
import Derived.Test.YtapfbhncnoedcaaRef
import Derived.Deep.RegionHeld3
namespace Go.Proofs.Ytapfbhncnoedcaa
open Go.RowKit

/-- A slice of asks that came in: ask i's four numbers. -/
def Asks (w : World) (a : Option Addr) (len : Nat) (g : Nat → Nat → Int) : Prop :=
  len = 0 ∨ ∃ b off, a = some ⟨b, off, none⟩ ∧ b < w.heap.size ∧ ∀ i j, i < len → j < 4 → w.cell? ⟨b, off + i * 4 + j, none⟩ = some (.int .i64 (g i j)) ∧ -9223372036854775808 ≤ g i j ∧ g i j ≤ 9223372036854775807

/-- Between two rounds: the array holds what the memory holds. -/
def WInv (w wr : World) (s : MS) (x : Nat) : Prop := IsMem wr (w.heap.size + 1) w.heap.size s ∧ Holds wr x (ints s.ws) ∧ s.ws.length = 8 ∧ w.heap.size + 1 < x ∧ Below w.heap.size w wr

theorem WInv.stored {w wr w' : World} {s : MS} {x k : Nat} {kind v : Int} (h : WInv w wr s x) (hm : IsMem w' (w.heap.size + 1) w.heap.size (s.acc kind k v true)) (hf : Frm [w.heap.size + 1, w.heap.size] wr w') (hk : k < 8) :
    WInv w (w'.setCell ⟨x, k, none⟩ (.int .i64 v)) (s.acc kind k v true) x := by
  obtain ⟨h1, h2, h3, h4, h5⟩ := h
  have hx : x ∉ [w.heap.size + 1, w.heap.size] := by simp; omega
  refine ⟨hm.frm (l := [x]) ((Frm.refl _ _).setCell (by simp) _) (by simp; omega) (by simp; omega), ?_, by simpa [MS.acc] using h3, h4, (Below.of_frm h5 hf (by simp)).setCell (by simp; omega) _⟩
  have := (h2.frm hf hx).set k (.int .i64 v) (by rw [ints_size]; omega)
  rw [ints_set] at this
  exact this
theorem WInv.missed {w wr w' : World} {s : MS} {x k : Nat} {kind : Int} (h : WInv w wr s x) (hm : IsMem w' (w.heap.size + 1) w.heap.size (s.acc kind k (s.ws.getD k 0) false)) (hf : Frm [w.heap.size + 1, w.heap.size] wr w') :
    WInv w w' (s.acc kind k (s.ws.getD k 0) false) x := by
  obtain ⟨h1, h2, h3, h4, h5⟩ := h
  have hx : x ∉ [w.heap.size + 1, w.heap.size] := by simp; omega
  exact ⟨hm, by rw [acc_same]; exact h2.frm hf hx, by rw [acc_same]; exact h3, h4, Below.of_frm h5 hf (by simp)⟩

theorem swap_two (s : MS) (j : Nat) (old next : Int) (h : 0 ≤ (j : Int) ∧ (j : Int) < s.ws.length) : s.swap j old next = if (s.ws.getD j 0 == old) = true then (true, 0, s.acc 3 j next true) else (false, 0, s.acc 3 j (s.ws.getD j 0) false) := by
  rw [MS.swap, if_pos h, Int.toNat_natCast]; simp

theorem swap_is {b c : Nat} {s : MS} {i old next : Int} {w : World} {r : Bool × Int × MS} (hr : s.swap i old next = r) (h : IsMem w b c s) :
    Calls Try.prog 10 #[.pointer (some ⟨b, 0, none⟩), .int .i64 i, .int .i64 old, .int .i64 next] w fun e w' => e = .returned (.tuple #[.bool r.1, .int .i64 r.2.1]) ∧ IsMem w' b c r.2.2 ∧ Frm [b, c] w w' := hr ▸ swap_any b c s i old next w h
theorem IsMem.drewN {w : World} {b c : Nat} {s : MS} (h : IsMem w b c s) (n : Nat) : IsMem (w.drewN n) b c s := ⟨h.hb, h.hc, h.ne, h.le⟩
theorem Frm.drewN {l : List Nat} {a w : World} (h : Frm l a w) (n : Nat) : Frm l a (w.drewN n) := ⟨h.os, h.tape, h.output, h.size, h.block⟩
theorem WInv.drewN {w wr : World} {s : MS} {x : Nat} (h : WInv w wr s x) (n : Nat) : WInv w (wr.drewN n) s x := ⟨h.1.drewN n, h.2.1, h.2.2.1, h.2.2.2.1, ⟨h.2.2.2.2.os, h.2.2.2.2.tape, h.2.2.2.2.output, h.2.2.2.2.size, h.2.2.2.2.block⟩⟩

/-- Between two rounds of the last loop. -/
def EInv (w wr : World) (s : MS) (x g : Nat) (cs : Array Value) : Prop :=
  (∃ s' : MS, IsMem wr (w.heap.size + 1) w.heap.size s' ∧ s'.ws = s.ws) ∧ Holds wr x (ints s.ws) ∧ Holds wr g cs ∧ (s.ws.length = 8 ∧ ∀ j, j < 8 → cs[j]? = some (.int .i64 (s.ws.getD j 0))) ∧ (w.heap.size + 1 < x ∧ w.heap.size + 1 < g) ∧ Below w.heap.size w wr
theorem EInv.start {w wr w2 : World} {s : MS} {x g : Nat} {cs : Array Value} (h : WInv w wr s x) (B : Below wr.heap.size wr w2) (hg : wr.heap.size ≤ g) (hh : Holds w2 g cs) (hc : ∀ j, j < s.ws.length → cs[j]? = some (.int .i64 (s.ws.getD j 0))) : EInv w w2 s x g cs := by
  obtain ⟨h1, h2, h3, h4, h5⟩ := h
  exact ⟨⟨s, h1.frm (l := []) (Frm.of_below B) (by simp) (by simp), rfl⟩, h2.below B, hh, ⟨h3, fun j hj => hc j (by omega)⟩, ⟨h4, by have := h2.lt; omega⟩, h5.trans (B.mono h5.size)⟩
theorem EInv.drewN {w wr : World} {s : MS} {x g : Nat} {cs : Array Value} (h : EInv w wr s x g cs) (n : Nat) : EInv w (wr.drewN n) s x g cs := by
  obtain ⟨⟨s', h1, h1'⟩, h2, h3, h4, h5, h6⟩ := h
  exact ⟨⟨s', h1.drewN n, h1'⟩, h2, h3, h4, h5, ⟨h6.os, h6.tape, h6.output, h6.size, h6.block⟩⟩
theorem EInv.cells {w wr : World} {s : MS} {x g : Nat} {cs : Array Value} (h : EInv w wr s x g cs) {j : Nat} (hj : j < 8) : wr.cell? ⟨x, j, none⟩ = some (.int .i64 (s.ws.getD j 0)) ∧ wr.cell? ⟨g, j, none⟩ = some (.int .i64 (s.ws.getD j 0)) := by
  obtain ⟨_, h2, h3, h4, h5, h6⟩ := h
  exact ⟨(h2.cell j).trans (ints_get _ _ (by omega)), (h3.cell j).trans (h4.2 j hj)⟩
theorem eload {w wr : World} {s : MS} {x g : Nat} {cs : Array Value} (h : EInv w wr s x g cs) {j : Nat} (hj : j < 8) :
    Calls Try.prog 11 #[.pointer (some ⟨w.heap.size + 1, 0, none⟩), .int .i64 j] wr fun e w' => e = .returned (.tuple #[.int .i64 (s.ws.getD j 0), .int .i64 0]) ∧ EInv w w' s x g cs := by
  obtain ⟨⟨s', h1, h1'⟩, h2, h3, h4, h5, h6⟩ := h
  have e : s'.load j = (s.ws.getD j 0, 0, s'.acc 1 j (s.ws.getD j 0) true) := by rw [MS.load, if_pos (by rw [h1']; omega), Int.toNat_natCast, h1']
  refine (load_any _ _ s' j _ h1).mono ?_
  rintro e' w' ⟨rfl, hm, hf⟩
  rw [e] at hm ⊢
  have hx : x ∉ [w.heap.size + 1, w.heap.size] := by simp; omega
  have hg : g ∉ [w.heap.size + 1, w.heap.size] := by simp; omega
  exact ⟨rfl, ⟨_, hm, by show (s'.acc 1 j (s.ws.getD j 0) true).ws = _; rw [← h1', acc_same]⟩, h2.frm hf hx, h3.frm hf hg, h4, h5, Below.of_frm h6 hf (by simp)⟩

set_option maxRecDepth 100000 in
set_option maxHeartbeats 4000000 in
theorem askwords_any (a : Option Addr) (len cap : Nat) (g : Nat → Nat → Int) (w : World) (hr : Asks w a len g) (hm : len ≤ 9223372036854775807) :
    Calls Try.prog 4 #[.slice a len cap] w fun e w' => e = .returned (.bool true) ∧ Below w.heap.size w w' := by
  go_enter Try.func4, Try.ntmps4
  go_wp2_with fail
  refine (new_int 8 w (by omega) (by omega)).mono ?_
  rintro e w1 ⟨rfl, m1, B1⟩
  rw [show (8 : Int).toNat = 8 from rfl] at m1
  have M1 := Lib.hid m1
  clear m1
  go_wp2_with fail
  have hB1 := B1.size
  have W1 : Hid (WInv w (w1.alloc (.cells #[.int .i64 0, .int .i64 0, .int .i64 0, .int .i64 0, .int .i64 0, .int .i64 0, .int .i64 0, .int .i64 0] 36)) (MS.new 8) w1.heap.size) :=
    ⟨M1.out.frm (l := []) ((Frm.refl _ _).alloc _) (by simp) (by simp), Holds.new _ _ _, rfl, by have := M1.out.hb.lt; have := M1.out.hc.lt; omega, B1.alloc B1.size _⟩
  go_loopw [6] (fun iv wr => ∃ (k : Nat) (s : MS), k ≤ len ∧ k ≤ 200 ∧ iv = .int .i64 k ∧ Hid (WInv w wr s w1.heap.size)) (fun iv _ => len - (intOf iv).toNat)
  case atStart => exact ⟨0, _, by omega, by omega, rfl, W1⟩
  case round =>
    obtain ⟨k, s, hk, hk2, rfl, hW⟩ := hrel
    clear W1 M1 B1
    have hB := hW.out.2.2.2.2
    have hk0 : (0 : Int) ≤ (k : Int) := by omega
    by_cases hlt : k < len ∧ k < 200
    · obtain ⟨hl, h200⟩ := hlt
      have hl' : (k : Int) < (len : Int) := by omega
      have hd : decide ((k : Int) < (len : Int)) = true := by simpa using hl'
      rcases hr with h0 | ⟨b, off, rfl, hbs, hcell⟩
      · omega
      · obtain ⟨c0, r0⟩ := hcell k 0 hl (by omega)
        obtain ⟨c1, r1⟩ := hcell k 1 hl (by omega)
        obtain ⟨c2, r2⟩ := hcell k 2 hl (by omega)
        obtain ⟨c3, r3⟩ := hcell k 3 hl (by omega)
        rw [Nat.add_zero] at c0
        generalize g k 0 = z0 at c0 r0
        generalize g k 1 = z1 at c1 r1
        generalize g k 2 = z2 at c2 r2
        generalize g k 3 = z3 at c3 r3
        have d0 := (hB.cell (p := ⟨b, off + k * 4, none⟩) hbs).trans c0
        have d1 := (hB.cell (p := ⟨b, off + k * 4 + 1, none⟩) hbs).trans c1
        have d2 := (hB.cell (p := ⟨b, off + k * 4 + 2, none⟩) hbs).trans c2
        have d3 := (hB.cell (p := ⟨b, off + k * 4 + 3, none⟩) hbs).trans c3
        clear hcell c0 c1 c2 c3 r0 r2 r3
        go_wp2_with fail
        refine (within_any z1 0 7 wr r1.1 r1.2 (by omega) (by omega) (by omega)).mono ?_
        rintro e w2 ⟨rfl, rfl⟩
        obtain ⟨j, hj, hj8⟩ : ∃ j : Nat, 0 + z1 % (7 - 0 + 1) = (j : Int) ∧ j < 8 := ⟨(z1 % 8).toNat, by omega, by omega⟩
        rw [hj]
        clear hj r1 d1
        have hj0 : (0 : Int) ≤ (j : Int) := by omega
        have hj1 : (j : Int) < 8 := by omega
        have hin : 0 ≤ (j : Int) ∧ (j : Int) < s.ws.length := by have := hW.out.2.2.1; omega
        cases hev : (z0.tmod 2 == 0)
        · -- a swap
          go_wp2_with fail
          have hbs' : b < wr.heap.size := by have := hB.size; omega
          have hnb : b ∉ [w.heap.size + 1, w.heap.size] := by simp; omega
          have hx : w1.heap.size ∉ [w.heap.size + 1, w.heap.size] := by have := hW.out.2.2.2.1; simp; omega
          have hWd := Lib.hid (show WInv w wr.drew s w1.heap.size from ⟨⟨hW.out.1.hb, hW.out.1.hc, hW.out.1.ne, hW.out.1.le⟩, hW.out.2.1, hW.out.2.2.1, hW.out.2.2.2.1, hW.out.2.2.2.2.drew⟩)
          have hjl : j < s.ws.length := by omega
          have hEq := swap_two s j z2 z3 hin
          cases hsw : (s.ws.getD j 0 == z2)
          · rw [hsw, if_neg (by decide)] at hEq
            have EQ := Lib.hid hEq
            have SW := Lib.hid hsw
            clear hEq hsw hin
            go_region_held3 (fun w' => w'.cell? ⟨b, off + k * 4 + 2, none⟩ = some (.int .i64 z2) ∧ w'.cell? ⟨b, off + k * 4 + 3, none⟩ = some (.int .i64 z3)) (first | exact ⟨e2, e3⟩ | exact ⟨d2, d3⟩)
              (first | (go_at_call 10; refine (swap_is EQ.out hWd.out.1).mono ?_; rintro e w3 ⟨rfl, m3, f3⟩; have e2 := (World.cell?_of_block (w := wr) (a := ⟨b, off + k * 4 + 2, none⟩) (f3.block b hbs' hnb)).trans d2; have e3 := (World.cell?_of_block (w := wr) (a := ⟨b, off + k * 4 + 3, none⟩) (f3.block b hbs' hnb)).trans d3))
            have hW3 := Lib.hid (WInv.missed hWd.out m3 f3)
            have hy : w3.cell? ⟨w1.heap.size, j, none⟩ = some (.int .i64 (s.ws.getD j 0)) := ((hWd.out.2.1.frm (l := [w.heap.size + 1, w.heap.size]) f3 hx).cell j).trans (ints_get _ _ hjl)
            have sw := SW.out
            generalize s.ws.getD j 0 = y at hy sw
            clear m3 f3 d0 d2 d3 hB hx
            go_wp2_with fail
            go_quiet (fail)
            go_wp2_with fail
            go_roundw
            case rel => exact ⟨k + 1, _, by omega, by omega, by go_num, WInv.drewN hW3.out _⟩
            case measure => simp [intOf]; omega
          · rw [hsw, if_pos rfl] at hEq
            have EQ := Lib.hid hEq
            have SW := Lib.hid hsw
            clear hEq hsw hin
            go_region_held3 (fun w' => w'.cell? ⟨b, off + k * 4 + 2, none⟩ = some (.int .i64 z2) ∧ w'.cell? ⟨b, off + k * 4 + 3, none⟩ = some (.int .i64 z3)) (first | exact ⟨e2, e3⟩ | exact ⟨d2, d3⟩)
              (first | (go_at_call 10; refine (swap_is EQ.out hWd.out.1).mono ?_; rintro e w3 ⟨rfl, m3, f3⟩; have e2 := (World.cell?_of_block (w := wr) (a := ⟨b, off + k * 4 + 2, none⟩) (f3.block b hbs' hnb)).trans d2; have e3 := (World.cell?_of_block (w := wr) (a := ⟨b, off + k * 4 + 3, none⟩) (f3.block b hbs' hnb)).trans d3))
            have F3 := Lib.hid f3
            have M3 := Lib.hid m3
            have hh := hWd.out.2.1.frm (l := [w.heap.size + 1, w.heap.size]) f3 hx
            have hy : w3.cell? ⟨w1.heap.size, j, none⟩ = some (.int .i64 (s.ws.getD j 0)) := (hh.cell j).trans (ints_get _ _ hjl)
            have hfr := hh.free j
            have sw := SW.out
            generalize s.ws.getD j 0 = y at hy sw
            clear m3 f3 d0 d2 d3 hB hx hh
            go_wp2_with fail
            go_quiet (fail)
            go_wp2_with fail
            go_roundw
            case rel => exact ⟨k + 1, _, by omega, by omega, by go_num, WInv.stored hWd.out (w' := w3.drewN nq) (IsMem.drewN M3.out _) (Frm.drewN F3.out _) hj8⟩
            case measure => simp [intOf]; omega
        · -- a store
          have est : s.store j z3 = (0, s.acc 2 j z3 true) := by rw [MS.store, if_pos hin, Int.toNat_natCast]
          have EST := Lib.hid est
          clear est hin
          go_wp2_with fail
          refine (store_any _ _ s j z3 _ hW.out.1).mono ?_
          rintro e w3 ⟨rfl, m3, f3⟩
          rw [EST.out] at m3 ⊢
          have hW3 := Lib.hid (WInv.stored hW.out m3 f3 hj8)
          have d3' := (World.cell?_of_block (w := wr) (a := ⟨b, off + k * 4 + 3, none⟩) (f3.block b (by have := hB.size; show b < _; omega) (by simp; omega))).trans d3
          have hx : w1.heap.size ∉ [w.heap.size + 1, w.heap.size] := by have := hW.out.2.2.2.1; simp; omega
          obtain ⟨y, hy⟩ : ∃ y, w3.cell? ⟨w1.heap.size, j, none⟩ = some y := ⟨_, ((hW.out.2.1.frm f3 hx).cell j).trans (ints_get _ _ (by have := hW.out.2.2.1; omega))⟩
          have hfr := (hW.out.2.1.frm f3 hx).free j
          clear m3 f3 d0 d2 d3 hB hx
          go_wp2_with fail
          go_roundw
          case rel => exact ⟨k + 1, _, by omega, by omega, by go_num, hW3⟩
          case measure => simp [intOf]; omega
    · have hnl : k = len ∨ (k = 200 ∧ 200 < len) := by omega
      clear hlt hr
      rcases hnl with rfl | ⟨rfl, h200⟩
      all_goals
        go_wp2_with fail
        refine (words_any _ _ s _ hW.out.1 (by rw [hW.out.2.2.1]; omega)).mono ?_
        rintro e w2 ⟨g', rfl, ⟨hg, cs, hcs, hcv⟩, B2⟩
        have L8 := Lib.hid hW.out.2.2.1
        have I2 : Hid (EInv w w2 s w1.heap.size g' cs) := EInv.start hW.out B2 hg hcs hcv
        rw [L8.out]
        clear hcs hcv B2 hB
        go_wp2_with fail
        go_loopw [11] (fun iv wq => ∃ j : Nat, j ≤ 8 ∧ iv = .int .i64 j ∧ Hid (EInv w wq s w1.heap.size g' cs)) (fun iv _ => 8 - (intOf iv).toNat)
        case atStart => exact ⟨0, by omega, rfl, I2⟩
        case round =>
          obtain ⟨j, hj, rfl, hI⟩ := hrel
          clear I2
          by_cases hlt : j < 8
          · have hj0 : (0 : Int) ≤ (j : Int) := by omega
            have hj1 : (j : Int) < 8 := by omega
            go_wp2_with fail
            refine (eload hI.out hlt).mono ?_
            rintro e w3 ⟨rfl, hI3⟩
            have I3 := Lib.hid hI3
            obtain ⟨x1, x2⟩ := hI3.cells hlt
            generalize s.ws.getD j 0 = y at x1 x2
            clear hI3
            go_wp2_with fail
            go_quiet (fail)
            go_wp2_with fail
            go_roundw
            case rel => exact ⟨j + 1, by omega, by go_num, EInv.drewN I3.out _⟩
            case measure => simp [intOf]; omega
          · obtain rfl : j = 8 := by omega
            go_wp2_with fail
            refine (known_any _).mono ?_
            rintro e w5 ⟨rfl, b5⟩
            go_wp2_with fail
            go_ret
            have b4 := hI.out.2.2.2.2.2
            exact ⟨rfl, b4.trans (b5.mono b4.size)⟩
end Go.Proofs.Ytapfbhncnoedcaa
