/- Chapter 2: New. -/
import Derived.Test.YtmhmgenchpemkaaNew
namespace Go.Proofs.Ytmhmgenchpemkaa
open Go.RowKit

theorem info80 : (Try.prog.info? 80).map (fun i => (i.zero, i.size, i.bytes)) = some (some (.agg #[.int .i64 0, .int .i64 0, .int .i64 0, .int .i64 0, .int .i64 0, .bool false, .int .i64 0, .int .i64 0, .int .i64 0, .int .i64 0, .int .i64 0, .int .i64 0, .int .i64 0, .int .i64 0]), 14, 112) := by kernel_rfl
theorem new_cells (w : World) (cs : List Value) (ty : TypeId) : ∀ j u, cs[j]? = some u → (w.alloc (.cells cs.toArray ty)).cell? ((⟨w.heap.size, 0, none⟩ : Addr).add j) = some u := by
  intro j u hu
  rw [Addr.add_mid, Nat.zero_add, World.cell?_alloc_new, ← hu]
  simp
/-- The round of New. -/
structure NewI (w : World) (r b : Nat) (js : List Jb) (k : Nat) (v : Value) (wr : World) : Prop where
  hr : Holds wr r #[.pointer (some ⟨b, 0, none⟩), v]
  hw : Win wr (r + 1) 80 14 v k (rowsOf ((js.take k).map Jb.mch))
  bel : Below w.heap.size w wr
  le : w.heap.size ≤ r

theorem NewI.grown {w W w4 : World} {r b k : Nat} {js : List Jb} {v : Value} {ob : Obj} (h : NewI w r b js k v W) (hg : (W.alloc ob).grownBy w4 v.ownBlock) : Holds w4 r #[.pointer (some ⟨b, 0, none⟩), v] := by
  refine (h.hr.alloc ob).frm (Frm.of_grown (l := v.ownBlock.toList) hg (fun k hk _ => by rw [hk]; simp)) ?_
  intro hm
  cases e : v.ownBlock with
  | none => rw [e] at hm; simp at hm
  | some q =>
    rw [e] at hm
    have := (h.hw.lt q e).1
    simp at hm
    omega
theorem NewI.drew {w W : World} {r b k : Nat} {js : List Jb} {v : Value} (h : NewI w r b js k v W) : NewI w r b js k v W.drew := ⟨h.hr.drew, h.hw.drew, h.bel.drew, h.le⟩
/-- One machine more. -/
theorem NewI.push {w W w4 : World} {r b k f' o' cap' : Nat} {js : List Jb} {v : Value} {ob : Obj} {x : Jb} (h : NewI w r b js k v W) (hx : js[k]? = some x) (hg : (W.alloc ob).grownBy w4 v.ownBlock)
    (hown : Win w4 (r + 1) 80 14 (.slice (some ⟨f', o', none⟩) (k + 1) cap') (k + 1) (rowsOf ((js.take k).map Jb.mch) ++ x.mch.cells)) : NewI w r b js (k + 1) (.slice (some ⟨f', o', none⟩) (k + 1) cap') (w4.setCell ⟨r, 1, none⟩ (.slice (some ⟨f', o', none⟩) (k + 1) cap')) := by
  have hf := (hown.lt f' rfl).1
  refine ⟨(h.grown hg).set 1 _ (by simp), ?_, ?_, h.le⟩
  · have e : rowsOf ((js.take (k + 1)).map Jb.mch) = rowsOf ((js.take k).map Jb.mch) ++ x.mch.cells := by
      rw [List.take_add_one, hx]
      simp [rowsOf]
    rw [e]
    exact hown.frm (l := [r]) ((Frm.refl _ _).setCell (by simp) _) (by simp [Value.ownBlock]; omega)
  · have b1 : Below w.heap.size w w4 := by
      have b0 := h.bel.alloc h.bel.size ob
      refine ⟨hg.os.trans b0.os, hg.tape.trans b0.tape, hg.output.trans b0.output, Nat.le_trans b0.size hg.size, fun q hq => (hg.block q (Nat.lt_of_lt_of_le hq b0.size) (fun e => ?_)).trans (b0.block q hq)⟩
      have := (h.hw.lt q e.symm).1
      have := h.le
      omega
    exact b1.setCell (p := ⟨r, 1, none⟩) h.le _

section
variable {b c : Nat} {s : MS} {v : Value} {js : List Jb} {w : World}
set_option maxHeartbeats 4000000 in
theorem run_arg (hm : IsMem w b c s) (hj : JobsAt w v js) (hl : js.length ≤ 1000000000) (hn : js.any (fun j => !j.ok s.ws.length) = true) :
    Calls Try.prog 11 #[.pointer (some ⟨b, 0, none⟩), v] w fun e w' => e = .returned (.tuple #[.pointer none, .int .i64 1]) ∧ Below w.heap.size w w' := by
  have B0 : Below w.heap.size w (w.alloc (.cells #[.pointer (some ⟨b, 0, none⟩)] 23)) := (Below.refl _ _).alloc (Nat.le_refl _) _
  have X : Hid (Calls Try.prog 27 #[v, .func (.func 28) #[] #[.pointer (some ⟨w.heap.size, 0, none⟩)]] (w.alloc (.cells #[.pointer (some ⟨b, 0, none⟩)] 23)) fun e w' => e = .returned (.bool true) ∧ Below (w.alloc (.cells #[.pointer (some ⟨b, 0, none⟩)] 23)).heap.size (w.alloc (.cells #[.pointer (some ⟨b, 0, none⟩)] 23)) w') := Lib.hid (by
    rw [← hn]
    exact contains_any (hm.frm (l := []) (.of_below B0) (by simp) (by simp)) (by simp) (hj.below B0) hl)
  have HB := Lib.hid B0
  clear B0 hm hj hn
  go_enter Try.func11, Try.ntmps11
  go_wp2_with (first | (go_at_call 27; refine X.out.mono ?_; rintro e w1 ⟨rfl, b1⟩))
  go_ret2
  exact ⟨rfl, HB.out.trans (b1.mono HB.out.size)⟩
set_option maxHeartbeats 4000000 in
theorem run_many (hm : IsMem w b c s) (hj : JobsAt w v js) (hl : js.length ≤ 1000000000) (hn : js.any (fun j => !j.ok s.ws.length) = false) (h8 : 8 < js.length) :
    Calls Try.prog 11 #[.pointer (some ⟨b, 0, none⟩), v] w fun e w' => e = .returned (.tuple #[.pointer none, .int .i64 4]) ∧ Below w.heap.size w w' := by
  have B0 : Below w.heap.size w (w.alloc (.cells #[.pointer (some ⟨b, 0, none⟩)] 23)) := (Below.refl _ _).alloc (Nat.le_refl _) _
  have X : Hid (Calls Try.prog 27 #[v, .func (.func 28) #[] #[.pointer (some ⟨w.heap.size, 0, none⟩)]] (w.alloc (.cells #[.pointer (some ⟨b, 0, none⟩)] 23)) fun e w' => e = .returned (.bool false) ∧ Below (w.alloc (.cells #[.pointer (some ⟨b, 0, none⟩)] 23)).heap.size (w.alloc (.cells #[.pointer (some ⟨b, 0, none⟩)] 23)) w') := Lib.hid (by
    rw [← hn]
    exact contains_any (hm.frm (l := []) (.of_below B0) (by simp) (by simp)) (by simp) (hj.below B0) hl)
  obtain ⟨f, o, cap, rfl⟩ : ∃ f o cap, v = .slice (some ⟨f, o, none⟩) js.length cap := by
    rcases hj with ⟨rfl, _⟩ | ⟨f, o, cap, h, _⟩
    · simp at h8
    · exact ⟨f, o, cap, h⟩
  have HB := Lib.hid B0
  have h9 : (8 : Int) < (js.length : Int) := by omega
  clear B0 hm hj hn
  go_enter Try.func11, Try.ntmps11
  go_wp2_with (first | (go_at_call 27; refine X.out.mono ?_; rintro e w1 ⟨rfl, b1⟩))
  go_ret2
  exact ⟨rfl, HB.out.trans (b1.mono HB.out.size)⟩
set_option maxHeartbeats 8000000 in
theorem run_yes (hm : IsMem w b c s) (hj : JobsAt w v js) (h8 : js.length ≤ 8) (hn : js.any (fun j => !j.ok s.ws.length) = false) :
    Calls Try.prog 11 #[.pointer (some ⟨b, 0, none⟩), v] w fun e w' => ∃ r f o cap v', e = .returned (.tuple #[.pointer (some ⟨r, 0, none⟩), .int .i64 0]) ∧ Sys w' r b c f o cap v' (js.map Jb.mch) s ∧ w.heap.size ≤ r ∧ w.heap.size ≤ f ∧ Below w.heap.size w w' := by
  have B0 : Below w.heap.size w (w.alloc (.cells #[.pointer (some ⟨b, 0, none⟩)] 23)) := (Below.refl _ _).alloc (Nat.le_refl _) _
  have X : Hid (Calls Try.prog 27 #[v, .func (.func 28) #[] #[.pointer (some ⟨w.heap.size, 0, none⟩)]] (w.alloc (.cells #[.pointer (some ⟨b, 0, none⟩)] 23)) fun e w' => e = .returned (.bool false) ∧ Below (w.alloc (.cells #[.pointer (some ⟨b, 0, none⟩)] 23)).heap.size (w.alloc (.cells #[.pointer (some ⟨b, 0, none⟩)] 23)) w') := Lib.hid (by
    rw [← hn]
    exact contains_any (hm.frm (l := []) (.of_below B0) (by simp) (by simp)) (by simp) (hj.below B0) (by omega))
  obtain ⟨a, cap, rfl⟩ : ∃ a cap, v = .slice a js.length cap := by
    rcases hj with ⟨rfl, a, cap, h⟩ | ⟨f, o, cap, h, _⟩
    · exact ⟨a, cap, h⟩
    · exact ⟨_, cap, h⟩
  have HB := Lib.hid B0
  have h9 : ¬ (8 : Int) < (js.length : Int) := by omega
  have HJ := Lib.hid hj
  have HM := Lib.hid hm
  clear B0 hm hj hn
  go_enter Try.func11, Try.ntmps11
  go_upto_region 6 with (first | (go_at_call 27; refine X.out.mono ?_; rintro e w1 ⟨rfl, b1⟩; have p1 : w1.cell? ⟨w.heap.size, 0, none⟩ = some (.pointer (some ⟨b, 0, none⟩)) := (b1.cell (p := ⟨w.heap.size, 0, none⟩) (by simp)).trans (by simp)))
  have hb1 : Below w.heap.size w w1 := HB.out.trans (b1.mono HB.out.size)
  obtain ⟨w2, hw2⟩ : ∃ w2, w1.alloc (.cells #[.pointer (some ⟨b, 0, none⟩), .slice none 0 0] 78) = w2 := ⟨_, rfl⟩
  rw [hw2]
  have HI : Hid (NewI w w1.heap.size b js 0 (.slice none 0 0) w2) := Lib.hid (by
    rw [← hw2]
    exact ⟨Holds.new _ _ _, by simpa [rowsOf] using Win.nil _ _ 80 14, hb1.alloc hb1.size _, hb1.size⟩)
  obtain ⟨r, hr⟩ : ∃ r, w1.heap.size = r := ⟨_, rfl⟩
  rw [hr] at HI ⊢
  clear hr hw2 hb1 b1 p1 X HB
  obtain ⟨i80, hi, hz0, hz1, hz2⟩ := info_parts info80
  go_wp2_with fail
  go_loopw [24] (fun iv wr => ∃ k : Nat, k ≤ js.length ∧ iv = .int .i64 k ∧ ∃ v, Hid (NewI w r b js k v wr)) (fun iv _ => js.length - (intOf iv).toNat)
  case atStart => exact ⟨0, by omega, rfl, _, HI⟩
  case round =>
    obtain ⟨k, hk, rfl, v, HN⟩ := hrel
    by_cases hlt : k < js.length
    · obtain ⟨f, o, hf, rfl, hcs⟩ : ∃ f o, f < w.heap.size ∧ a = some ⟨f, o, none⟩ ∧ ∀ (i : Nat) (j : Jb), js[i]? = some j → w.rangeAt f (o + i * 5) j.cells := by
        rcases HJ.out with ⟨rfl, _⟩ | ⟨f, o, cap', h1, h2, h3⟩
        · simp at hlt
        · cases h1; exact ⟨f, o, h2, rfl, h3⟩
      obtain ⟨x, hx⟩ : ∃ x, js[k]? = some x := ⟨_, List.getElem?_eq_getElem hlt⟩
      have q := hcs k x hx
      have u0 : wr.cell? ⟨f, o + k * 5, none⟩ = some (.int .i64 x.kind) := (HN.out.bel.cell (p := ⟨f, o + k * 5, none⟩) hf).trans (q 0 _ rfl)
      have u1 : wr.cell? ⟨f, o + k * 5 + 1, none⟩ = some (.int .i64 x.at_) := (HN.out.bel.cell (p := ⟨f, o + k * 5 + 1, none⟩) hf).trans (q 1 _ rfl)
      have u2 : wr.cell? ⟨f, o + k * 5 + 2, none⟩ = some (.int .i64 x.work) := (HN.out.bel.cell (p := ⟨f, o + k * 5 + 2, none⟩) hf).trans (q 2 _ rfl)
      have u3 : wr.cell? ⟨f, o + k * 5 + 3, none⟩ = some (.int .i64 x.a) := (HN.out.bel.cell (p := ⟨f, o + k * 5 + 3, none⟩) hf).trans (q 3 _ rfl)
      have u4 : wr.cell? ⟨f, o + k * 5 + 4, none⟩ = some (.int .i64 x.b) := (HN.out.bel.cell (p := ⟨f, o + k * 5 + 4, none⟩) hf).trans (q 4 _ rfl)
      have HX := Lib.hid hx
      have hk0 : (0 : Int) ≤ (k : Int) := by omega
      have hk1 : (k : Int) < (js.length : Int) := by omega
      clear hx q hcs
      go_upto_region 9 with fail
      obtain ⟨w3, hw3⟩ : ∃ w3, wr.alloc (.cells #[.int .i64 x.kind, .int .i64 x.at_, .int .i64 x.work, .int .i64 x.a, .int .i64 x.b] 29) = w3 := ⟨_, rfl⟩
      rw [hw3]
      have B3 : Below wr.heap.size wr w3 := by rw [← hw3]; exact (Below.refl _ _).alloc (Nat.le_refl _) _
      have HN3 : Hid (NewI w r b js k v w3) := Lib.hid ⟨HN.out.hr.below B3, HN.out.hw.below B3, HN.out.bel.trans (B3.mono HN.out.bel.size), HN.out.le⟩
      have j0 : w3.cell? ⟨wr.heap.size, 0, none⟩ = some (.int .i64 x.kind) := by rw [← hw3]; simp
      have j1 : w3.cell? ⟨wr.heap.size, 1, none⟩ = some (.int .i64 x.at_) := by rw [← hw3]; simp
      have j2 : w3.cell? ⟨wr.heap.size, 2, none⟩ = some (.int .i64 x.work) := by rw [← hw3]; simp
      have j3 : w3.cell? ⟨wr.heap.size, 3, none⟩ = some (.int .i64 x.a) := by rw [← hw3]; simp
      have j4 : w3.cell? ⟨wr.heap.size, 4, none⟩ = some (.int .i64 x.b) := by rw [← hw3]; simp
      obtain ⟨J, hJ⟩ : ∃ J, wr.heap.size = J := ⟨_, rfl⟩
      have hJ3 : J < w3.heap.size := by rw [← hJ, ← hw3]; simp
      rw [hJ] at j0 j1 j2 j3 j4 ⊢
      clear hw3 B3 hJ HN u0 u1 u2 u3 u4
      have r1 : w3.cell? ⟨r, 1, none⟩ = some v := HN3.out.hr.cell 1
      have rl := HN3.out.hr.lt
      have rf := HN3.out.hr.free 1
      have hl0 : ∀ u ∈ x.mch.cells, u.oneCell' = true := by simp [Mch.cells, Value.oneCell']
      have cn : ¬ J = w3.heap.size := by omega
      have cn2 : ¬ r = w3.heap.size := by omega
      go_region_law (first | (refine step_append_win _ rfl (.tmp 32) (.tmp 35) 76 rfl (r + 1) 80 i80 _ 14 112 Try.underlying76 hi hz0 hz1 hz2 rfl (by decide) v k (rowsOf ((js.take k).map Jb.mch)) (by simp [Act.eval]) (by first | exact HN3.out.hw.alloc _ | exact HN3.out.hw.drew.alloc _) ⟨w3.heap.size, 0, none⟩ 1 1 x.mch.cells (by simp [Act.eval]) rfl (by first | exact new_cells w3 x.mch.cells _ | exact new_cells w3.drew x.mch.cells _) hl0 (by decide) (by unfold maxLen; omega) (by omega) (by simp; omega) ?_; intro f' o' cap' w4 hown hgrow hat; have HP := Lib.hid (by first | exact HN3.out.push HX.out hgrow hown | exact HN3.out.drew.push HX.out hgrow hown); have q1 : w4.cell? ⟨r, 1, none⟩ = some v := (by first | exact (HN3.out.grown hgrow).cell 1 | exact (HN3.out.drew.grown hgrow).cell 1); have qf : w4.frozen? ⟨r, 1, none⟩ = false := (by first | exact (HN3.out.grown hgrow).free 1 | exact (HN3.out.drew.grown hgrow).free 1); clear hown hgrow hat))
      all_goals
        clear j0 j1 j2 j3 j4 r1
        go_wp2_with fail
        go_roundw
        case rel => exact ⟨k + 1, by omega, by go_num, _, by first | exact HP | exact Lib.hid HP.out.drew⟩
        case measure => simp [intOf]; omega
    · obtain rfl : k = js.length := by omega
      go_wp2_with fail
      go_ret2
      have hN := HN.out
      have hw := hN.hw
      rw [List.take_length] at hw
      have hlen : (js.map Jb.mch).length = js.length := by simp
      have rb : ∀ q, q < w.heap.size → r ≠ q := fun q hq => by have := hN.le; omega
      have hm' := HM.out.frm (l := []) (.of_below hN.bel) (by simp) (by simp)
      have hbl := HM.out.hb.lt
      have hcl := HM.out.hc.lt
      by_cases h0 : js = []
      · subst h0
        obtain ⟨_, q | ⟨f, o, cp, cur, e1, e2, e3⟩⟩ := hw
        · refine ⟨r, wr.heap.size, 0, 0, v, rfl, ⟨hN.hr, hm', .inl ⟨rfl, q.1⟩, by simp, ?_, ?_, rb b hbl, rb c hcl, ?_⟩, hN.le, hN.bel.size, hN.bel⟩
          · have := hN.bel.size; omega
          · have := hN.bel.size; omega
          · have := hN.hr.lt; omega
        · refine ⟨r, f, o, cp, v, rfl, ⟨hN.hr, hm', .inr ⟨e1, ?_⟩, by simp, ?_, ?_, rb b hbl, rb c hcl, ?_⟩, hN.le, ?_, hN.bel⟩
          · exact ⟨(Array.getElem?_eq_some_iff.1 e3.1).1, fun j => by simp [World.frozen?, e3.1], fun i x hx => by simp at hx⟩
          · have := hN.le; omega
          · have := hN.le; omega
          · omega
          · have := hN.le; omega
      · obtain ⟨f, o, cp, rfl⟩ := hw.form (by cases js; exact absurd rfl h0; simp)
        have hf := hw.lt f rfl
        refine ⟨r, f, o, cp, _, rfl, ⟨hN.hr, hm', .inr ⟨by rw [hlen], hw.rows⟩, by rw [hlen]; exact h8, ?_, ?_, rb b hbl, rb c hcl, ?_⟩, hN.le, ?_, hN.bel⟩
        · have := hN.le; omega
        · have := hN.le; omega
        · omega
        · have := hN.le; omega
end
end Go.Proofs.Ytmhmgenchpemkaa
