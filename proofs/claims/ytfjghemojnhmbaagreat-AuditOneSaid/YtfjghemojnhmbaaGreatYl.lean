/- The document's model: New. -/
import Derived.Test.YtfjghemojnhmbaaGreatYg
namespace Go.Proofs.YtfjghemojnhmbaaGreat
open Go.RowKit

attribute [local go_sem ↓] run_field38 run_field38s
theorem info56 : (Tryz.prog.info? 56).map (fun i => (i.zero, i.size, i.bytes)) = some (some (.agg #[.int .i64 0, .int .i64 0]), 2, 16) := by kernel_rfl
theorem info75 : (Tryz.prog.info? 75).map (fun i => (i.zero, i.size, i.bytes)) = some (some (.agg #[.int .i64 0, .int .i64 0]), 2, 16) := by kernel_rfl
theorem agg3_out {fn : Func} {tmps : Array Value} {w : World} {E a : Nat} {p0 p1 p2 : Value} (hr : fn.results = #[.cell a 26]) (h4 : tmps.getD a undef = .pointer (some ⟨E, 0, none⟩)) (h : Holds w E #[p0, p1, p2]) : (results fn tmps).run Tryz.prog w = .ok (.agg #[p0, p1, p2]) w := by
  have v0 : w.cell? ⟨E, 0, none⟩ = some p0 := h.cell 0
  have v1 : w.cell? ⟨E, 1, none⟩ = some p1 := h.cell 1
  have v2 : w.cell? ⟨E, 2, none⟩ = some p2 := h.cell 2
  unfold results
  rw [hr]
  have h4' : tmps[a]?.getD undef = .pointer (some ⟨E, 0, none⟩) := by rw [← h4]; simp
  simp [asAddr, h4', go_sem, v0, v1, v2]
theorem big_any (w : World) : Calls Tryz.prog 5 #[] w fun e w' => e = .returned (.agg #[.int .i64 64, .int .i64 256, .int .i64 64]) ∧ Below w.heap.size w w' := by
  have HB : Hid (Below w.heap.size w (w.alloc (.cells #[.int .i64 64, .int .i64 256, .int .i64 64] 26))) := Lib.hid ((Below.refl _ _).alloc (Nat.le_refl _) _)
  have HH := Lib.hid (box1 w #[.int .i64 64, .int .i64 256, .int .i64 64] 26).2
  go_enter Tryz.func5, Tryz.ntmps5
  go_wp2_with fail
  exact bodyPost_ret (agg3_out (E := w.heap.size) rfl rfl HH.out.holds) rfl ⟨rfl, HB.out⟩
theorem two_retV {fn : Func} {tmps : Array Value} {w : World} {a b : Nat} {n m : Value} {K : Ending → World → Prop} (hr : fn.results = #[.tmp a, .tmp b]) (h : tmps.getD a undef = n) (h2 : tmps.getD b undef = m) (hk : K (.returned (.tuple #[n, m])) w) : bodyPost Tryz.prog fn K .ret ⟨tmps, []⟩ w := by
  refine bodyPost_ret ?_ rfl hk
  unfold results
  rw [hr]
  have h' : tmps[a]?.getD undef = n := by rw [← h]; simp
  have h2' : tmps[b]?.getD undef = m := by rw [← h2]; simp
  simp [h', h2', go_sem]
theorem pair_any (w : World) : Calls Tryz.prog 6 #[] w fun e w' => ∃ ub, e = .returned (.slice (some ⟨ub, 0, none⟩) 2 2) ∧ Below w.heap.size w w' ∧ w.heap.size ≤ ub ∧ Blk w' ub 56 whocells.toArray := by
  have HB := Lib.hid (box1 w #[.int .i64 0, .int .i64 0, .int .i64 1, .int .i64 1] 56)
  go_enter Tryz.func6, Tryz.ntmps6
  go_wp2_with fail
  go_ret
  exact ⟨_, rfl, HB.out.1, Nat.le_refl _, HB.out.2⟩
/-- The root, held so often. -/
def rootN (i : Nat) : Nd := { rootNd with held := i }
def cwl : Nat → List Value
  | 0 => []
  | i + 1 => cwl i ++ [.int .i64 0, .int .i64 1]
structure NwJ (w wr : World) (t tb fb wb wo wc : Nat) (tv : Value) (i : Nat) : Prop where
  who : Win wr w.heap.size 56 2 (.slice (some ⟨wb, wo, none⟩) 2 wc) 2 whocells
  tr : ∃ N, TR (fun k => w.heap.size ≤ k) wr t (1 + i) [N] [some (rootN i)]
  tab : TabAt (fun k => w.heap.size ≤ k) wr tb tv [⟨0, 0, 1, true⟩]
  ft : FtAt (fun k => w.heap.size ≤ k) wr fb (fun _ _ => ⟨false, 0, 0, 0, 0⟩)
theorem NwJ.fr {w wr wn : World} {t tb fb wb wo wc : Nat} {tv : Value} {i : Nat} {S0 : Nat → Prop} {Ts : List TypeId} (h : NwJ w wr t tb fb wb wo wc tv i) (hf : Fr S0 Ts wr wn) (ht : ∀ e ∈ Ts, e = 73 ∨ e = 75) : NwJ w wn t tb fb wb wo wc tv i := by
  have n : ∀ e : TypeId, e ≠ 73 → e ≠ 75 → e ∉ Ts := fun e h1 h2 hm => (ht e hm).elim h1 h2
  obtain ⟨N, hN⟩ := h.tr
  exact ⟨h.who.frT hf (n _ (by decide) (by decide)), ⟨N, hN.fr (fun _ h => h) hf (fun e he => n e (by rintro rfl; revert he; decide) (by rintro rfl; revert he; decide)) (n _ (by decide) (by decide))⟩, h.tab.fr (fun _ h => h) hf (n _ (by decide) (by decide)) (n _ (by decide) (by decide)), h.ft.fr (fun _ h => h) hf (n _ (by decide) (by decide))⟩
/-- The new model while processes are added. -/
structure NwB (w wr : World) (m t tb fb wb wo wc : Nat) (tv : Value) (i : Nat) (cv : Value) : Prop where
  bel : Below w.heap.size w wr
  blk : Blk wr m 73 #[.int .i64 64, .int .i64 256, .int .i64 64, .slice (some ⟨wb, wo, none⟩) 2 wc, .pointer (some ⟨t, 0, none⟩), .pointer (some ⟨tb, 0, none⟩), .pointer (some ⟨fb, 0, none⟩), cv]
  mge : w.heap.size ≤ m
  cwd : Win wr w.heap.size 75 2 cv i (cwl i)
  j : NwJ w wr t tb fb wb wo wc tv i
theorem m8_cells {w : World} {D : Nat} {e : TypeId} {a b c d f g h i : Value} (k : Blk w D e #[a, b, c, d, f, g, h, i]) : w.cell? ⟨D, 7, none⟩ = some i ∧ (∀ j, w.frozen? ⟨D, j, none⟩ = false) := ⟨k.cell 7, k.free⟩
/-- One more process: its place was appended. -/
theorem NwB.push {w wr w4 : World} {m t tb fb wb wo wc i uc f o cap : Nat} {tv : Value} {ua : Option Addr} (h : NwB w wr m t tb fb wb wo wc tv i (.slice ua i uc)) (ha : AppTo (wr.alloc (.cells #[.int .i64 0, .int .i64 1] 75)) w4 (.slice ua i uc) f [.int .i64 0, .int .i64 1]) (hw : Win w4 w.heap.size 75 2 (.slice (some ⟨f, o, none⟩) (i + 1) cap) (i + 1) (cwl i ++ [.int .i64 0, .int .i64 1])) :
    Blk w4 m 73 #[.int .i64 64, .int .i64 256, .int .i64 64, .slice (some ⟨wb, wo, none⟩) 2 wc, .pointer (some ⟨t, 0, none⟩), .pointer (some ⟨tb, 0, none⟩), .pointer (some ⟨fb, 0, none⟩), .slice ua i uc] ∧ Blk (w4.setCell ⟨m, 7, none⟩ (.slice (some ⟨f, o, none⟩) (i + 1) cap)) m 73 #[.int .i64 64, .int .i64 256, .int .i64 64, .slice (some ⟨wb, wo, none⟩) 2 wc, .pointer (some ⟨t, 0, none⟩), .pointer (some ⟨tb, 0, none⟩), .pointer (some ⟨fb, 0, none⟩), .slice (some ⟨f, o, none⟩) (i + 1) cap] ∧ Below w.heap.size w (w4.setCell ⟨m, 7, none⟩ (.slice (some ⟨f, o, none⟩) (i + 1) cap)) ∧ Win (w4.setCell ⟨m, 7, none⟩ (.slice (some ⟨f, o, none⟩) (i + 1) cap)) w.heap.size 75 2 (.slice (some ⟨f, o, none⟩) (i + 1) cap) (i + 1) (cwl (i + 1)) ∧ NwJ w (w4.setCell ⟨m, 7, none⟩ (.slice (some ⟨f, o, none⟩) (i + 1) cap)) t tb fb wb wo wc tv i := by
  have hf : Fr (fun _ => True) [75] wr w4 := (Fr.of_below ((Below.refl wr.heap.size wr).alloc (Nat.le_refl _) _)).trans (ha.fr (h.cwd.alloc _) (fun _ _ => trivial) (by simp)) (fun _ h => .inl h)
  have hb := h.blk.fr hf (by decide)
  have hf2 : Fr (fun _ => True) [73] w4 (w4.setCell ⟨m, 7, none⟩ (.slice (some ⟨f, o, none⟩) (i + 1) cap)) := Fr.one hb trivial (by simp) _
  have hbe : Below w.heap.size w w4 := (h.bel.alloc h.bel.size _).trans (ha.fresh (fun k hk => (h.cwd.lt k hk).1) (by have := h.bel.size; simp; omega)).1
  refine ⟨hb, by simpa using hb.set 7 (.slice (some ⟨f, o, none⟩) (i + 1) cap), hbe.setCell h.mge _, ?_, (h.j.fr hf (by simp)).fr hf2 (by simp)⟩
  exact hw.frT hf2 (by decide)
theorem rootInv (l : List Mt) (hl : l = [⟨0, 0, 1, true⟩]) : TInv [some (rootN 2)] (fun k => mrefs l k + (frefs (fun _ _ => ⟨false, 0, 0, 0, 0⟩) k + crefs (fun _ => (0, 1)) k)) none := by
  have one : ∀ (i : Nat) (x : Nd), [some (rootN 2)][i]? = some (some x) → i = 0 ∧ x = rootN 2 := fun i x h => by
    rcases i with _ | i
    · simp at h
      exact ⟨rfl, h.symm⟩
    · simp at h
  have fr : ∀ k, frefs (fun _ _ => ⟨false, 0, 0, 0, 0⟩) k = 0 := fun k => by unfold frefs; simp [fref]; rfl
  refine ⟨⟨_, rfl, rfl⟩, ?_, fun i x e h he => ?_, fun i x h hk => ?_, fun j y h => ?_, fun i x h _ hi => ?_, fun i x h _ _ => ?_, fun i x h _ _ => ?_, fun k hk => ?_⟩
  · intro i x e h he
    obtain ⟨rfl, rfl⟩ := one i x h
    cases he
  · obtain ⟨rfl, rfl⟩ := one i x h
    cases he
  · obtain ⟨rfl, rfl⟩ := one i x h
    rfl
  · obtain ⟨rfl, rfl⟩ := one j y h
    decide
  · obtain ⟨rfl, rfl⟩ := one i x h
    exact absurd rfl hi
  · obtain ⟨rfl, rfl⟩ := one i x h
    exact .inl rfl
  · obtain ⟨rfl, rfl⟩ := one i x h
    exact ⟨0, Ends.stop (i := 0) rfl rfl rfl⟩
  · subst hl
    have hm : mrefs [⟨0, 0, 1, true⟩] k = 0 := rfl
    have hc : crefs (fun _ => (0, 1)) k = (if (1 : Int) = (k : Int) then 1 else 0) + (if (1 : Int) = (k : Int) then 1 else 0) := rfl
    simp only [hm, fr, hc] at hk
    by_cases h1 : (1 : Int) = (k : Int)
    · refine ⟨0, rootN 2, by omega, rfl, ?_⟩
      simp only [hm, fr, hc]
      rw [if_pos h1]
      decide
    · rw [if_neg h1] at hk
      omega
theorem who_src {w : World} {ub : Nat} (h : Blk w ub 56 whocells.toArray) : ∀ j u, whocells[j]? = some u → w.cell? ((⟨ub, 0, none⟩ : Addr).add j) = some u := fun j u hu => by
  rw [Addr.add_mid, Nat.zero_add, h.cell j, ← hu]
  simp
theorem NwB.held {w w5 w6 : World} {m t tb fb wb wo wc i N : Nat} {tv cv : Value} (hb : Blk w5 m 73 #[.int .i64 64, .int .i64 256, .int .i64 64, .slice (some ⟨wb, wo, none⟩) 2 wc, .pointer (some ⟨t, 0, none⟩), .pointer (some ⟨tb, 0, none⟩), .pointer (some ⟨fb, 0, none⟩), cv]) (hbe : Below w.heap.size w w5) (hm : w.heap.size ≤ m) (hc : Win w5 w.heap.size 75 2 cv (i + 1) (cwl (i + 1))) (hj : NwJ w w5 t tb fb wb wo wc tv i)
    (hh : (lv [some (rootN i)] 1 = none ∧ w6 = w5) ∨ ∃ (k : Nat) (x y : Nd), (1 : Int) = (k : Int) + 1 ∧ [some (rootN i)][k]? = some (some x) ∧ y = { x with held := x.held + 1 } ∧ TStep (fun k => w.heap.size ≤ k) (fun k => w.heap.size ≤ k) t (1 + i + 1) [N] w5 w6 ([some (rootN i)].set k (some y))) : NwB w w6 m t tb fb wb wo wc tv (i + 1) cv := by
  rcases hh with ⟨h, _⟩ | ⟨k, x, y, h1, h2, rfl, hs⟩
  · simp [lv] at h
  · obtain rfl : k = 0 := by omega
    simp at h2
    subst h2
    have hbel : Below w.heap.size w w6 := ⟨hs.fr.os.trans hbe.os, hs.fr.tape.trans hbe.tape, hs.fr.output.trans hbe.output, Nat.le_trans hbe.size hs.fr.size, fun k hk => (hs.fr.keepS (Nat.lt_of_lt_of_le hk hbe.size) (fun q => by omega)).trans (hbe.block k hk)⟩
    exact ⟨hbel, hb.fr hs.fr (by decide), hm, hc.frT hs.fr (by decide), ⟨hj.who.frT hs.fr (by decide), ⟨N, hs.tr⟩, hj.tab.fr (fun _ h => h) hs.fr (by decide) (by decide), hj.ft.fr (fun _ h => h) hs.fr (by decide)⟩⟩
/-- What New does. -/
def NewMP (w : World) (e : Ending) (w' : World) : Prop := ∃ (g : MG) (S : Nat → Prop), e = .returned (.tuple #[.pointer (some ⟨g.m, 0, none⟩), .int .i64 0]) ∧ Below w.heap.size w w' ∧ (∀ k, S k → w.heap.size ≤ k) ∧ ∃ bs T tv l fl cw, MA S w' g 3 bs T tv l fl cw
theorem NwB.done {w wr : World} {m t tb fb wb wo wc : Nat} {tv cv : Value} (h : NwB w wr m t tb fb wb wo wc tv 2 cv) : NewMP w (.returned (.tuple #[.pointer (some ⟨m, 0, none⟩), .int .i64 0])) wr := by
  obtain ⟨f, o, cap, rfl⟩ := h.cwd.form (by omega)
  obtain ⟨N, hN⟩ := h.j.tr
  refine ⟨⟨m, t, tb, fb, wb, wo, wc, f, o, cap⟩, (fun k => w.heap.size ≤ k), rfl, h.bel, fun k hk => hk, [N], [some (rootN 2)], tv, [⟨0, 0, 1, true⟩], (fun _ _ => ⟨false, 0, 0, 0, 0⟩), fun _ => (0, 1), h.blk, h.j.who.of_base (Nat.zero_le _), h.cwd.of_base (Nat.zero_le _), (h.cwd.lt f rfl).1, h.j.ft, ⟨hN, rootInv _ rfl, h.j.tab, ?_, ?_, rfl, ?_, by omega⟩, fun p hp => by simp, fun p k hp hk => by simp⟩
  · intro i x hi h
    rcases i with _ | i
    · omega
    · simp at h
  · intro i x h hl
    rcases i with _ | i
    · simp at h
      subst h
      exact ⟨⟨0, rootN 2, rfl, rfl, rfl⟩, by decide, by decide, fun h => by omega⟩
    · simp at h
  · simp
set_option maxRecDepth 100000 in
set_option maxHeartbeats 8000000 in
theorem newm_any {w : World} {ub : Nat} (hU : Blk w ub 56 whocells.toArray) : Calls Tryz.prog 10 #[.agg #[.int .i64 64, .int .i64 256, .int .i64 64], .slice (some ⟨ub, 0, none⟩) 2 2] w (NewMP w) := by
  obtain ⟨i56, h561, h562, h563, h564⟩ := info_parts info56
  obtain ⟨i75, h751, h752, h753, h754⟩ := info_parts info75
  have HU := Lib.hid hU
  clear hU
  go_enter Tryz.func10, Tryz.ntmps10
  go_upto_region 1 with fail
  refine box1g (fun W hbx hnx => ?_)
  have H1B := Lib.hid hbx
  have H1 := Lib.hid hnx
  clear hbx hnx
  obtain ⟨C, hC⟩ : ∃ C, w.heap.size = C := ⟨_, rfl⟩
  rw [hC] at H1 ⊢
  have HBW : Hid (w.heap.size ≤ W.heap.size) := Lib.hid H1B.out.size
  have HUB : Hid (Blk W ub 56 whocells.toArray) := Lib.hid (HU.out.below H1B.out)
  have H1E : Hid (w.heap.size = C) := Lib.hid (by omega)
  clear hC
  have HQ : Hid (∀ X, Below W.heap.size W X → X.cell? ⟨C, 0, none⟩ = some (.int .i64 64) ∧ X.cell? ⟨C, 1, none⟩ = some (.int .i64 256) ∧ X.cell? ⟨C, 2, none⟩ = some (.int .i64 64) ∧ X.cell? ⟨ub, 0, none⟩ = some (.int .i64 0) ∧ X.cell? ⟨ub, 1, none⟩ = some (.int .i64 0) ∧ X.cell? ⟨ub, 2, none⟩ = some (.int .i64 1) ∧ X.cell? ⟨ub, 3, none⟩ = some (.int .i64 1)) := Lib.hid fun X hX => ⟨(H1.out.below hX).cell 0, (H1.out.below hX).cell 1, (H1.out.below hX).cell 2, ((HU.out.below H1B.out).below hX).cell 0, ((HU.out.below H1B.out).below hX).cell 1, ((HU.out.below H1B.out).below hX).cell 2, ((HU.out.below H1B.out).below hX).cell 3⟩
  obtain ⟨q0, q1, q2, q3, q4, q5, q6⟩ := HQ.out _ (Below.refl _ _)
  go_wp2_with fail
  go_loopw [6] (fun iv wr => ∃ i : Nat, i ≤ 2 ∧ iv = .int .i64 (i : Int) ∧ wr = W) (fun iv _ => 2 - (intOf iv).toNat)
  case atStart => exact ⟨0, by omega, rfl, rfl⟩
  case round =>
    obtain ⟨i, hi, rfl, hw⟩ := hrel
    replace hw := hw.symm
    subst hw
    obtain rfl | rfl | rfl : i = 0 ∨ i = 1 ∨ i = 2 := by omega
    · go_wp2_with fail
      go_roundw
      case rel => first | exact ⟨1, by omega, by go_num, rfl⟩ | exact ⟨1, by omega, by go_num, trivial⟩
      case measure => simp [intOf]
    · go_wp2_with fail
      go_roundw
      case rel => first | exact ⟨2, by omega, by go_num, rfl⟩ | exact ⟨2, by omega, by go_num, trivial⟩
      case measure => simp [intOf]
    · have C17 := newt_any W
      have C18 := Lib.hid (fun X => tabnew_any X 1)
      have C19 := Lib.hid fnew_any
      go_upto_region 11 with (first | (go_at_call 17; (with_reducible refine C17.mono ?_); rintro e w2 ⟨t, N, S0, rfl, hS0, hb, htr⟩; have HB : Hid (Below W.heap.size W w2) := Lib.hid hb; have HTR : Hid (TR (fun k => w.heap.size ≤ k) w2 t 1 [N] [some (rootN 0)]) := Lib.hid (htr.fr (fun k hk => Nat.le_trans H1B.out.size (hS0 k hk)) (Fr.refl (fun _ => True) [] _) (by simp) (by simp)); clear hS0 hb htr q0 q1 q2 q3 q4 q5 q6; obtain ⟨q0, q1, q2, q3, q4, q5, q6⟩ := HQ.out _ HB.out))
      go_cut [9] (fun v9 wx => ∃ (m tb fb wb wo wk : Nat) (tv : Value), v9 = .pointer (some ⟨m, 0, none⟩) ∧ Hid (Below W.heap.size W wx) ∧ Hid (Blk wx m 73 #[.int .i64 64, .int .i64 256, .int .i64 64, .slice (some ⟨wb, wo, none⟩) 2 wk, .pointer (some ⟨t, 0, none⟩), .pointer (some ⟨tb, 0, none⟩), .pointer (some ⟨fb, 0, none⟩), .slice none 0 0] ∧ w.heap.size ≤ m) ∧ Hid (NwJ w wx t tb fb wb wo wk tv 0))
      case first =>
        have HBd : Hid (Below W.heap.size W w2.drew) := Lib.hid HB.out.drew
        replace HTR : Hid (TR (fun k => w.heap.size ≤ k) w2.drew t 1 [N] [some (rootN 0)]) := Lib.hid (HTR.out.below (Below.refl _ _).drew)
        have HQS : Hid (∀ X, Below W.heap.size W X → X.cell? ⟨C, 0, none⟩ = some (.int .i64 64) ∧ X.cell? ⟨C, 1, none⟩ = some (.int .i64 256) ∧ X.cell? ⟨C, 2, none⟩ = some (.int .i64 64)) := Lib.hid fun X hX => ⟨(H1.out.below hX).cell 0, (H1.out.below hX).cell 1, (H1.out.below hX).cell 2⟩
        refine hand_start (S := fun X => X.cell? ⟨C, 0, none⟩ = some (.int .i64 64) ∧ X.cell? ⟨C, 1, none⟩ = some (.int .i64 256) ∧ X.cell? ⟨C, 2, none⟩ = some (.int .i64 64)) 12 (by kernel_rfl) (by rfl) (HQS.out _ HBd.out) (fun hHeld => ?_)
        generalize w2.drew = wx at HBd HTR hHeld ⊢
        (refine take_on 0 (v := ?_) rfl (by kernel_rfl) (by decide +kernel) (by decide +kernel) (by rfl) (by assumption) (fun _ _ _ h => h) ?_ ?_; rotate_left; (focus (intro w hSw; (try dsimp only at hSw); go_simp; try with_reducible rfl)); (try simp only [Act.put, List.setIfInBounds_toArray, List.set_cons_zero, List.set_cons_succ]))
        (refine take_on 2 (v := ?_) rfl (by kernel_rfl) (by decide +kernel) (by decide +kernel) (by rfl) (by assumption) (fun _ _ _ h => h) ?_ ?_; rotate_left; (focus (intro w hSw; (try dsimp only at hSw); go_simp; try with_reducible rfl)); (try simp only [Act.put, List.setIfInBounds_toArray, List.set_cons_zero, List.set_cons_succ]))
        (refine take_on 4 (v := ?_) rfl (by kernel_rfl) (by decide +kernel) (by decide +kernel) (by rfl) (by assumption) (fun _ _ _ h => h) ?_ ?_; rotate_left; (focus (intro w hSw; (try dsimp only at hSw); go_simp; try with_reducible rfl)); (try simp only [Act.put, List.setIfInBounds_toArray, List.set_cons_zero, List.set_cons_succ]))
        (refine take_on 6 (v := ?_) rfl (by kernel_rfl) (by decide +kernel) (by decide +kernel) (by rfl) (by assumption) (fun _ _ _ h => h) ?_ ?_; rotate_left; (focus (intro w hSw; (try dsimp only at hSw); go_simp; try with_reducible rfl)); (try simp only [Act.put, List.setIfInBounds_toArray, List.set_cons_zero, List.set_cons_succ]))
        (refine take_on 7 (v := ?_) rfl (by kernel_rfl) (by decide +kernel) (by decide +kernel) (by rfl) (by assumption) (fun _ _ _ h => h) ?_ ?_; rotate_left; (focus (intro w hSw; (try dsimp only at hSw); go_simp; try with_reducible rfl)); (try simp only [Act.put, List.setIfInBounds_toArray, List.set_cons_zero, List.set_cons_succ]))
        repeat' (first
          | (refine take_on 9 (v := ?_) rfl (by kernel_rfl) (by decide +kernel) (by decide +kernel) (by rfl) (by assumption) (fun _ _ _ h => h) ?_ ?_; rotate_left; (focus (intro w hSw; (try dsimp only at hSw); go_simp; try with_reducible rfl)); (try simp only [Act.put, List.setIfInBounds_toArray, List.set_cons_zero, List.set_cons_succ]))
          | (refine take_on 11 (v := ?_) rfl (by kernel_rfl) (by decide +kernel) (by decide +kernel) (by rfl) (by assumption) (fun _ _ _ h => h) ?_ ?_; rotate_left; (focus (intro w hSw; (try dsimp only at hSw); go_simp; try with_reducible rfl)); (try simp only [Act.put, List.setIfInBounds_toArray, List.set_cons_zero, List.set_cons_succ]))
          | (refine wpAnyH_ready (rs := [1, 5, 8]) (by decide +kernel) (by simp) ?_)
          | (refine wpAnyH_ready (rs := [3, 5, 8]) (by decide +kernel) (by simp) ?_)
          | (refine wpAnyH_ready (rs := [5, 8]) (by decide +kernel) (by simp) ?_)
          | (refine wpAnyH_ready (rs := [1, 8]) (by decide +kernel) (by simp) ?_)
          | (refine wpAnyH_ready (rs := [3, 8]) (by decide +kernel) (by simp) ?_)
          | (refine wpAnyH_ready (rs := [8]) (by decide +kernel) (by simp) ?_)
          | (refine wpAnyH_ready (rs := [1, 5]) (by decide +kernel) (by simp) ?_)
          | (refine wpAnyH_ready (rs := [3, 5]) (by decide +kernel) (by simp) ?_)
          | (refine wpAnyH_ready (rs := [5]) (by decide +kernel) (by simp) ?_)
          | (refine wpAnyH_ready (rs := [1]) (by decide +kernel) (by simp) ?_)
          | (refine wpAnyH_ready (rs := [3]) (by decide +kernel) (by simp) ?_)
          | (refine wpAnyH_ready (rs := [10]) (by decide +kernel) (by simp) ?_)
          | (exact AllReadyH.nil)
          | (refine step_on 1 rfl (by rfl) (fun K hK => ?_) ?_; (focus (go_simp; obtain ⟨wy, hwy⟩ : ∃ Y, wx.alloc (.cells #[] 56) = Y := ⟨_, rfl⟩; rw [hwy]; have hb : Below wx.heap.size wx wy := (by rw [← hwy]; exact (Below.refl _ _).alloc (Nat.le_refl _) _); have hf : Fr (fun _ => True) [] wx wy := Fr.of_below hb; have HEM : Hid (Win wy w.heap.size 56 2 (.slice (some ⟨wx.heap.size, 0, none⟩) 0 0) 0 []) := Lib.hid (by rw [← hwy]; exact (Win.empty wx 56 2).of_base (Nat.le_trans HBW.out HBd.out.size)); have hB00 := HBd.out.size; replace HBd := Lib.hid (HBd.out.trans (hb.mono HBd.out.size)); (try replace HTR := Lib.hid (HTR.out.fr (fun _ h => h) hf (by decide) (by decide))); (try replace HTB := Lib.hid (HTB.out.fr (fun _ h => h) hf (by decide) (by decide))); (try replace HFT := Lib.hid (HFT.out.fr (fun _ h => h) hf (by decide))); (try replace HWH := Lib.hid (HWH.out.frT hf (by decide))); clear hb hf hwy; obtain ⟨B0, hB0⟩ : ∃ B, wx.heap.size = B := ⟨_, rfl⟩; rw [hB0] at HEM hB00 ⊢; have HB0 := Lib.hid hB00; clear hB0 hB00; rename World => wx; refine hK.out _ _ (by first | (with_reducible exact HQS.out _ HBd.out) | exact HQS.out _ HBd.out) (fun hHeld => ?_); clear hK K; (try simp only [List.setIfInBounds_toArray]))))
          | (refine step_on 3 rfl (by rfl) (fun K hK => ?_) ?_; (focus (have hbs : w.heap.size ≤ wx.heap.size := Nat.le_trans HBW.out HBd.out.size; refine wp_append_two wx (.tmp 60) (.tmp 61) 28 rfl w.heap.size 56 i56 _ 2 16 Tryz.underlying28 h561 h562 h563 h564 rfl (by decide) (.slice (some ⟨B0, 0, none⟩) 0 0) 0 [] rfl HEM.out ⟨ub, 0, none⟩ 2 2 whocells rfl rfl (who_src (HUB.out.below HBd.out)) (by simp [whocells, Value.oneCell']) (by decide) (by unfold maxLen; omega) (by omega) hbs ?_; intro wb wo wk wn hown hat; have HWH : Hid (Win wn w.heap.size 56 2 (.slice (some ⟨wb, wo, none⟩) 2 wk) 2 whocells) := Lib.hid hown; have hf : Fr (fun _ => True) [56] wx wn := hat.fr HEM.out (fun _ _ => trivial) (by simp); have hbb := (hat.fresh (B := W.heap.size) (fun k hk => by cases hk; exact HB0.out) HBd.out.size).1; replace HBd := Lib.hid (HBd.out.trans hbb); (try replace HTR := Lib.hid (HTR.out.fr (fun _ h => h) hf (by decide) (by decide))); (try replace HTB := Lib.hid (HTB.out.fr (fun _ h => h) hf (by decide) (by decide))); (try replace HFT := Lib.hid (HFT.out.fr (fun _ h => h) hf (by decide))); clear hown hat hf hbb hbs HEM; rename World => wx; refine hK.out _ _ (by first | (with_reducible exact HQS.out _ HBd.out) | exact HQS.out _ HBd.out) (fun hHeld => ?_); clear hK K; (try simp only [Act.put, List.setIfInBounds_toArray, List.set_cons_zero, List.set_cons_succ]))))
          | (refine step_on 5 rfl (by rfl) (fun K hK => ?_) ?_; (focus (go_simp; go_at_call 18; (with_reducible refine (C18.out _).mono ?_); rintro e wn ⟨tb, tv, rfl, htl, hb, htab⟩; have hf : Fr (fun _ => True) [] wx wn := Fr.of_below hb; (try replace HTR := Lib.hid (HTR.out.fr (fun _ h => h) hf (by decide) (by decide))); (try replace HTB := Lib.hid (HTB.out.fr (fun _ h => h) hf (by decide) (by decide))); (try replace HFT := Lib.hid (HFT.out.fr (fun _ h => h) hf (by decide))); (try replace HEM := Lib.hid (HEM.out.frT hf (by decide))); (try replace HWH := Lib.hid (HWH.out.frT hf (by decide))); have HTB : Hid (TabAt (fun k => w.heap.size ≤ k) wn tb tv [⟨0, 0, 1, true⟩]) := Lib.hid (htab.fr (fun k hk => Nat.le_trans HBW.out (Nat.le_trans HBd.out.size hk.1)) (Fr.refl (fun _ => True) [] _) (by simp) (by simp)); clear htl htab; replace HBd := Lib.hid (HBd.out.trans (hb.mono HBd.out.size)); clear hb hf; rename World => wx; refine hK.out _ _ (by first | (with_reducible exact HQS.out _ HBd.out) | exact HQS.out _ HBd.out) (fun hHeld => ?_); clear hK K; (try simp only [List.setIfInBounds_toArray]))))
          | (refine step_on 8 rfl (by rfl) (fun K hK => ?_) ?_; (focus (go_simp; go_at_call 19; (with_reducible refine (C19.out _).mono ?_); rintro e wn ⟨fb, rfl, hfb, hb, hft⟩; have hf : Fr (fun _ => True) [] wx wn := Fr.of_below hb; (try replace HTR := Lib.hid (HTR.out.fr (fun _ h => h) hf (by decide) (by decide))); (try replace HTB := Lib.hid (HTB.out.fr (fun _ h => h) hf (by decide) (by decide))); (try replace HFT := Lib.hid (HFT.out.fr (fun _ h => h) hf (by decide))); (try replace HEM := Lib.hid (HEM.out.frT hf (by decide))); (try replace HWH := Lib.hid (HWH.out.frT hf (by decide))); have HFT : Hid (FtAt (fun k => w.heap.size ≤ k) wn fb (fun _ _ => ⟨false, 0, 0, 0, 0⟩)) := Lib.hid (hft.fr (fun k hk => (by rw [hk, ← hfb]; exact Nat.le_trans HBW.out HBd.out.size)) (Fr.refl (fun _ => True) [] _) (by simp)); clear hfb hft; replace HBd := Lib.hid (HBd.out.trans (hb.mono HBd.out.size)); clear hb hf; rename World => wx; refine hK.out _ _ (by first | (with_reducible exact HQS.out _ HBd.out) | exact HQS.out _ HBd.out) (fun hHeld => ?_); clear hK K; (try simp only [List.setIfInBounds_toArray]))))
          | (refine step_on 10 rfl (by rfl) (fun K hK => ?_) ?_; (focus (go_simp; obtain ⟨wy, hwy⟩ : ∃ Y, wx.alloc (.cells #[.int .i64 64, .int .i64 256, .int .i64 64, .slice (some ⟨wb, wo, none⟩) 2 wk, .pointer (some ⟨t, 0, none⟩), .pointer (some ⟨tb, 0, none⟩), .pointer (some ⟨fb, 0, none⟩), .slice none 0 0] 73) = Y := ⟨_, rfl⟩; rw [hwy]; have hb : Below wx.heap.size wx wy := (by rw [← hwy]; exact (Below.refl _ _).alloc (Nat.le_refl _) _); have hf : Fr (fun _ => True) [] wx wy := Fr.of_below hb; have HMB : Hid (Blk wy wx.heap.size 73 #[.int .i64 64, .int .i64 256, .int .i64 64, .slice (some ⟨wb, wo, none⟩) 2 wk, .pointer (some ⟨t, 0, none⟩), .pointer (some ⟨tb, 0, none⟩), .pointer (some ⟨fb, 0, none⟩), .slice none 0 0] ∧ w.heap.size ≤ wx.heap.size) := Lib.hid ⟨by rw [← hwy]; exact Blk.new _ _ _, Nat.le_trans HBW.out HBd.out.size⟩; replace HBd := Lib.hid (HBd.out.trans (hb.mono HBd.out.size)); (try replace HTR := Lib.hid (HTR.out.fr (fun _ h => h) hf (by decide) (by decide))); (try replace HTB := Lib.hid (HTB.out.fr (fun _ h => h) hf (by decide) (by decide))); (try replace HFT := Lib.hid (HFT.out.fr (fun _ h => h) hf (by decide))); (try replace HWH := Lib.hid (HWH.out.frT hf (by decide))); clear hb hf hwy; obtain ⟨m, hm⟩ : ∃ B, wx.heap.size = B := ⟨_, rfl⟩; rw [hm] at HMB ⊢; clear hm; rename World => wx; refine hK.out _ _ (by first | (with_reducible exact HQS.out _ HBd.out) | exact HQS.out _ HBd.out) (fun hHeld => ?_); clear hK K; (try simp only [List.setIfInBounds_toArray]))))
          | (refine wpAnyH_done (by kernel_rfl) ?_ _; go_wp2_with fail; go_meet; exact ⟨m, tb, fb, wb, wo, wk, tv, rfl, HBd, HMB, Lib.hid ⟨HWH.out, ⟨_, HTR.out⟩, HTB.out, HFT.out⟩⟩)
          )
      case rest =>
      obtain ⟨m, tb, fb, wb, wo, wk, tv, rfl, HBm, HMB, HJ⟩ := hcut
      have HI : Hid (NwB w wc m t tb fb wb wo wk tv 0 (.slice none 0 0)) := Lib.hid ⟨H1B.out.trans (HBm.out.mono H1B.out.size), HMB.out.1, HMB.out.2, Win.nil _ _ _ _, HJ.out⟩
      clear HBm HMB HJ HB HTR C17 C18 C19 q0 q1 q2 q3 q4 q5 q6
      go_wp2_with fail
      go_loopw [10] (fun iv wr => ∃ (i : Nat) (cv : Value), i ≤ 2 ∧ iv = .int .i64 (i : Int) ∧ Hid (NwB w wr m t tb fb wb wo wk tv i cv)) (fun iv _ => 2 - (intOf iv).toNat)
      case atStart => exact ⟨0, _, by omega, rfl, HI⟩
      case round =>
        clear HI
        obtain ⟨i, cv, hi, rfl, HI⟩ := hrel
        obtain ⟨ua, uc, rfl⟩ := HI.out.cwd.value
        obtain ⟨m7, mf⟩ := m8_cells HI.out.blk
        by_cases hlt : i < 2
        · have k0 : (0 : Int) ≤ (i : Int) := by omega
          have k1 : (i : Int) < 2 := by omega
          go_upto_region 16 with (first | (at_builtin; go_must (refine wpList_append_two _ rfl (.tmp 80) (.tmp 82) 71 rfl w.heap.size 75 i75 _ 2 16 Tryz.underlying71 h751 h752 h753 h754 rfl (by decide) (.slice ua i uc) i (cwl i) rfl (HI.out.cwd.alloc _) ⟨wr.heap.size, 0, none⟩ 1 1 [.int .i64 0, .int .i64 1] rfl rfl (new_cells wr [.int .i64 0, .int .i64 1] 75) (by simp [Value.oneCell']) (by decide) (by unfold maxLen; omega) (by omega) (by have := HI.out.bel.size; simp; omega) ?_; intro f' o' cap' w4 hown hat; obtain ⟨p1, p2, p3, p4, p5⟩ := NwB.push HI.out hat hown; have HP := Lib.hid (And.intro p2 (And.intro p3 (And.intro p4 p5))); clear m7 mf; obtain ⟨m7, mf⟩ := m8_cells p1; clear hown hat p1 p2 p3 p4 p5)))
          generalize w4.setCell ⟨m, 7, none⟩ (.slice (some ⟨f', o', none⟩) (i + 1) cap') = w5 at HP ⊢
          obtain ⟨N2, hN⟩ := HP.out.2.2.2.tr
          have HNN := Lib.hid hN
          have C20 := hold_any hN (by omega) 1 ⟨by omega, by omega⟩
          clear hN m7 mf
          go_wp2_with (first | (go_at_call 20; (with_reducible refine C20.mono ?_); rintro e w6 ⟨code, rfl, _, _, hh⟩; have HI6 := Lib.hid (NwB.held HP.out.1 HP.out.2.1 HI.out.mge HP.out.2.2.1 HP.out.2.2.2 hh); clear hh))
          go_roundw
          case rel => exact ⟨i + 1, _, by omega, by go_num, HI6⟩
          case measure => simp [intOf]; omega
        · obtain rfl : i = 2 := by omega
          go_wp2_with fail
          exact two_retV rfl rfl rfl HI.out.done
end Go.Proofs.YtfjghemojnhmbaaGreat
