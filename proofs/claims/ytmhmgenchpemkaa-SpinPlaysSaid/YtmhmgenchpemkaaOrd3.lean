/- The reference's new run: its last region. -/
import Derived.Test.YtmhmgenchpemkaaOrd2
namespace Go.Proofs.Ytmhmgenchpemkaa
open Go.RowKit

def zst : Array Value := #[.bool false, .int .i64 0, .int .i64 0, .int .i64 0]
def zcs (n : Nat) (k : Nat) : Array Value := if k = 5 then madeCells zst (n * 4) else madeCells #[.int .i64 0] (n * 1)
theorem region15 {ops : Array Oper} {Q : Exit → Act → World → Prop} {A0 : Act} {W w0 : World} {n : Nat} {js : List Jb} {vJ : Value} {o1 o3 o5 o7 o9 o11 : Oper}
    (p1 : ops[1]? = some o1) (p3 : ops[3]? = some o3) (p5 : ops[5]? = some o5) (p7 : ops[7]? = some o7) (p9 : ops[9]? = some o9) (p11 : ops[11]? = some o11)
    (g1 : o1.guard = none ∧ o1.op = .buildSlice 51 0 #[] ∧ o1.dst = some 67) (g3 : o3.guard = none ∧ o3.op = .call { callee := .builtin .append, args := #[.tmp 67, .tmp 68], argTypes := #[51, 51] } ∧ o3.dst = some 69)
    (g5 : o5.guard = none ∧ o5.op = .makeSlice 45 (.tmp 70) (.tmp 70) ∧ o5.dst = some 71) (g7 : o7.guard = none ∧ o7.op = .makeSlice 35 (.tmp 72) (.tmp 72) ∧ o7.dst = some 73)
    (g9 : o9.guard = none ∧ o9.op = .makeSlice 45 (.tmp 74) (.tmp 74) ∧ o9.dst = some 75) (g11 : o11.guard = none ∧ o11.op = .makeSlice 63 (.tmp 76) (.tmp 76) ∧ o11.dst = some 77)
    (hr : ∀ d0 d1 d2 d3 d4 d5, (d1 = true → d0 = true) → (d0 && d1 && d2 && d3 && d4 && d5) = false → Region.ready .any ops (lst d0 d1 d2 d3 d4 d5) =
      (if d0 then [] else [1]) ++ (if d0 && !d1 then [3] else []) ++ (if d2 then [] else [5]) ++ (if d3 then [] else [7]) ++ (if d4 then [] else [9]) ++ (if d5 then [] else [11]))
    (hs : 77 < A0.tmps.size) (e68 : A0.eval (.tmp 68) = vJ) (e70 : A0.eval (.tmp 70) = .int .i64 n) (e72 : A0.eval (.tmp 72) = .int .i64 n) (e74 : A0.eval (.tmp 74) = .int .i64 n) (e76 : A0.eval (.tmp 76) = .int .i64 n)
    (hu : put6 A0 (fun _ => undef) = A0) (hn : js.length = n) (h8 : n ≤ 8) (hB : Below w0.heap.size w0 W) {b0 : Nat} (hj : Win w0 b0 88 5 vJ js.length (jcells js)) (hj0 : js = [] → vJ = .slice none 0 0)
    (he : ∀ v g w, WI w0 n js (zcs n) (dv true true true true true true) v g w → wpAny Try.prog .any ops Q 4 (lst true true true true true true) (put6 A0 v) w) :
    wpAny Try.prog .any ops Q 10 (lst false false false false false false) A0 W := by
  obtain ⟨i2, q2, z2, s2, b2⟩ := info_parts info2
  obtain ⟨i3, q3, z3, s3, b3⟩ := info_parts info3
  obtain ⟨i53, q53, z53, s53, b53⟩ := info_parts info53
  refine ord (fun d0 d1 d2 d3 d4 d5 a w => ∃ v g, a = put6 A0 v ∧ WI w0 n js (zcs n) (dv d0 d1 d2 d3 d4 d5) v g w) hr ?_ ?_ ?_ ?_ ?_ ?_ ?_ 6 false false false false false false A0 W rfl (by simp) ⟨fun _ => undef, fun _ => 0, hu.symm, ⟨hB, fun h => (by cases h), fun h => (by cases h), fun k k2 k6 h => ?_⟩⟩
  · rintro d2 d3 d4 d5 a w ⟨v, g, rfl, h⟩
    refine step_empty p1 g1.1 g1.2.1 ?_
    rw [g1.2.2]
    exact ⟨_, _, put6_put A0 v 0 (by omega) _, h.empty (d' := dv true false d2 d3 d4 d5) rfl (fun j hj => by
      match j, hj with
      | 2, _ | 3, _ | 4, _ | 5, _ => rfl
      | j + 6, _ => rfl)⟩
  · rintro d2 d3 d4 d5 a w ⟨v, g, rfl, h⟩
    obtain ⟨r1, r2, r3, r4⟩ := h.e0 rfl
    have r4 := r4 rfl
    rw [r1] at r4
    refine step_jobs (g := g 0) (js := js) p3 g3.1 g3.2.1 (by rw [put6_eval0 A0 v hs, r1]) (by rw [put6_eval A0 v 68 (by omega), e68]) r4 (hj.below h.bel) hj0 (by omega) h.bel.size ?_
    intro v' w' hw hg hJ
    rw [g3.2.2]
    exact ⟨_, g, put6_put A0 v 1 (by omega) _, h.jobs (d' := dv true true d2 d3 d4 d5) rfl rfl (fun j hj => by
      match j, hj with
      | 0, _ | 2, _ | 3, _ | 4, _ | 5, _ => rfl
      | j + 6, _ => rfl
      | 1, h => exact absurd rfl h) hw hg hJ⟩
  · rintro d0 d1 d3 d4 d5 a w ⟨v, g, rfl, h⟩
    refine step_make p5 g5.1 g5.2.1 (n := n) (by rw [put6_eval A0 v 70 (by omega), e70]) h8 Try.underlying45 q3 z3 s3 b3 (by omega) ?_
    rw [g5.2.2]
    exact ⟨_, _, put6_put A0 v 2 (by omega) _, h.make (d' := dv d0 d1 true d3 d4 d5) (k := 2) (by omega) (by omega) rfl (fun j hj => by
      match j, hj with
      | 0, _ | 1, _ | 3, _ | 4, _ | 5, _ => rfl
      | j + 6, _ => rfl
      | 2, h => exact absurd rfl h) 3⟩
  · rintro d0 d1 d2 d4 d5 a w ⟨v, g, rfl, h⟩
    refine step_make p7 g7.1 g7.2.1 (n := n) (by rw [put6_eval A0 v 72 (by omega), e72]) h8 Try.underlying35 q2 z2 s2 b2 (by omega) ?_
    rw [g7.2.2]
    exact ⟨_, _, put6_put A0 v 3 (by omega) _, h.make (d' := dv d0 d1 d2 true d4 d5) (k := 3) (by omega) (by omega) rfl (fun j hj => by
      match j, hj with
      | 0, _ | 1, _ | 2, _ | 4, _ | 5, _ => rfl
      | j + 6, _ => rfl
      | 3, h => exact absurd rfl h) 2⟩
  · rintro d0 d1 d2 d3 d5 a w ⟨v, g, rfl, h⟩
    refine step_make p9 g9.1 g9.2.1 (n := n) (by rw [put6_eval A0 v 74 (by omega), e74]) h8 Try.underlying45 q3 z3 s3 b3 (by omega) ?_
    rw [g9.2.2]
    exact ⟨_, _, put6_put A0 v 4 (by omega) _, h.make (d' := dv d0 d1 d2 d3 true d5) (k := 4) (by omega) (by omega) rfl (fun j hj => by
      match j, hj with
      | 0, _ | 1, _ | 2, _ | 3, _ | 5, _ => rfl
      | j + 6, _ => rfl
      | 4, h => exact absurd rfl h) 3⟩
  · rintro d0 d1 d2 d3 d4 a w ⟨v, g, rfl, h⟩
    refine step_make p11 g11.1 g11.2.1 (n := n) (by rw [put6_eval A0 v 76 (by omega), e76]) h8 Try.underlying63 q53 z53 s53 b53 (by omega) ?_
    rw [g11.2.2]
    exact ⟨_, _, put6_put A0 v 5 (by omega) _, h.make (d' := dv d0 d1 d2 d3 d4 true) (k := 5) (by omega) (by omega) rfl (fun j hj => by
      match j, hj with
      | 0, _ | 1, _ | 2, _ | 3, _ | 4, _ => rfl
      | j + 6, _ => rfl
      | 5, h => exact absurd rfl h) 53⟩
  · rintro a w ⟨v, g, rfl, h⟩
    exact he v g w h
  · match k, k6, h with
    | 0, _, h | 1, _, h | 2, _, h | 3, _, h | 4, _, h | 5, _, h => cases h
end Go.Proofs.Ytmhmgenchpemkaa
