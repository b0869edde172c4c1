/- The program's machine and the reference's job go alike: plain Lean. -/
import Derived.Test.YtmhmgenchpemkaaRPick
namespace Go.Proofs.Ytmhmgenchpemkaa
open Go.RowKit

def Phase (j : Jb) (x : Mch) (y : RS) : Prop :=
  if j.kind = 1 then (x.pc = 0 ∧ y.pc = 0) ∨ (x.pc = 3 ∧ y.pc = 1 ∧ 0 < x.left) ∨ (x.pc = 5 ∧ y.pc = 2)
  else if j.kind = 2 then (x.pc = 0 ∧ y.pc = 0) ∨ (x.pc = 1 ∧ y.pc = 1) ∨ (x.pc = 2 ∧ y.pc = 2) ∨ (x.pc = 3 ∧ y.pc = 3 ∧ 0 < x.left) ∨ (x.pc = 3 ∧ y.pc = 4 ∧ x.left = 0) ∨ (x.pc = 5 ∧ y.pc = 5)
  else (x.pc = 0 ∧ y.pc = 0) ∨ (x.pc = 2 ∧ y.pc = 1) ∨ (x.pc = 3 ∧ y.pc = 2 ∧ 0 < x.left ∧ y.a = x.ra) ∨ (x.pc = 3 ∧ y.pc = 3 ∧ x.left = 0 ∧ y.a = x.ra) ∨ (x.pc = 5 ∧ y.pc = 4 ∧ y.a = x.ra ∧ y.b = x.rb)
structure Rel (j : Jb) (x : Mch) (y : RS) : Prop where
  job : x.kind = j.kind ∧ x.at_ = j.at_ ∧ x.work = j.work ∧ x.a = j.a ∧ x.b = j.b
  done : x.done = y.done
  tries : x.tries = y.tries
  go : y.done = false → x.count = y.cnt ∧ x.left = y.left ∧ 0 ≤ x.left ∧ x.left ≤ 100 ∧ x.sa = 0 ∧ x.sb = 0 ∧ Phase j x y
  told : y.done = true → x.sa = y.a ∧ x.sb = y.b
  zero : j.kind ≠ 3 → y.a = 0 ∧ y.b = 0
theorem Rel.new (j : Jb) : Rel j j.mch RS.zero := by
  refine ⟨⟨rfl, rfl, rfl, rfl, rfl⟩, rfl, rfl, fun _ => ⟨rfl, rfl, Int.le_refl 0, (by show (0 : Int) ≤ 100; omega), rfl, rfl, ?_⟩, fun h => (by cases h), fun _ => ⟨rfl, rfl⟩⟩
  unfold Phase
  split
  · exact .inl ⟨rfl, rfl⟩
  · split
    · exact .inl ⟨rfl, rfl⟩
    · exact .inl ⟨rfl, rfl⟩
theorem Rel.shown {j : Jb} {x : Mch} {y : RS} (h : Rel j x y) : y.shown = x.st := by
  unfold RS.shown Mch.st
  cases hd : y.done
  · obtain ⟨_, _, _, _, e1, e2, _⟩ := h.go hd
    rw [if_neg (by simp), h.done, hd, e1, e2, h.tries]
  · obtain ⟨e1, e2⟩ := h.told hd
    rw [if_pos rfl, RS.st, h.done, e1, e2, h.tries]
theorem Rel.pc {j : Jb} {x : Mch} {y : RS} (h : Rel j x y) (hd : y.done = false) : okPc j y := by
  obtain ⟨_, _, _, _, _, _, hp⟩ := h.go hd
  unfold Phase at hp
  unfold okPc
  split at hp
  · rw [if_pos (by assumption)]; omega
  · rw [if_neg (by assumption)]
    split at hp
    · rw [if_pos (by assumption)]; omega
    · rw [if_neg (by assumption)]; omega
theorem wrapm {z : Int} (h0 : 0 ≤ z) (h1 : z ≤ 100) : wrap64 (z - 1) = z - 1 := by unfold wrap64; omega
theorem sim_hold {j : Jb} {x : Mch} {y : RS} {s : MS} {num : Int} (h : Rel j x y) (hd : y.done = false) (hk : j.kind = 1) (hw : 0 ≤ j.work ∧ j.work ≤ 100) : (holdM s x num).2 = (holdR s j y num).2 ∧ Rel j (holdM s x num).1 (holdR s j y num).1 := by
  obtain ⟨g1, g2, g3, g4, g5, g6, hp⟩ := h.go hd
  obtain ⟨j1, j2, j3, j4, j5⟩ := h.job
  obtain ⟨z1, z2⟩ := h.zero (by omega)
  have ht := h.tries
  have hdx := h.done
  have w1 := wrapm g3 g4
  unfold Phase at hp
  rw [if_pos hk] at hp
  rcases hp with ⟨p, q⟩ | ⟨p, q, l⟩ | ⟨p, q⟩
  · by_cases sw : (s.swap x.at_ 0 num).1 = true
    · have e1 : holdM s x num = ({ x with left := x.work, pc := if x.work = 0 then 5 else 3 }, (s.swap x.at_ 0 num).2.2) := by
        unfold holdM
        rw [if_pos p, if_pos sw]
      have e2 : holdR s j y num = (y.next j 1 2, (s.swap x.at_ 0 num).2.2) := by
        unfold holdR
        rw [if_pos q, ← j2, if_pos sw]
      rw [e1, e2]
      refine ⟨rfl, ⟨j1, j2, j3, j4, j5⟩, hdx, ht, fun _ => ⟨g1, j3, (by show 0 ≤ x.work; omega), (by show x.work ≤ 100; omega), g5, g6, ?_⟩, fun e => (by have e : y.done = true := e; rw [hd] at e; cases e), fun _ => ⟨z1, z2⟩⟩
      unfold Phase
      rw [if_pos hk]
      simp only [RS.next, j3]
      by_cases w0 : j.work = 0
      · rw [if_pos w0, if_neg (by omega)]
        exact .inr (.inr ⟨rfl, rfl⟩)
      · rw [if_neg w0, if_pos (by omega)]
        exact .inr (.inl ⟨rfl, rfl, by omega⟩)
    · have e1 : holdM s x num = (x.again, (s.swap x.at_ 0 num).2.2) := by
        unfold holdM
        rw [if_pos p, if_neg sw]
      have e2 : holdR s j y num = (y.again, (s.swap x.at_ 0 num).2.2) := by
        unfold holdR
        rw [if_pos q, ← j2, if_neg sw]
      rw [e1, e2]
      refine ⟨rfl, ⟨j1, j2, j3, j4, j5⟩, hdx, (by show wrap64 (x.tries + 1) = wrap64 (y.tries + 1); rw [ht]), fun _ => ⟨g1, g2, g3, g4, g5, g6, ?_⟩, fun e => (by have e : y.done = true := e; rw [hd] at e; cases e), fun _ => ⟨z1, z2⟩⟩
      unfold Phase
      rw [if_pos hk]
      exact .inl ⟨rfl, q⟩
  · by_cases l0 : wrap64 (x.left - 1) = 0
    · have e1 : holdM s x num = ({ x with left := wrap64 (x.left - 1), pc := 5 }, (s.load x.at_).2.2) := by
        unfold holdM
        rw [if_neg (show ¬ x.pc = 0 by omega), if_pos p, if_pos l0]
      have e2 : holdR s j y num = ({ y with left := wrap64 (y.left - 1), pc := 2 }, (s.load x.at_).2.2) := by
        unfold holdR
        rw [if_neg (show ¬ y.pc = 0 by omega), if_pos q, RS.work, if_pos (show wrap64 (y.left - 1) = 0 by rw [← g2]; exact l0), ← j2]
      rw [e1, e2]
      refine ⟨rfl, ⟨j1, j2, j3, j4, j5⟩, hdx, ht, fun _ => ⟨g1, (by show wrap64 (x.left - 1) = wrap64 (y.left - 1); rw [g2]), (by show 0 ≤ wrap64 (x.left - 1); rw [w1]; omega), (by show wrap64 (x.left - 1) ≤ 100; rw [w1]; omega), g5, g6, ?_⟩, fun e => (by have e : y.done = true := e; rw [hd] at e; cases e), fun _ => ⟨z1, z2⟩⟩
      unfold Phase
      rw [if_pos hk]
      exact .inr (.inr (⟨rfl, rfl⟩))
    · have e1 : holdM s x num = ({ x with left := wrap64 (x.left - 1), pc := 3 }, (s.load x.at_).2.2) := by
        unfold holdM
        rw [if_neg (show ¬ x.pc = 0 by omega), if_pos p, if_neg l0]
      have e2 : holdR s j y num = ({ y with left := wrap64 (y.left - 1) }, (s.load x.at_).2.2) := by
        unfold holdR
        rw [if_neg (show ¬ y.pc = 0 by omega), if_pos q, RS.work, if_neg (show ¬ wrap64 (y.left - 1) = 0 by rw [← g2]; exact l0), ← j2]
      rw [e1, e2]
      refine ⟨rfl, ⟨j1, j2, j3, j4, j5⟩, hdx, ht, fun _ => ⟨g1, (by show wrap64 (x.left - 1) = wrap64 (y.left - 1); rw [g2]), (by show 0 ≤ wrap64 (x.left - 1); rw [w1]; omega), (by show wrap64 (x.left - 1) ≤ 100; rw [w1]; omega), g5, g6, ?_⟩, fun e => (by have e : y.done = true := e; rw [hd] at e; cases e), fun _ => ⟨z1, z2⟩⟩
      unfold Phase
      rw [if_pos hk]
      exact .inr (.inl ⟨rfl, q, by show 0 < wrap64 (x.left - 1); omega⟩)
  · have e1 : holdM s x num = ({ x with done := true }, (s.store x.at_ 0).2) := by
      unfold holdM
      rw [if_neg (show ¬ x.pc = 0 by omega), if_neg (show ¬ x.pc = 3 by omega)]
    have e2 : holdR s j y num = ({ y with done := true }, (s.store x.at_ 0).2) := by
      unfold holdR
      rw [if_neg (show ¬ y.pc = 0 by omega), if_neg (show ¬ y.pc = 1 by omega), ← j2]
    rw [e1, e2]
    exact ⟨rfl, ⟨j1, j2, j3, j4, j5⟩, rfl, ht, fun e => (by cases e), fun _ => ⟨by show x.sa = y.a; rw [g5, z1], by show x.sb = y.b; rw [g6, z2]⟩, fun _ => ⟨z1, z2⟩⟩
theorem sim_write {j : Jb} {x : Mch} {y : RS} {s : MS} (h : Rel j x y) (hd : y.done = false) (hk : j.kind = 2) (hw : 0 ≤ j.work ∧ j.work ≤ 100) : (pairM s x).2 = (writeR s j y).2 ∧ Rel j (pairM s x).1 (writeR s j y).1 := by
  obtain ⟨g1, g2, g3, g4, g5, g6, hp⟩ := h.go hd
  obtain ⟨j1, j2, j3, j4, j5⟩ := h.job
  obtain ⟨z1, z2⟩ := h.zero (by omega)
  have ht := h.tries
  have hdx := h.done
  have w1 := wrapm g3 g4
  have nk : ¬ j.kind = 1 := by omega
  have k2 : x.kind = 2 := by omega
  unfold Phase at hp
  rw [if_neg nk, if_pos hk] at hp
  rcases hp with ⟨p, q⟩ | ⟨p, q⟩ | ⟨p, q⟩ | ⟨p, q, l⟩ | ⟨p, q, l⟩ | ⟨p, q⟩
  · by_cases ev : (s.load x.at_).1 % 2 = 0
    · have e1 : pairM s x = ({ x with count := (s.load x.at_).1, pc := 1 }, (s.load x.at_).2.2) := by
        unfold pairM
        rw [if_pos p, if_pos ev, if_pos k2]
      have e2 : writeR s j y = ({ y with cnt := (s.load x.at_).1, pc := 1 }, (s.load x.at_).2.2) := by
        unfold writeR
        rw [if_pos q, ← j2, if_pos ev]
      rw [e1, e2]
      refine ⟨rfl, ⟨j1, j2, j3, j4, j5⟩, hdx, ht, fun _ => ⟨rfl, g2, g3, g4, g5, g6, ?_⟩, fun e => (by have e : y.done = true := e; rw [hd] at e; cases e), fun _ => ⟨z1, z2⟩⟩
      unfold Phase
      rw [if_neg nk, if_pos hk]
      exact .inr (.inl ⟨rfl, rfl⟩)
    · have e1 : pairM s x = (({ x with count := (s.load x.at_).1 } : Mch).again, (s.load x.at_).2.2) := by
        unfold pairM
        rw [if_pos p, if_neg ev]
      have e2 : writeR s j y = ({ y with cnt := (s.load x.at_).1, tries := wrap64 (y.tries + 1) }, (s.load x.at_).2.2) := by
        unfold writeR
        rw [if_pos q, ← j2, if_neg ev]
      rw [e1, e2]
      refine ⟨rfl, ⟨j1, j2, j3, j4, j5⟩, hdx, (by show wrap64 (x.tries + 1) = wrap64 (y.tries + 1); rw [ht]), fun _ => ⟨rfl, g2, g3, g4, g5, g6, ?_⟩, fun e => (by have e : y.done = true := e; rw [hd] at e; cases e), fun _ => ⟨z1, z2⟩⟩
      unfold Phase
      rw [if_neg nk, if_pos hk]
      exact .inl ⟨rfl, q⟩
  · by_cases sw : (s.swap x.at_ x.count (wrap64 (x.count + 1))).1 = true
    · have e1 : pairM s x = ({ x with pc := 2 }, (s.swap x.at_ x.count (wrap64 (x.count + 1))).2.2) := by
        unfold pairM
        rw [if_neg (show ¬ x.pc = 0 by omega), if_pos p, if_pos sw]
      have e2 : writeR s j y = ({ y with pc := 2 }, (s.swap x.at_ x.count (wrap64 (x.count + 1))).2.2) := by
        unfold writeR
        rw [if_neg (show ¬ y.pc = 0 by omega), if_pos q, ← j2, ← g1, if_pos sw]
      rw [e1, e2]
      refine ⟨rfl, ⟨j1, j2, j3, j4, j5⟩, hdx, ht, fun _ => ⟨g1, g2, g3, g4, g5, g6, ?_⟩, fun e => (by have e : y.done = true := e; rw [hd] at e; cases e), fun _ => ⟨z1, z2⟩⟩
      unfold Phase
      rw [if_neg nk, if_pos hk]
      exact .inr (.inr (.inl ⟨rfl, rfl⟩))
    · have e1 : pairM s x = (x.again, (s.swap x.at_ x.count (wrap64 (x.count + 1))).2.2) := by
        unfold pairM
        rw [if_neg (show ¬ x.pc = 0 by omega), if_pos p, if_neg sw]
      have e2 : writeR s j y = ({ y with tries := wrap64 (y.tries + 1), pc := 0 }, (s.swap x.at_ x.count (wrap64 (x.count + 1))).2.2) := by
        unfold writeR
        rw [if_neg (show ¬ y.pc = 0 by omega), if_pos q, ← j2, ← g1, if_neg sw]
      rw [e1, e2]
      refine ⟨rfl, ⟨j1, j2, j3, j4, j5⟩, hdx, (by show wrap64 (x.tries + 1) = wrap64 (y.tries + 1); rw [ht]), fun _ => ⟨g1, g2, g3, g4, g5, g6, ?_⟩, fun e => (by have e : y.done = true := e; rw [hd] at e; cases e), fun _ => ⟨z1, z2⟩⟩
      unfold Phase
      rw [if_neg nk, if_pos hk]
      exact .inl ⟨rfl, rfl⟩
  · have e1 : pairM s x = ({ x with pc := 3, left := x.work }, (s.store (wrap64 (x.at_ + 1)) x.a).2) := by
      unfold pairM
      rw [if_neg (show ¬ x.pc = 0 by omega), if_neg (show ¬ x.pc = 1 by omega), if_pos p, if_pos k2]
    have e2 : writeR s j y = (y.next j 3 4, (s.store (wrap64 (x.at_ + 1)) x.a).2) := by
      unfold writeR
      rw [if_neg (show ¬ y.pc = 0 by omega), if_neg (show ¬ y.pc = 1 by omega), if_pos q, ← j2, ← j4]
    rw [e1, e2]
    refine ⟨rfl, ⟨j1, j2, j3, j4, j5⟩, hdx, ht, fun _ => ⟨g1, j3, (by show 0 ≤ x.work; omega), (by show x.work ≤ 100; omega), g5, g6, ?_⟩, fun e => (by have e : y.done = true := e; rw [hd] at e; cases e), fun _ => ⟨z1, z2⟩⟩
    unfold Phase
    rw [if_neg nk, if_pos hk]
    simp only [RS.next, j3]
    by_cases w0 : j.work = 0
    · rw [if_neg (by omega)]
      exact .inr (.inr (.inr (.inr (.inl ⟨(by first | rfl | trivial), (by first | rfl | trivial), w0⟩))))
    · rw [if_pos (by omega)]
      exact .inr (.inr (.inr (.inl ⟨(by first | rfl | trivial), (by first | rfl | trivial), by omega⟩)))
  · by_cases l0 : wrap64 (x.left - 1) = 0
    · have e1 : pairM s x = ({ x with left := wrap64 (x.left - 1) }, (s.load x.at_).2.2) := by
        unfold pairM
        rw [if_neg (show ¬ x.pc = 0 by omega), if_neg (show ¬ x.pc = 1 by omega), if_neg (show ¬ x.pc = 2 by omega), if_pos p, if_neg (show ¬ x.left = 0 by omega)]
      have e2 : writeR s j y = ({ y with left := wrap64 (y.left - 1), pc := 4 }, (s.load x.at_).2.2) := by
        unfold writeR
        rw [if_neg (show ¬ y.pc = 0 by omega), if_neg (show ¬ y.pc = 1 by omega), if_neg (show ¬ y.pc = 2 by omega), if_pos q, RS.work, if_pos (show wrap64 (y.left - 1) = 0 by rw [← g2]; exact l0), ← j2]
      rw [e1, e2]
      refine ⟨rfl, ⟨j1, j2, j3, j4, j5⟩, hdx, ht, fun _ => ⟨g1, (by show wrap64 (x.left - 1) = wrap64 (y.left - 1); rw [g2]), (by show 0 ≤ wrap64 (x.left - 1); rw [w1]; omega), (by show wrap64 (x.left - 1) ≤ 100; rw [w1]; omega), g5, g6, ?_⟩, fun e => (by have e : y.done = true := e; rw [hd] at e; cases e), fun _ => ⟨z1, z2⟩⟩
      unfold Phase
      rw [if_neg nk, if_pos hk]
      exact .inr (.inr (.inr (.inr (.inl ⟨p, rfl, l0⟩))))
    · have e1 : pairM s x = ({ x with left := wrap64 (x.left - 1) }, (s.load x.at_).2.2) := by
        unfold pairM
        rw [if_neg (show ¬ x.pc = 0 by omega), if_neg (show ¬ x.pc = 1 by omega), if_neg (show ¬ x.pc = 2 by omega), if_pos p, if_neg (show ¬ x.left = 0 by omega)]
      have e2 : writeR s j y = ({ y with left := wrap64 (y.left - 1) }, (s.load x.at_).2.2) := by
        unfold writeR
        rw [if_neg (show ¬ y.pc = 0 by omega), if_neg (show ¬ y.pc = 1 by omega), if_neg (show ¬ y.pc = 2 by omega), if_pos q, RS.work, if_neg (show ¬ wrap64 (y.left - 1) = 0 by rw [← g2]; exact l0), ← j2]
      rw [e1, e2]
      refine ⟨rfl, ⟨j1, j2, j3, j4, j5⟩, hdx, ht, fun _ => ⟨g1, (by show wrap64 (x.left - 1) = wrap64 (y.left - 1); rw [g2]), (by show 0 ≤ wrap64 (x.left - 1); rw [w1]; omega), (by show wrap64 (x.left - 1) ≤ 100; rw [w1]; omega), g5, g6, ?_⟩, fun e => (by have e : y.done = true := e; rw [hd] at e; cases e), fun _ => ⟨z1, z2⟩⟩
      unfold Phase
      rw [if_neg nk, if_pos hk]
      exact .inr (.inr (.inr (.inl ⟨p, q, by show 0 < wrap64 (x.left - 1); omega⟩)))
  · have e1 : pairM s x = ({ x with pc := 5 }, (s.store (wrap64 (x.at_ + 2)) x.b).2) := by
      unfold pairM
      rw [if_neg (show ¬ x.pc = 0 by omega), if_neg (show ¬ x.pc = 1 by omega), if_neg (show ¬ x.pc = 2 by omega), if_pos p, if_pos l, secondM, if_pos k2]
    have e2 : writeR s j y = ({ y with pc := 5 }, (s.store (wrap64 (x.at_ + 2)) x.b).2) := by
      unfold writeR
      rw [if_neg (show ¬ y.pc = 0 by omega), if_neg (show ¬ y.pc = 1 by omega), if_neg (show ¬ y.pc = 2 by omega), if_neg (show ¬ y.pc = 3 by omega), if_pos q, ← j2, ← j5]
    rw [e1, e2]
    refine ⟨rfl, ⟨j1, j2, j3, j4, j5⟩, hdx, ht, fun _ => ⟨g1, g2, g3, g4, g5, g6, ?_⟩, fun e => (by have e : y.done = true := e; rw [hd] at e; cases e), fun _ => ⟨z1, z2⟩⟩
    unfold Phase
    rw [if_neg nk, if_pos hk]
    exact .inr (.inr (.inr (.inr (.inr (⟨rfl, rfl⟩)))))
  · have e1 : pairM s x = ({ x with done := true }, (s.store x.at_ (wrap64 (x.count + 2))).2) := by
      unfold pairM
      rw [if_neg (show ¬ x.pc = 0 by omega), if_neg (show ¬ x.pc = 1 by omega), if_neg (show ¬ x.pc = 2 by omega), if_neg (show ¬ x.pc = 3 by omega), if_neg (show ¬ x.pc = 4 by omega), finishM, if_pos k2]
    have e2 : writeR s j y = ({ y with done := true }, (s.store x.at_ (wrap64 (x.count + 2))).2) := by
      unfold writeR
      rw [if_neg (show ¬ y.pc = 0 by omega), if_neg (show ¬ y.pc = 1 by omega), if_neg (show ¬ y.pc = 2 by omega), if_neg (show ¬ y.pc = 3 by omega), if_neg (show ¬ y.pc = 4 by omega), ← j2, ← g1]
    rw [e1, e2]
    exact ⟨rfl, ⟨j1, j2, j3, j4, j5⟩, rfl, ht, fun e => (by cases e), fun _ => ⟨by show x.sa = y.a; rw [g5, z1], by show x.sb = y.b; rw [g6, z2]⟩, fun _ => ⟨z1, z2⟩⟩
theorem sim_read {j : Jb} {x : Mch} {y : RS} {s : MS} (h : Rel j x y) (hd : y.done = false) (hk : j.kind = 3) (hw : 0 ≤ j.work ∧ j.work ≤ 100) : (pairM s x).2 = (readR s j y).2 ∧ Rel j (pairM s x).1 (readR s j y).1 := by
  obtain ⟨g1, g2, g3, g4, g5, g6, hp⟩ := h.go hd
  obtain ⟨j1, j2, j3, j4, j5⟩ := h.job
  have ht := h.tries
  have hdx := h.done
  have w1 := wrapm g3 g4
  have nk : ¬ j.kind = 1 := by omega
  have k2 : ¬ x.kind = 2 := by omega
  have nk2 : ¬ j.kind = 2 := by omega
  unfold Phase at hp
  rw [if_neg nk, if_neg nk2] at hp
  rcases hp with ⟨p, q⟩ | ⟨p, q⟩ | ⟨p, q, l, ra⟩ | ⟨p, q, l, ra⟩ | ⟨p, q, ra, rb⟩
  · by_cases ev : (s.load x.at_).1 % 2 = 0
    · have e1 : pairM s x = ({ x with count := (s.load x.at_).1, pc := 2 }, (s.load x.at_).2.2) := by
        unfold pairM
        rw [if_pos p, if_pos ev, if_neg k2]
      have e2 : readR s j y = ({ y with cnt := (s.load x.at_).1, pc := 1 }, (s.load x.at_).2.2) := by
        unfold readR
        rw [if_pos q, ← j2, if_pos ev]
      rw [e1, e2]
      refine ⟨rfl, ⟨j1, j2, j3, j4, j5⟩, hdx, ht, fun _ => ⟨rfl, g2, g3, g4, g5, g6, ?_⟩, fun e => (by have e : y.done = true := e; rw [hd] at e; cases e), fun e => absurd hk e⟩
      unfold Phase
      rw [if_neg nk, if_neg nk2]
      exact .inr (.inl ⟨rfl, rfl⟩)
    · have e1 : pairM s x = (({ x with count := (s.load x.at_).1 } : Mch).again, (s.load x.at_).2.2) := by
        unfold pairM
        rw [if_pos p, if_neg ev]
      have e2 : readR s j y = ({ y with cnt := (s.load x.at_).1, tries := wrap64 (y.tries + 1) }, (s.load x.at_).2.2) := by
        unfold readR
        rw [if_pos q, ← j2, if_neg ev]
      rw [e1, e2]
      refine ⟨rfl, ⟨j1, j2, j3, j4, j5⟩, hdx, (by show wrap64 (x.tries + 1) = wrap64 (y.tries + 1); rw [ht]), fun _ => ⟨rfl, g2, g3, g4, g5, g6, ?_⟩, fun e => (by have e : y.done = true := e; rw [hd] at e; cases e), fun e => absurd hk e⟩
      unfold Phase
      rw [if_neg nk, if_neg nk2]
      exact .inl ⟨rfl, q⟩
  · have e1 : pairM s x = ({ x with pc := 3, left := x.work, ra := (s.load (wrap64 (x.at_ + 1))).1 }, (s.load (wrap64 (x.at_ + 1))).2.2) := by
      unfold pairM
      rw [if_neg (show ¬ x.pc = 0 by omega), if_neg (show ¬ x.pc = 1 by omega), if_pos p, if_neg k2]
    have e2 : readR s j y = (({ y with a := (s.load (wrap64 (x.at_ + 1))).1 } : RS).next j 2 3, (s.load (wrap64 (x.at_ + 1))).2.2) := by
      unfold readR
      rw [if_neg (show ¬ y.pc = 0 by omega), if_pos q, ← j2]
    rw [e1, e2]
    refine ⟨rfl, ⟨j1, j2, j3, j4, j5⟩, hdx, ht, fun _ => ⟨g1, j3, (by show 0 ≤ x.work; omega), (by show x.work ≤ 100; omega), g5, g6, ?_⟩, fun e => (by have e : y.done = true := e; rw [hd] at e; cases e), fun e => absurd hk e⟩
    unfold Phase
    rw [if_neg nk, if_neg nk2]
    simp only [RS.next, j3]
    by_cases w0 : j.work = 0
    · rw [if_neg (by omega)]
      exact .inr (.inr (.inr (.inl ⟨(by first | rfl | trivial), (by first | rfl | trivial), w0, (by first | rfl | trivial)⟩)))
    · rw [if_pos (by omega)]
      exact .inr (.inr (.inl ⟨(by first | rfl | trivial), (by first | rfl | trivial), by omega, (by first | rfl | trivial)⟩))
  · by_cases l0 : wrap64 (x.left - 1) = 0
    · have e1 : pairM s x = ({ x with left := wrap64 (x.left - 1) }, (s.load x.at_).2.2) := by
        unfold pairM
        rw [if_neg (show ¬ x.pc = 0 by omega), if_neg (show ¬ x.pc = 1 by omega), if_neg (show ¬ x.pc = 2 by omega), if_pos p, if_neg (show ¬ x.left = 0 by omega)]
      have e2 : readR s j y = ({ y with left := wrap64 (y.left - 1), pc := 3 }, (s.load x.at_).2.2) := by
        unfold readR
        rw [if_neg (show ¬ y.pc = 0 by omega), if_neg (show ¬ y.pc = 1 by omega), if_pos q, RS.work, if_pos (show wrap64 (y.left - 1) = 0 by rw [← g2]; exact l0), ← j2]
      rw [e1, e2]
      refine ⟨rfl, ⟨j1, j2, j3, j4, j5⟩, hdx, ht, fun _ => ⟨g1, (by show wrap64 (x.left - 1) = wrap64 (y.left - 1); rw [g2]), (by show 0 ≤ wrap64 (x.left - 1); rw [w1]; omega), (by show wrap64 (x.left - 1) ≤ 100; rw [w1]; omega), g5, g6, ?_⟩, fun e => (by have e : y.done = true := e; rw [hd] at e; cases e), fun e => absurd hk e⟩
      unfold Phase
      rw [if_neg nk, if_neg nk2]
      exact .inr (.inr (.inr (.inl ⟨p, rfl, l0, ra⟩)))
    · have e1 : pairM s x = ({ x with left := wrap64 (x.left - 1) }, (s.load x.at_).2.2) := by
        unfold pairM
        rw [if_neg (show ¬ x.pc = 0 by omega), if_neg (show ¬ x.pc = 1 by omega), if_neg (show ¬ x.pc = 2 by omega), if_pos p, if_neg (show ¬ x.left = 0 by omega)]
      have e2 : readR s j y = ({ y with left := wrap64 (y.left - 1) }, (s.load x.at_).2.2) := by
        unfold readR
        rw [if_neg (show ¬ y.pc = 0 by omega), if_neg (show ¬ y.pc = 1 by omega), if_pos q, RS.work, if_neg (show ¬ wrap64 (y.left - 1) = 0 by rw [← g2]; exact l0), ← j2]
      rw [e1, e2]
      refine ⟨rfl, ⟨j1, j2, j3, j4, j5⟩, hdx, ht, fun _ => ⟨g1, (by show wrap64 (x.left - 1) = wrap64 (y.left - 1); rw [g2]), (by show 0 ≤ wrap64 (x.left - 1); rw [w1]; omega), (by show wrap64 (x.left - 1) ≤ 100; rw [w1]; omega), g5, g6, ?_⟩, fun e => (by have e : y.done = true := e; rw [hd] at e; cases e), fun e => absurd hk e⟩
      unfold Phase
      rw [if_neg nk, if_neg nk2]
      exact .inr (.inr (.inl ⟨p, q, by show 0 < wrap64 (x.left - 1); omega, ra⟩))
  · have e1 : pairM s x = ({ x with pc := 5, rb := (s.load (wrap64 (x.at_ + 2))).1 }, (s.load (wrap64 (x.at_ + 2))).2.2) := by
      unfold pairM
      rw [if_neg (show ¬ x.pc = 0 by omega), if_neg (show ¬ x.pc = 1 by omega), if_neg (show ¬ x.pc = 2 by omega), if_pos p, if_pos l, secondM, if_neg k2]
    have e2 : readR s j y = ({ y with b := (s.load (wrap64 (x.at_ + 2))).1, pc := 4 }, (s.load (wrap64 (x.at_ + 2))).2.2) := by
      unfold readR
      rw [if_neg (show ¬ y.pc = 0 by omega), if_neg (show ¬ y.pc = 1 by omega), if_neg (show ¬ y.pc = 2 by omega), if_pos q, ← j2]
    rw [e1, e2]
    refine ⟨rfl, ⟨j1, j2, j3, j4, j5⟩, hdx, ht, fun _ => ⟨g1, g2, g3, g4, g5, g6, ?_⟩, fun e => (by have e : y.done = true := e; rw [hd] at e; cases e), fun e => absurd hk e⟩
    unfold Phase
    rw [if_neg nk, if_neg nk2]
    exact .inr (.inr (.inr (.inr (⟨rfl, rfl, ra, rfl⟩))))
  · by_cases ev : (s.load x.at_).1 = x.count
    · have e1 : pairM s x = ({ x with done := true, sa := x.ra, sb := x.rb }, (s.load x.at_).2.2) := by
        unfold pairM
        rw [if_neg (show ¬ x.pc = 0 by omega), if_neg (show ¬ x.pc = 1 by omega), if_neg (show ¬ x.pc = 2 by omega), if_neg (show ¬ x.pc = 3 by omega), if_neg (show ¬ x.pc = 4 by omega), finishM, if_neg k2, if_pos ev]
      have e2 : readR s j y = ({ y with done := true }, (s.load x.at_).2.2) := by
        unfold readR
        rw [if_neg (show ¬ y.pc = 0 by omega), if_neg (show ¬ y.pc = 1 by omega), if_neg (show ¬ y.pc = 2 by omega), if_neg (show ¬ y.pc = 3 by omega), ← j2, ← g1, if_pos ev]
      rw [e1, e2]
      exact ⟨rfl, ⟨j1, j2, j3, j4, j5⟩, rfl, ht, fun e => (by cases e), fun _ => ⟨ra.symm, rb.symm⟩, fun e => absurd hk e⟩
    · have e1 : pairM s x = (x.again, (s.load x.at_).2.2) := by
        unfold pairM
        rw [if_neg (show ¬ x.pc = 0 by omega), if_neg (show ¬ x.pc = 1 by omega), if_neg (show ¬ x.pc = 2 by omega), if_neg (show ¬ x.pc = 3 by omega), if_neg (show ¬ x.pc = 4 by omega), finishM, if_neg k2, if_neg ev]
      have e2 : readR s j y = ({ y with tries := wrap64 (y.tries + 1), a := 0, b := 0, pc := 0 }, (s.load x.at_).2.2) := by
        unfold readR
        rw [if_neg (show ¬ y.pc = 0 by omega), if_neg (show ¬ y.pc = 1 by omega), if_neg (show ¬ y.pc = 2 by omega), if_neg (show ¬ y.pc = 3 by omega), ← j2, ← g1, if_neg ev]
      rw [e1, e2]
      refine ⟨rfl, ⟨j1, j2, j3, j4, j5⟩, hdx, (by show wrap64 (x.tries + 1) = wrap64 (y.tries + 1); rw [ht]), fun _ => ⟨g1, g2, g3, g4, g5, g6, ?_⟩, fun e => (by have e : y.done = true := e; rw [hd] at e; cases e), fun e => absurd hk e⟩
      unfold Phase
      rw [if_neg nk, if_neg nk2]
      exact .inl ⟨rfl, rfl⟩
/-- The next access of either is the same. -/
theorem sim_step {j : Jb} {x : Mch} {y : RS} {s : MS} {i : Nat} (h : Rel j x y) (hd : y.done = false) (hk : j.kind = 1 ∨ j.kind = 2 ∨ j.kind = 3) (hw : 0 ≤ j.work ∧ j.work ≤ 100) : (stepM s x i).2 = (stepR s j y (i + 1)).2 ∧ Rel j (stepM s x i).1 (stepR s j y (i + 1)).1 := by
  have j1 := h.job.1
  unfold stepM stepR
  rcases hk with hk | hk | hk
  · rw [if_pos (by omega), if_pos hk]
    exact sim_hold h hd hk hw
  · rw [if_neg (by omega), if_neg (by omega), if_pos hk]
    exact sim_write h hd hk hw
  · rw [if_neg (by omega), if_neg (by omega), if_neg (by omega)]
    exact sim_read h hd hk hw
end Go.Proofs.Ytmhmgenchpemkaa
