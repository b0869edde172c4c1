/- What holds of the reference's new run while its parts are made. -/
import Derived.Test.YtmhmgenchpemkaaOrd
namespace Go.Proofs.Ytmhmgenchpemkaa
open Go.RowKit

def updV (v : Nat → Value) (k : Nat) (x : Value) : Nat → Value := fun j => if j = k then x else v j
def updN (v : Nat → Nat) (k : Nat) (x : Nat) : Nat → Nat := fun j => if j = k then x else v j
def put6 (a : Act) (v : Nat → Value) : Act := { a with tmps := (((((a.tmps.setIfInBounds 67 (v 0)).setIfInBounds 69 (v 1)).setIfInBounds 71 (v 2)).setIfInBounds 73 (v 3)).setIfInBounds 75 (v 4)).setIfInBounds 77 (v 5) }
theorem put6_put (a : Act) (v : Nat → Value) (k : Nat) (hk : k < 6) (x : Value) : (put6 a v).put (some (67 + 2 * k)) x = put6 a (updV v k x) := by
  unfold put6 Act.put
  simp only [Act.mk.injEq, and_true]
  refine Array.ext_getElem? fun i => ?_
  have : k = 0 ∨ k = 1 ∨ k = 2 ∨ k = 3 ∨ k = 4 ∨ k = 5 := by omega
  simp only [Array.getElem?_setIfInBounds, Array.size_setIfInBounds, updV]
  rcases this with rfl | rfl | rfl | rfl | rfl | rfl
  all_goals
    by_cases h0 : 67 = i
    · subst h0; simp
    by_cases h1 : 69 = i
    · subst h1; simp
    by_cases h2 : 71 = i
    · subst h2; simp
    by_cases h3 : 73 = i
    · subst h3; simp
    by_cases h4 : 75 = i
    · subst h4; simp
    by_cases h5 : 77 = i
    · subst h5; simp
    simp [h0, h1, h2, h3, h4, h5]
theorem put6_eval (a : Act) (v : Nat → Value) (t : Nat) (h : t ≠ 67 ∧ t ≠ 69 ∧ t ≠ 71 ∧ t ≠ 73 ∧ t ≠ 75 ∧ t ≠ 77) : (put6 a v).eval (.tmp t) = a.eval (.tmp t) := by
  obtain ⟨h0, h1, h2, h3, h4, h5⟩ := h
  simp [put6, Act.eval, Array.getD_eq_getD_getElem?, Array.getElem?_setIfInBounds_ne, h0.symm, h1.symm, h2.symm, h3.symm, h4.symm, h5.symm]
theorem put6_eval0 (a : Act) (v : Nat → Value) (h : 77 < a.tmps.size) : (put6 a v).eval (.tmp 67) = v 0 := by
  have : 67 < a.tmps.size := by omega
  simp [put6, Act.eval, Array.getD_eq_getD_getElem?, Array.getElem?_setIfInBounds, this]
section
variable {P : Program} {ops : Array Oper} {Q : Exit → Act → World → Prop} {a : Act} {w : World} {K : Act → World → Prop}
theorem step_make {i : Nat} {o : Oper} {x : Nat} (hi : ops[i]? = some o) (hg : o.guard = none) {t e : TypeId} (ho : o.op = .makeSlice t (.tmp x) (.tmp x)) {n : Nat} (hx : a.eval (.tmp x) = .int .i64 n) (hn : n ≤ 8)
    {inf : TypeInfo} {z : Value} {size bytes : Nat} (ht : P.underlying t = some (.slice e)) (he : P.info? e = some inf) (hz : inf.zero = some z) (hs : inf.size = size) (hb : inf.bytes = bytes) (hb8 : bytes ≤ 1000)
    (h : K (a.put o.dst (.slice (some ⟨w.heap.size, 0, none⟩) n n)) (w.alloc (.cells (madeCells z.cells (n * size)) e))) : wpOp P ops Q i K a w := by
  refine wpOp_step hi fun K' hK => ?_
  rw [if_pos (by simp [Region.wanted, hg])]
  have hr := run_make (P := P) w t e inf z ht he hz .i64 .i64 n n (by omega) (Int.le_refl _) (by
    rw [hb]
    have : (bytes : Int) * n ≤ 1000 * 8 := Int.mul_le_mul (by omega) (by omega) (by omega) (by omega)
    omega) (by omega)
  rw [Int.toNat_natCast, hs] at hr
  unfold Oper.wp execOp
  simp only [ho, hx, Sem.run_bind, hr, Result.andThen_ok, Sem.run_pure]
  exact hK _ _ h
theorem step_empty {i : Nat} {o : Oper} (hi : ops[i]? = some o) (hg : o.guard = none) (ho : o.op = .buildSlice 51 0 #[])
    (h : K (a.put o.dst (.slice (some ⟨w.heap.size, 0, none⟩) 0 0)) (w.alloc (.cells #[] 88))) : wpOp Try.prog ops Q i K a w := by
  refine wpOp_step hi fun K' hK => ?_
  rw [if_pos (by simp [Region.wanted, hg])]
  unfold Oper.wp execOp
  simp only [ho, List.map_toArray, List.map_nil, Sem.run_bind, run_empty, Result.andThen_ok, Sem.run_pure]
  exact hK _ _ h
theorem step_jobs {i : Nat} {o : Oper} {base base' g : Nat} {js : List Jb} {vJ : Value} (hi : ops[i]? = some o) (hg : o.guard = none) (ho : o.op = .call { callee := .builtin .append, args := #[.tmp 67, .tmp 68], argTypes := #[51, 51] })
    (h67 : a.eval (.tmp 67) = .slice (some ⟨g, 0, none⟩) 0 0) (h68 : a.eval (.tmp 68) = vJ) (hown : Win w base 88 5 (.slice (some ⟨g, 0, none⟩) 0 0) 0 []) (hj : Win w base' 88 5 vJ js.length (jcells js)) (hj0 : js = [] → vJ = .slice none 0 0) (h8 : js.length ≤ 8) (hb : base ≤ w.heap.size)
    (h : ∀ v' w', Win w' base 88 5 v' js.length (jcells js) → w.grownBy w' (some g) → (∀ J, v'.ownBlock = some J → J = g ∨ w.heap.size ≤ J) → K (a.put o.dst v') w') : wpOp Try.prog ops Q i K a w := by
  obtain ⟨i88, hi8, hz0, hz1, hz2⟩ := info_parts info88
  refine wpOp_step hi fun K' hK => ?_
  rw [if_pos (by simp [Region.wanted, hg])]
  rcases id hj with ⟨hl, ⟨e, h0⟩ | ⟨f, o', cap, cur, e, hf, hh, hnc, hcm, hcs, hat⟩⟩
  · have hjn : jcells js = [] := List.eq_nil_of_length_eq_zero (by rw [hl, h0])
    have hr : (Builtin.append_ #[51, 51] o.type #[.slice (some ⟨g, 0, none⟩) 0 0, .slice none 0 0]).run Try.prog w = .ok (.slice (some ⟨g, 0, none⟩) 0 0) w := by
      obtain ⟨_, q | ⟨f, o', cap, cur, q, _, hh, _, _, _, _⟩⟩ := hown
      · cases q.1
      · simp [Builtin.append_, run_underlying (P := Try.prog) Try.underlying51, sizeOf, typeInfo, hi8, Builtin.lenOf, Builtin.firstCells, storeCells]
    unfold Oper.wp execOp
    simp only [ho, resolve, invoke, builtin, Sem.run_bind, Sem.run_pure, Result.andThen_ok, List.map_toArray, List.map_cons, List.map_nil, h67, h68, e, hr]
    refine hK _ _ (h _ w ?_ (World.grownBy.refl w _) (fun J hJ => ?_))
    · rw [h0, hjn]; exact hown
    · left; cases hJ; rfl
  · obtain ⟨v', w', hr, h2, h3, h4⟩ := run_append_win (P := Try.prog) w base 51 o.type 88 i88 _ 5 40 Try.underlying51 hi8 hz0 hz1 hz2 rfl (by decide) (.slice (some ⟨g, 0, none⟩) 0 0) 0 [] hown ⟨f, o', none⟩ js.length cap (jcells js) hl (fun j u hu => by
      rw [Addr.add_mid]
      subst e
      rw [hj.cells j (by have := (List.getElem?_eq_some_iff.1 hu).1; omega)]
      exact hu) (by
      intro u hu
      unfold jcells at hu
      obtain ⟨x, _, hx⟩ := List.mem_flatMap.1 hu
      simp [Jb.cells] at hx
      rcases hx with rfl | rfl | rfl | rfl | rfl <;> rfl) (by unfold maxLen; omega) (by omega) hb
    rw [Nat.zero_add, List.nil_append] at h2
    rw [Nat.zero_add] at h4
    unfold Oper.wp execOp
    simp only [ho, resolve, invoke, builtin, Sem.run_bind, Sem.run_pure, Result.andThen_ok, List.map_toArray, List.map_cons, List.map_nil, h67, h68, e, hr]
    refine hK _ _ (h v' w' h2 h3 (fun J hJ => ?_))
    rcases Nat.eq_zero_or_pos js.length with hz | hp
    · have := hj0 (List.eq_nil_of_length_eq_zero hz)
      rw [e] at this
      cases this
    · obtain ⟨f2, o2, c2, e2, h5⟩ := h4 hp
      rw [e2] at hJ
      cases hJ
      rcases h5 with h5 | h5
      · left; cases h5; rfl
      · right; exact h5
end
def dv (d0 d1 d2 d3 d4 d5 : Bool) : Nat → Bool
  | 0 => d0 | 1 => d1 | 2 => d2 | 3 => d3 | 4 => d4 | 5 => d5 | _ => false
structure WI (w0 : World) (n : Nat) (js : List Jb) (zc : Nat → Array Value) (d : Nat → Bool) (v : Nat → Value) (g : Nat → Nat) (w : World) : Prop where
  bel : Below w0.heap.size w0 w
  e0 : d 0 = true → v 0 = .slice (some ⟨g 0, 0, none⟩) 0 0 ∧ w0.heap.size ≤ g 0 ∧ g 0 < w.heap.size ∧ (d 1 = false → Win w w0.heap.size 88 5 (v 0) 0 [])
  e1 : d 1 = true → Win w w0.heap.size 88 5 (v 1) js.length (jcells js) ∧ ∀ J, (v 1).ownBlock = some J → ∀ k, 2 ≤ k → k < 6 → d k = true → g k ≠ J
  em : ∀ k, 2 ≤ k → k < 6 → d k = true → v k = .slice (some ⟨g k, 0, none⟩) n n ∧ Holds w (g k) (zc k) ∧ w0.heap.size ≤ g k ∧ (d 0 = true → g k ≠ g 0) ∧ ∀ j, 2 ≤ j → j < 6 → d j = true → j ≠ k → g j ≠ g k
section
variable {w0 w : World} {n : Nat} {js : List Jb} {zc : Nat → Array Value} {d d' : Nat → Bool} {v : Nat → Value} {g : Nat → Nat}
theorem WI.drew (h : WI w0 n js zc d v g w) : WI w0 n js zc d v g w.drew := ⟨h.bel.drew, h.e0, h.e1, h.em⟩
theorem WI.make (h : WI w0 n js zc d v g w) {k : Nat} (h2 : 2 ≤ k) (_h6 : k < 6) (hk : d k = false) (hd : ∀ j, j ≠ k → d' j = d j) (e : TypeId) :
    WI w0 n js zc d' (updV v k (.slice (some ⟨w.heap.size, 0, none⟩) n n)) (updN g k w.heap.size) (w.alloc (.cells (zc k) e)) := by
  have B : Below w.heap.size w (w.alloc (.cells (zc k) e)) := (Below.refl _ _).alloc (Nat.le_refl _) _
  have hv : ∀ j, j ≠ k → updV v k (.slice (some ⟨w.heap.size, 0, none⟩) n n) j = v j := fun j hj => by simp [updV, hj]
  have hg : ∀ j, j ≠ k → updN g k w.heap.size j = g j := fun j hj => by simp [updN, hj]
  have hgk : updN g k w.heap.size k = w.heap.size := by simp [updN]
  refine ⟨h.bel.trans (B.mono h.bel.size), fun h0 => ?_, fun h1 => ?_, fun j j2 j6 hj => ?_⟩
  · rw [hv 0 (by omega), hg 0 (by omega)]
    rw [hd 0 (by omega)] at h0
    obtain ⟨q1, q2, q3, q4⟩ := h.e0 h0
    exact ⟨q1, q2, Nat.lt_of_lt_of_le q3 B.size, fun e => (q4 (by rw [← hd 1 (by omega)]; exact e)).below B⟩
  · rw [hv 1 (by omega)]
    rw [hd 1 (by omega)] at h1
    refine ⟨(h.e1 h1).1.below B, fun J hJ j j2 j6 hj => ?_⟩
    by_cases e : j = k
    · subst e
      rw [hgk]
      have := ((h.e1 h1).1.lt J hJ).2
      omega
    · rw [hg j e]
      rw [hd j e] at hj
      exact (h.e1 h1).2 J hJ j j2 j6 hj
  · by_cases e : j = k
    · subst e
      rw [hgk]
      refine ⟨by simp [updV], Holds.new _ _ _, h.bel.size, fun h0 => ?_, fun i i2 i6 hi hne => ?_⟩
      · rw [hg 0 (by omega)]
        rw [hd 0 (by omega)] at h0
        have := (h.e0 h0).2.2.1
        omega
      · rw [hg i hne]
        rw [hd i hne] at hi
        have := (h.em i i2 i6 hi).2.1.lt
        omega
    · rw [hv j e, hg j e]
      rw [hd j e] at hj
      obtain ⟨m1, m2, m3, m4, m5⟩ := h.em j j2 j6 hj
      refine ⟨m1, m2.below B, m3, fun h0 => ?_, fun i i2 i6 hi hne => ?_⟩
      · rw [hg 0 (by omega)]
        rw [hd 0 (by omega)] at h0
        exact m4 h0
      · by_cases e2 : i = k
        · subst e2
          rw [hgk]
          have := m2.lt
          omega
        · rw [hg i e2]
          rw [hd i e2] at hi
          exact m5 i i2 i6 hi hne
theorem WI.empty (h : WI w0 n js zc d v g w) (h1 : d' 1 = false) (hd : ∀ j, 2 ≤ j → d' j = d j) :
    WI w0 n js zc d' (updV v 0 (.slice (some ⟨w.heap.size, 0, none⟩) 0 0)) (updN g 0 w.heap.size) (w.alloc (.cells #[] 88)) := by
  have B : Below w.heap.size w (w.alloc (.cells #[] 88)) := (Below.refl _ _).alloc (Nat.le_refl _) _
  refine ⟨h.bel.trans (B.mono h.bel.size), fun _ => ⟨by simp [updV, updN], by simp [updN, h.bel.size], by simp [updN], fun _ => ?_⟩, fun h => absurd h (by rw [h1]; simp), fun j j2 j6 hj => ?_⟩
  · have := World.ownsRow_lit (base := w0.heap.size) (e := 88) (size := 5) w #[] 0 h.bel.size (by decide) rfl
    have hw := Win.of_own this
    simpa [updV] using hw
  · have e : j ≠ 0 := by omega
    rw [hd j j2] at hj
    obtain ⟨m1, m2, m3, m4, m5⟩ := h.em j j2 j6 hj
    have hv : ∀ j, j ≠ 0 → updV v 0 (.slice (some ⟨w.heap.size, 0, none⟩) 0 0) j = v j := fun j hj => by simp [updV, hj]
    have hg : ∀ j, j ≠ 0 → updN g 0 w.heap.size j = g j := fun j hj => by simp [updN, hj]
    rw [hv j e, hg j e]
    refine ⟨m1, m2.below B, m3, fun _ => ?_, fun i i2 i6 hi hne => ?_⟩
    · have := m2.lt
      simp [updN]
      omega
    · rw [hg i (by omega)]
      rw [hd i i2] at hi
      exact m5 i i2 i6 hi hne
theorem WI.jobs (h : WI w0 n js zc d v g w) (h0 : d 0 = true) (hd1 : d' 1 = true) (hd : ∀ j, j ≠ 1 → d' j = d j) {v' : Value} {w' : World} (hw : Win w' w0.heap.size 88 5 v' js.length (jcells js)) (hgr : w.grownBy w' (some (g 0))) (hJ : ∀ J, v'.ownBlock = some J → J = g 0 ∨ w.heap.size ≤ J) :
    WI w0 n js zc d' (updV v 1 v') g w' := by
  have F : Frm [g 0] w w' := Frm.of_grown hgr (fun k hk _ => by cases hk; simp)
  have hv : ∀ j, j ≠ 1 → updV v 1 v' j = v j := fun j hj => by simp [updV, hj]
  obtain ⟨q1, q2, q3, _⟩ := h.e0 h0
  refine ⟨h.bel.trans (F.below h.bel.size (by simpa using q2)), fun _ => ?_, fun _ => ?_, fun j j2 j6 hj => ?_⟩
  · rw [hv 0 (by omega)]
    exact ⟨q1, q2, Nat.lt_of_lt_of_le q3 F.size, fun e => by rw [hd1] at e; cases e⟩
  · rw [show updV v 1 v' 1 = v' from by simp [updV]]
    refine ⟨hw, fun J hJo j j2 j6 hj => ?_⟩
    rw [hd j (by omega)] at hj
    obtain ⟨m1, m2, m3, m4, m5⟩ := h.em j j2 j6 hj
    rcases hJ J hJo with e | e
    · rw [e]; exact m4 h0
    · have := m2.lt; omega
  · rw [hv j (by omega)]
    rw [hd j (by omega)] at hj
    obtain ⟨m1, m2, m3, m4, m5⟩ := h.em j j2 j6 hj
    refine ⟨m1, m2.frm F (by simpa using m4 h0), m3, fun _ => m4 h0, fun i i2 i6 hi hne => ?_⟩
    rw [hd i (by omega)] at hi
    exact m5 i i2 i6 hi hne
end
end Go.Proofs.Ytmhmgenchpemkaa
