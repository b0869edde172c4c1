/- Chapter 2: what the statements' walks share: jobs that are gathered, a run in new memory, words that are looked at. -/
import Derived.Test.YtmhmgenchpemkaaKnown
import Derived.Test.YtmhmgenchpemkaaWords
namespace Go.Proofs.Ytmhmgenchpemkaa
open Go.RowKit

theorem info29 : (Try.prog.info? 29).map (fun i => (i.zero, i.size, i.bytes)) = some (some (.agg #[.int .i64 0, .int .i64 0, .int .i64 0, .int .i64 0, .int .i64 0]), 5, 40) := by kernel_rfl
def jcells (js : List Jb) : List Value := js.flatMap Jb.cells
theorem jcells_snoc (js : List Jb) (x : Jb) : jcells (js ++ [x]) = jcells js ++ x.cells := by simp [jcells]
theorem Win.jobs {w : World} {base n : Nat} {v : Value} {js : List Jb} (h : Win w base 29 5 v n (jcells js)) (hn : js.length = n) : JobsAt w v js := by
  by_cases h0 : n = 0
  · refine .inl ⟨List.eq_nil_of_length_eq_zero (by omega), ?_⟩
    obtain ⟨a, cap, e⟩ := h.value
    exact ⟨a, cap, by rw [e, h0]⟩
  · obtain ⟨f, o, cap, e⟩ := h.form (by omega)
    subst e
    refine .inr ⟨f, o, cap, by rw [hn], (h.lt f rfl).2, fun i j hj k v hv => ?_⟩
    have hi := (List.getElem?_eq_some_iff.1 hj).1
    have hk := (List.getElem?_eq_some_iff.1 hv).1
    rw [show j.cells.length = 5 from rfl] at hk
    have := h.cells (i * 5 + k) (by omega)
    rw [Nat.add_assoc, this]
    exact jobs_at js i j hj k v hv
/-- What grew by an append into memory of its own. -/
theorem grown_below {w w3 w4 : World} {v : Value} {ob : Obj} {n : Nat} {e : TypeId} {size : Nat} {xs : List Value} {base : Nat} (hB : Below base w w3) (hb : base ≤ w3.heap.size) (hW : Win w3 base e size v n xs) (hg : (w3.alloc ob).grownBy w4 v.ownBlock) : Below base w w4 := by
  have b0 := hB.alloc hb ob
  refine ⟨hg.os.trans b0.os, hg.tape.trans b0.tape, hg.output.trans b0.output, Nat.le_trans b0.size hg.size, fun q hq => (hg.block q ?_ (fun e => ?_)).trans (b0.block q hq)⟩
  · simp; omega
  · have := (hW.lt q e.symm).1
    omega
theorem mem_grown {w3 w4 : World} {b c : Nat} {s : MS} {v : Value} {ob : Obj} {n : Nat} {e : TypeId} {size : Nat} {xs : List Value} {base : Nat} (hm : IsMem w3 b c s) (hW : Win w3 base e size v n xs) (h1 : b < base) (h2 : c < base) (hg : (w3.alloc ob).grownBy w4 v.ownBlock) : IsMem w4 b c s := by
  have h0 : IsMem (w3.alloc ob) b c s := hm.frm (l := []) (.of_below ((Below.refl _ _).alloc (Nat.le_refl _) _)) (by simp) (by simp)
  refine h0.frm (Frm.of_grown (l := v.ownBlock.toList) hg (fun k hk _ => by rw [hk]; simp)) ?_ ?_
  all_goals
    intro hmem
    cases e : v.ownBlock with
    | none => rw [e] at hmem; simp at hmem
    | some q =>
      rw [e] at hmem
      have := (hW.lt q e).1
      simp at hmem
      omega

/-- A slice of ints that came in: element i < len lies at a cell of old memory, within its kind's bounds. -/
def RowB (w : World) (a : Option Addr) (len : Nat) (f : Nat → Int) : Prop :=
  len = 0 ∨ ∃ b off, a = some ⟨b, off, none⟩ ∧ b < w.heap.size ∧ ∀ i, i < len → w.cell? ⟨b, off + i, none⟩ = some (.int .i64 (f i)) ∧ -9223372036854775808 ≤ f i ∧ f i ≤ 9223372036854775807
/-- A run in memory that is new beside W. -/
structure SysB (W w : World) (r b c f o cap : Nat) (v : Value) (L : List Mch) (s : MS) : Prop where
  sys : Sys w r b c f o cap v L s
  bel : Below W.heap.size W w
  hb : W.heap.size ≤ b
  hc : W.heap.size ≤ c
  hf : W.heap.size ≤ f
section
variable {W w : World} {r b c f o cap : Nat} {v : Value} {L : List Mch} {s : MS}
theorem SysB.on (h : SysB W w r b c f o cap v L s) {w' : World} (hB : Below w.heap.size w w') : SysB W w' r b c f o cap v L s :=
  ⟨h.sys.below hB, h.bel.trans (hB.mono h.bel.size), h.hb, h.hc, h.hf⟩
theorem SysB.go (h : SysB W w r b c f o cap v L s) {w' : World} {L' : List Mch} {s' : MS} (hs : Sys w' r b c f o cap v L' s') (hF : Frm [f, b, c] w w') : SysB W w' r b c f o cap v L' s' :=
  ⟨hs, h.sys.kept h.bel h.hb h.hc h.hf hF, h.hb, h.hc, h.hf⟩
theorem SysB.step (h : SysB W w r b c f o cap v L s) {i : Nat} {x : Mch} (hx : L[i]? = some x) (hd : x.done = false) : Calls Try.prog 14 #[.pointer (some ⟨r, 0, none⟩), .int .i64 i] w fun e w' => e = .returned (.tuple #[(stepM s x i).1.state, .int .i64 0]) ∧ SysB W w' r b c f o cap v (L.set i (stepM s x i).1) (stepM s x i).2 ∧ Frm [f, b, c] w w' :=
  (step_yes h.sys hx hd).mono fun _ _ ⟨e, h1, h2⟩ => ⟨e, h.go h1 h2, h2⟩
theorem SysB.past (h : SysB W w r b c f o cap v L s) {i : Nat} {x : Mch} (hx : L[i]? = some x) (hd : x.done = true) : Calls Try.prog 14 #[.pointer (some ⟨r, 0, none⟩), .int .i64 i] w fun e w' => e = .returned (.tuple #[zstate, .int .i64 16]) ∧ SysB W w' r b c f o cap v L s ∧ Below w.heap.size w w' :=
  (step_past h.sys hx hd).mono fun _ _ ⟨e, h1⟩ => ⟨e, h.on h1, h1⟩
theorem SysB.pick (h : SysB W w r b c f o cap v L s) {n : Int} (hn0 : -9223372036854775808 ≤ n) (hn1 : n ≤ 9223372036854775807) : Calls Try.prog 12 #[.pointer (some ⟨r, 0, none⟩), .int .i64 n] w fun e w' => e = .returned (.tuple #[.int .i64 (pickOf L n).1, .bool (pickOf L n).2]) ∧ SysB W w' r b c f o cap v L s ∧ Below w.heap.size w w' :=
  (pick_any h.sys hn0 hn1).mono fun _ _ ⟨e, h1⟩ => ⟨e, h.on h1, h1⟩
theorem SysB.words (h : SysB W w r b c f o cap v L s) (hp : 1 ≤ s.ws.length) : Calls Try.prog 13 #[.pointer (some ⟨b, 0, none⟩)] w fun e w' => ∃ g, e = .returned (.slice (some ⟨g, 0, none⟩) s.ws.length s.ws.length) ∧ w.heap.size ≤ g ∧ (∃ cs : Array Value, Holds w' g cs ∧ ∀ j, j < s.ws.length → cs[j]? = some (.int .i64 (s.ws.getD j 0))) ∧ SysB W w' r b c f o cap v L s ∧ Below w.heap.size w w' :=
  (words_any b c s w h.sys.hm hp).mono fun _ _ ⟨g, e, ⟨h1, h2⟩, h3⟩ => ⟨g, e, h1, h2, h.on h3, h3⟩
theorem SysB.all (h : SysB W w r b c f o cap v L s) : Calls Try.prog 15 #[.pointer (some ⟨r, 0, none⟩)] w fun e w' => ∃ v', e = .returned v' ∧ Win w' w.heap.size 38 4 v' L.length (states L) ∧ SysB W w' r b c f o cap v L s ∧ Below w.heap.size w w' :=
  (all_any h.sys).mono fun _ _ ⟨v', e, h1, h2⟩ => ⟨v', e, h1, h.on h2, h2⟩
/-- A run is begun. -/
theorem sys_new {js : List Jb} {v : Value} (hm : IsMem w b c s) (hj : JobsAt w v js) (hB : Below W.heap.size W w) (hb : W.heap.size ≤ b) (hc : W.heap.size ≤ c) (h8 : js.length ≤ 8) (hn : js.any (fun j => !j.ok s.ws.length) = false) :
    Calls Try.prog 11 #[.pointer (some ⟨b, 0, none⟩), v] w fun e w' => ∃ r f o cap v', e = .returned (.tuple #[.pointer (some ⟨r, 0, none⟩), .int .i64 0]) ∧ SysB W w' r b c f o cap v' (js.map Jb.mch) s := by
  refine (run_yes hm hj h8 hn).mono ?_
  rintro e w' ⟨r, f, o, cap, v', rfl, h1, h2, h3, h4⟩
  have := hB.size
  exact ⟨r, f, o, cap, v', rfl, h1, hB.trans (h4.mono hB.size), hb, hc, by omega⟩
end
end Go.Proofs.Ytmhmgenchpemkaa
