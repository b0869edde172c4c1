/- The reference's run: what lies where; its small functions. -/
import Derived.Test.YtmhmgenchpemkaaRef
import Derived.Test.YtmhmgenchpemkaaShared
import Derived.StillTailTactics
namespace Go.Proofs.Ytmhmgenchpemkaa
open Go.RowKit

structure RS where
  (pc cnt left : Int)
  done : Bool
  (a b tries : Int)
def RS.st (y : RS) : List Value := [.bool y.done, .int .i64 y.a, .int .i64 y.b, .int .i64 y.tries]
def RS.zero : RS := ⟨0, 0, 0, false, 0, 0, 0⟩

def StAt (w : World) (S : Nat) (Y : List RS) : Prop :=
  S < w.heap.size ∧ (∀ j, w.frozen? ⟨S, j, none⟩ = false) ∧ ∀ (i : Nat) (y : RS), Y[i]? = some y → w.rangeAt S (i * 4) y.st
theorem StAt.frm {w w' : World} {S : Nat} {Y : List RS} {l : List Nat} (h : StAt w S Y) (hf : Frm l w w') (hn : S ∉ l) : StAt w' S Y :=
  ⟨Nat.lt_of_lt_of_le h.1 hf.size, fun j => (World.frozen?_of_block (w := w) (a := ⟨S, j, none⟩) (hf.block S h.1 hn)).trans (h.2.1 j),
    fun i y hy j v hv => (World.cell?_of_block (w := w) (a := ⟨S, i * 4 + j, none⟩) (hf.block S h.1 hn)).trans (h.2.2 i y hy j v hv)⟩
theorem StAt.put {w : World} {S i j : Nat} {Y : List RS} {y y' : RS} {v : Value} (h : StAt w S Y) (hx : Y[i]? = some y) (hj : j < 4) (hc : y'.st = y.st.set j v) : StAt (w.setCell ⟨S, i * 4 + j, none⟩ v) S (Y.set i y') := by
  obtain ⟨h1, h2, h3⟩ := h
  have hil := (List.getElem?_eq_some_iff.1 hx).1
  refine ⟨by simpa using h1, fun k => by rw [World.frozen?_setCell]; exact h2 k, fun k z hz c u hu => ?_⟩
  have hc4 : c < 4 := (List.getElem?_eq_some_iff.1 hu).1
  by_cases hk : k = i
  · subst hk
    rw [List.getElem?_set_self hil] at hz
    cases hz
    by_cases hcj : c = j
    · subst hcj
      have := h3 k y hx c _ (List.getElem?_eq_getElem (show c < y.st.length from hj))
      rw [World.cell?_setCell_same _ _ _ this, ← hu, hc, List.getElem?_set_self (show c < y.st.length from hj)]
    · rw [World.cell?_setCell_other _ _ _ _ (by intro e; injection e; omega)]
      refine h3 k y hx c u ?_
      rw [← hu, hc, List.getElem?_set_ne (fun e => hcj e.symm)]
  · rw [List.getElem?_set_ne (fun e => hk e.symm)] at hz
    rw [World.cell?_setCell_other _ _ _ _ (by intro e; injection e; omega)]
    exact h3 k z hz c u hu
theorem StAt.same {w : World} {S i : Nat} {Y : List RS} {y y' : RS} (h : StAt w S Y) (hx : Y[i]? = some y) (hc : y'.st = y.st) : StAt w S (Y.set i y') := by
  refine ⟨h.1, h.2.1, fun k z hz => ?_⟩
  by_cases hk : k = i
  · subst hk
    rw [List.getElem?_set_self (List.getElem?_eq_some_iff.1 hx).1] at hz
    cases hz
    rw [hc]
    exact h.2.2 k y hx
  · rw [List.getElem?_set_ne (fun e => hk e.symm)] at hz
    exact h.2.2 k z hz
theorem StAt.at {w : World} {S i : Nat} {Y : List RS} {y : RS} (h : StAt w S Y) (hx : Y[i]? = some y) :
    w.cell? ⟨S, i * 4, none⟩ = some (.bool y.done) ∧ w.cell? ⟨S, i * 4 + 1, none⟩ = some (.int .i64 y.a) ∧ w.cell? ⟨S, i * 4 + 2, none⟩ = some (.int .i64 y.b) ∧ w.cell? ⟨S, i * 4 + 3, none⟩ = some (.int .i64 y.tries) :=
  have r := h.2.2 i y hx
  ⟨r 0 _ rfl, r 1 _ rfl, r 2 _ rfl, r 3 _ rfl⟩

theorem JobsAt.frm {w w' : World} {v : Value} {js : List Jb} {l : List Nat} (h : JobsAt w v js) (hf : Frm l w w') (hn : ∀ J, v.ownBlock = some J → J ∉ l) : JobsAt w' v js := by
  rcases h with h | ⟨f, o, cap, h1, h2, h3⟩
  · exact .inl h
  · have hb : f ∉ l := hn f (by rw [h1]; rfl)
    exact .inr ⟨f, o, cap, h1, Nat.lt_of_lt_of_le h2 hf.size, fun i j hj k v hv => (World.cell?_of_block (w := w) (a := ⟨f, o + i * 5 + k, none⟩) (hf.block f h2 hb)).trans (h3 i j hj k v hv)⟩

/-- The reference's run at q: its memory rb, c; its jobs vJ; where each is (A), what it has read (C), what is left (L), the states (S). -/
structure RSys (w : World) (q rb c A C L S : Nat) (vJ : Value) (js : List Jb) (Y : List RS) (s : MS) : Prop where
  hq : Holds w q #[.pointer (some ⟨rb, 0, none⟩), vJ, .slice (some ⟨A, 0, none⟩) js.length js.length, .slice (some ⟨C, 0, none⟩) js.length js.length, .slice (some ⟨L, 0, none⟩) js.length js.length, .slice (some ⟨S, 0, none⟩) js.length js.length]
  hj : JobsAt w vJ js
  len : Y.length = js.length
  le : js.length ≤ 8
  hm : IsMem w rb c s
  hA : Holds w A (ints (Y.map (·.pc)))
  hC : Holds w C (ints (Y.map (·.cnt)))
  hL : Holds w L (ints (Y.map (·.left)))
  hS : StAt w S Y
  nd : [q, A, C, L, S].Nodup
  nm : ∀ k ∈ [q, A, C, L, S], k ∉ [rb, c]
  jb : ∀ J, vJ.ownBlock = some J → J ∉ [A, C, L, S, rb, c]

section
variable {w w' : World} {q rb c A C L S : Nat} {vJ : Value} {js : List Jb} {Y : List RS} {s s' : MS}
theorem RSys.below (h : RSys w q rb c A C L S vJ js Y s) (hb : Below w.heap.size w w') : RSys w' q rb c A C L S vJ js Y s :=
  ⟨h.hq.below hb, h.hj.below hb, h.len, h.le, h.hm.frm (l := []) (.of_below hb) (by simp) (by simp), h.hA.below hb, h.hC.below hb, h.hL.below hb, h.hS.frm (l := []) (.of_below hb) (by simp), h.nd, h.nm, h.jb⟩
theorem RSys.frm {l : List Nat} (h : RSys w q rb c A C L S vJ js Y s) (hf : Frm l w w') (hn : ∀ k ∈ l, k ∉ [q, A, C, L, S, rb, c] ∧ vJ.ownBlock ≠ some k) : RSys w' q rb c A C L S vJ js Y s := by
  have g : ∀ k ∈ [q, A, C, L, S, rb, c], k ∉ l := fun k hk hl => (hn k hl).1 hk
  exact ⟨h.hq.frm hf (g q (by simp)), h.hj.frm hf (fun J hJ hl => (hn J hl).2 hJ), h.len, h.le, h.hm.frm hf (g rb (by simp)) (g c (by simp)), h.hA.frm hf (g A (by simp)), h.hC.frm hf (g C (by simp)), h.hL.frm hf (g L (by simp)), h.hS.frm hf (g S (by simp)), h.nd, h.nm, h.jb⟩
theorem RSys.drewN (h : RSys w q rb c A C L S vJ js Y s) (n : Nat) : RSys (w.drewN n) q rb c A C L S vJ js Y s := h.below ⟨rfl, rfl, rfl, Nat.le_refl _, fun _ _ => rfl⟩
theorem RSys.mem (h : RSys w q rb c A C L S vJ js Y s) (hm : IsMem w' rb c s') (hf : Frm [rb, c] w w') : RSys w' q rb c A C L S vJ js Y s' :=
  ⟨h.hq.frm hf (h.nm q (by simp)), h.hj.frm hf (fun J hJ hl => h.jb J hJ (List.mem_append_right [A, C, L, S] hl)), h.len, h.le, hm, h.hA.frm hf (h.nm A (by simp)), h.hC.frm hf (h.nm C (by simp)), h.hL.frm hf (h.nm L (by simp)), h.hS.frm hf (h.nm S (by simp)), h.nd, h.nm, h.jb⟩
theorem RSys.away (h : RSys w q rb c A C L S vJ js Y s) {k : Nat} (hk : k ∈ [A, C, L, S]) : rb ∉ [k] ∧ c ∉ [k] ∧ ∀ J, vJ.ownBlock = some J → J ∉ [k] := by
  have n := h.nm k (List.mem_cons_of_mem _ hk)
  refine ⟨fun e => n ?_, fun e => n ?_, fun J hJ e => h.jb J hJ ?_⟩
  · have : rb = k := by simpa using e
    rw [this]; simp
  · have : c = k := by simpa using e
    rw [this]; simp
  · have : J = k := by simpa using e
    rw [this]
    exact List.mem_append_left [rb, c] hk
theorem RSys.apart (h : RSys w q rb c A C L S vJ js Y s) : (q ≠ A ∧ q ≠ C ∧ q ≠ L ∧ q ≠ S) ∧ (A ≠ C ∧ A ≠ L ∧ A ≠ S) ∧ (C ≠ L ∧ C ≠ S) ∧ L ≠ S := by
  have := h.nd
  simpa using this
theorem ints_put {k : Nat} {y' : RS} (f : RS → Int) (v : Int) (hv : f y' = v) : (ints (Y.map f)).setIfInBounds k (.int .i64 v) = ints ((Y.set k y').map f) := by
  rw [ints_set, List.map_set, hv]
theorem ints_keep {k : Nat} {y y' : RS} (hy : Y[k]? = some y) (f : RS → Int) (hv : f y' = f y) : ints ((Y.set k y').map f) = ints (Y.map f) := by
  congr 1
  refine List.ext_getElem? fun j => ?_
  rw [List.getElem?_map, List.getElem?_map]
  by_cases e : j = k
  · subst e
    rw [List.getElem?_set_self (List.getElem?_eq_some_iff.1 hy).1, hy]
    simp [hv]
  · rw [List.getElem?_set_ne (fun q => e q.symm)]
theorem RSys.setA (h : RSys w q rb c A C L S vJ js Y s) {k : Nat} {y : RS} (hy : Y[k]? = some y) (v : Int) : RSys (w.setCell ⟨A, k, none⟩ (.int .i64 v)) q rb c A C L S vJ js (Y.set k { y with pc := v }) s := by
  obtain ⟨⟨a1, a2, a3, a4⟩, ⟨b1, b2, b3⟩, ⟨c1, c2⟩, d1⟩ := h.apart
  obtain ⟨m1, m2, m3⟩ := h.away (k := A) (by simp)
  have hk := (List.getElem?_eq_some_iff.1 hy).1
  have F : Frm [A] w (w.setCell ⟨A, k, none⟩ (.int .i64 v)) := (Frm.refl _ _).setCell (by simp) _
  refine ⟨h.hq.frm F (by simpa using a1), h.hj.frm F m3, by rw [List.length_set]; exact h.len, h.le, h.hm.frm F m1 m2, ?_, ?_, ?_, (h.hS.frm F (by simpa using Ne.symm b3)).same hy rfl, h.nd, h.nm, h.jb⟩
  · have := h.hA.set k (.int .i64 v) (by rw [ints_size, List.length_map]; exact hk)
    rwa [ints_put (y' := { y with pc := v }) (·.pc) v rfl] at this
  · rw [ints_keep (y' := { y with pc := v }) hy (·.cnt) rfl]; exact h.hC.frm F (by simpa using Ne.symm b1)
  · rw [ints_keep (y' := { y with pc := v }) hy (·.left) rfl]; exact h.hL.frm F (by simpa using Ne.symm b2)
theorem RSys.setC (h : RSys w q rb c A C L S vJ js Y s) {k : Nat} {y : RS} (hy : Y[k]? = some y) (v : Int) : RSys (w.setCell ⟨C, k, none⟩ (.int .i64 v)) q rb c A C L S vJ js (Y.set k { y with cnt := v }) s := by
  obtain ⟨⟨a1, a2, a3, a4⟩, ⟨b1, b2, b3⟩, ⟨c1, c2⟩, d1⟩ := h.apart
  obtain ⟨m1, m2, m3⟩ := h.away (k := C) (by simp)
  have hk := (List.getElem?_eq_some_iff.1 hy).1
  have F : Frm [C] w (w.setCell ⟨C, k, none⟩ (.int .i64 v)) := (Frm.refl _ _).setCell (by simp) _
  refine ⟨h.hq.frm F (by simpa using a2), h.hj.frm F m3, by rw [List.length_set]; exact h.len, h.le, h.hm.frm F m1 m2, ?_, ?_, ?_, (h.hS.frm F (by simpa using Ne.symm c2)).same hy rfl, h.nd, h.nm, h.jb⟩
  · rw [ints_keep (y' := { y with cnt := v }) hy (·.pc) rfl]; exact h.hA.frm F (by simpa using b1)
  · have := h.hC.set k (.int .i64 v) (by rw [ints_size, List.length_map]; exact hk)
    rwa [ints_put (y' := { y with cnt := v }) (·.cnt) v rfl] at this
  · rw [ints_keep (y' := { y with cnt := v }) hy (·.left) rfl]; exact h.hL.frm F (by simpa using Ne.symm c1)
theorem RSys.setL (h : RSys w q rb c A C L S vJ js Y s) {k : Nat} {y : RS} (hy : Y[k]? = some y) (v : Int) : RSys (w.setCell ⟨L, k, none⟩ (.int .i64 v)) q rb c A C L S vJ js (Y.set k { y with left := v }) s := by
  obtain ⟨⟨a1, a2, a3, a4⟩, ⟨b1, b2, b3⟩, ⟨c1, c2⟩, d1⟩ := h.apart
  obtain ⟨m1, m2, m3⟩ := h.away (k := L) (by simp)
  have hk := (List.getElem?_eq_some_iff.1 hy).1
  have F : Frm [L] w (w.setCell ⟨L, k, none⟩ (.int .i64 v)) := (Frm.refl _ _).setCell (by simp) _
  refine ⟨h.hq.frm F (by simpa using a3), h.hj.frm F m3, by rw [List.length_set]; exact h.len, h.le, h.hm.frm F m1 m2, ?_, ?_, ?_, (h.hS.frm F (by simpa using Ne.symm d1)).same hy rfl, h.nd, h.nm, h.jb⟩
  · rw [ints_keep (y' := { y with left := v }) hy (·.pc) rfl]; exact h.hA.frm F (by simpa using b2)
  · rw [ints_keep (y' := { y with left := v }) hy (·.cnt) rfl]; exact h.hC.frm F (by simpa using c1)
  · have := h.hL.set k (.int .i64 v) (by rw [ints_size, List.length_map]; exact hk)
    rwa [ints_put (y' := { y with left := v }) (·.left) v rfl] at this
theorem RSys.setS (h : RSys w q rb c A C L S vJ js Y s) {k j : Nat} {y y' : RS} {v : Value} (hy : Y[k]? = some y) (hj : j < 4) (hc : y'.st = y.st.set j v) (e1 : y'.pc = y.pc) (e2 : y'.cnt = y.cnt) (e3 : y'.left = y.left) : RSys (w.setCell ⟨S, k * 4 + j, none⟩ v) q rb c A C L S vJ js (Y.set k y') s := by
  obtain ⟨⟨a1, a2, a3, a4⟩, ⟨b1, b2, b3⟩, ⟨c1, c2⟩, d1⟩ := h.apart
  obtain ⟨m1, m2, m3⟩ := h.away (k := S) (by simp)
  have F : Frm [S] w (w.setCell ⟨S, k * 4 + j, none⟩ v) := (Frm.refl _ _).setCell (by simp) _
  refine ⟨h.hq.frm F (by simpa using a4), h.hj.frm F m3, by rw [List.length_set]; exact h.len, h.le, h.hm.frm F m1 m2, ?_, ?_, ?_, h.hS.put hy hj hc, h.nd, h.nm, h.jb⟩
  · rw [ints_keep hy (·.pc) e1]; exact h.hA.frm F (by simpa using b3)
  · rw [ints_keep hy (·.cnt) e2]; exact h.hC.frm F (by simpa using c2)
  · rw [ints_keep hy (·.left) e3]; exact h.hL.frm F (by simpa using d1)
/-- What the walk reads of the k-th. -/
theorem RSys.at (h : RSys w q rb c A C L S vJ js Y s) {k : Nat} {y : RS} {j : Jb} (hy : Y[k]? = some y) (hk : js[k]? = some j) :
    w.cell? ⟨q, 0, none⟩ = some (.pointer (some ⟨rb, 0, none⟩)) ∧ (∃ f o cap, vJ = .slice (some ⟨f, o, none⟩) js.length cap ∧ w.cell? ⟨f, o + k * 5, none⟩ = some (.int .i64 j.kind) ∧ w.cell? ⟨f, o + k * 5 + 1, none⟩ = some (.int .i64 j.at_) ∧ w.cell? ⟨f, o + k * 5 + 2, none⟩ = some (.int .i64 j.work) ∧ w.cell? ⟨f, o + k * 5 + 3, none⟩ = some (.int .i64 j.a) ∧ w.cell? ⟨f, o + k * 5 + 4, none⟩ = some (.int .i64 j.b)) ∧ w.cell? ⟨q, 1, none⟩ = some vJ ∧
    w.cell? ⟨q, 2, none⟩ = some (.slice (some ⟨A, 0, none⟩) js.length js.length) ∧ w.cell? ⟨q, 3, none⟩ = some (.slice (some ⟨C, 0, none⟩) js.length js.length) ∧ w.cell? ⟨q, 4, none⟩ = some (.slice (some ⟨L, 0, none⟩) js.length js.length) ∧ w.cell? ⟨q, 5, none⟩ = some (.slice (some ⟨S, 0, none⟩) js.length js.length) ∧
    w.cell? ⟨A, k, none⟩ = some (.int .i64 y.pc) ∧ w.cell? ⟨C, k, none⟩ = some (.int .i64 y.cnt) ∧ w.cell? ⟨L, k, none⟩ = some (.int .i64 y.left) := by
  have g : ∀ f : RS → Int, (ints (Y.map f))[k]? = some (.int .i64 (f y)) := fun f => by simp [ints, hy]
  refine ⟨h.hq.cell 0, ?_, h.hq.cell 1, h.hq.cell 2, h.hq.cell 3, h.hq.cell 4, h.hq.cell 5, (h.hA.cell k).trans (g _), (h.hC.cell k).trans (g _), (h.hL.cell k).trans (g _)⟩
  rcases h.hj with ⟨e, _⟩ | ⟨f, o, cap, e, _, r⟩
  · rw [e] at hk; simp at hk
  · have r := r k j hk
    exact ⟨f, o, cap, e, r 0 _ rfl, r 1 _ rfl, r 2 _ rfl, r 3 _ rfl, r 4 _ rfl⟩
theorem RSys.form (h : RSys w q rb c A C L S vJ js Y s) {k : Nat} {j : Jb} (hk : js[k]? = some j) : ∃ f o cap, vJ = .slice (some ⟨f, o, none⟩) js.length cap := by
  rcases h.hj with ⟨e, _⟩ | ⟨f, o, cap, e, _, r⟩
  · rw [e] at hk; simp at hk
  · exact ⟨f, o, cap, e⟩
theorem RSys.job {f o cap n : Nat} (h : RSys w q rb c A C L S (.slice (some ⟨f, o, none⟩) n cap) js Y s) {k : Nat} {j : Jb} (hk : js[k]? = some j) :
    w.cell? ⟨q, 0, none⟩ = some (.pointer (some ⟨rb, 0, none⟩)) ∧ w.cell? ⟨q, 1, none⟩ = some (.slice (some ⟨f, o, none⟩) n cap) ∧ w.cell? ⟨f, o + k * 5, none⟩ = some (.int .i64 j.kind) ∧ w.cell? ⟨f, o + k * 5 + 1, none⟩ = some (.int .i64 j.at_) ∧ w.cell? ⟨f, o + k * 5 + 2, none⟩ = some (.int .i64 j.work) ∧ w.cell? ⟨f, o + k * 5 + 3, none⟩ = some (.int .i64 j.a) ∧ w.cell? ⟨f, o + k * 5 + 4, none⟩ = some (.int .i64 j.b) := by
  refine ⟨h.hq.cell 0, h.hq.cell 1, ?_⟩
  rcases h.hj with ⟨e, _⟩ | ⟨f', o', cap', e, _, r⟩
  · rw [e] at hk; simp at hk
  · cases e
    have r := r k j hk
    exact ⟨r 0 _ rfl, r 1 _ rfl, r 2 _ rfl, r 3 _ rfl, r 4 _ rfl⟩
theorem RSys.row (h : RSys w q rb c A C L S vJ js Y s) {k : Nat} {y : RS} (hy : Y[k]? = some y) :
    w.cell? ⟨q, 2, none⟩ = some (.slice (some ⟨A, 0, none⟩) js.length js.length) ∧ w.cell? ⟨q, 3, none⟩ = some (.slice (some ⟨C, 0, none⟩) js.length js.length) ∧ w.cell? ⟨q, 4, none⟩ = some (.slice (some ⟨L, 0, none⟩) js.length js.length) ∧ w.cell? ⟨q, 5, none⟩ = some (.slice (some ⟨S, 0, none⟩) js.length js.length) ∧
    w.cell? ⟨A, k, none⟩ = some (.int .i64 y.pc) ∧ w.cell? ⟨C, k, none⟩ = some (.int .i64 y.cnt) ∧ w.cell? ⟨L, k, none⟩ = some (.int .i64 y.left) := by
  have g : ∀ f : RS → Int, (ints (Y.map f))[k]? = some (.int .i64 (f y)) := fun f => by simp [ints, hy]
  exact ⟨h.hq.cell 2, h.hq.cell 3, h.hq.cell 4, h.hq.cell 5, (h.hA.cell k).trans (g _), (h.hC.cell k).trans (g _), (h.hL.cell k).trans (g _)⟩
theorem RSys.free (h : RSys w q rb c A C L S vJ js Y s) : (∀ k, w.frozen? ⟨A, k, none⟩ = false) ∧ (∀ k, w.frozen? ⟨C, k, none⟩ = false) ∧ (∀ k, w.frozen? ⟨L, k, none⟩ = false) ∧ ∀ k, w.frozen? ⟨S, k, none⟩ = false := ⟨h.hA.free, h.hC.free, h.hL.free, h.hS.2.1⟩
end
end Go.Proofs.Ytmhmgenchpemkaa
