/- Chapter 2: a run is begun. -/
import Derived.Test.YtmhmgenchpemkaaBegin
import Derived.Test.YtmhmgenchpemkaaWin
namespace Go.Proofs.Ytmhmgenchpemkaa
open Go.RowKit

/-- The slice value v holds the jobs js. -/
def JobsAt (w : World) (v : Value) (js : List Jb) : Prop :=
  (js = [] ∧ ∃ a cap, v = .slice a 0 cap) ∨ ∃ f o cap, v = .slice (some ⟨f, o, none⟩) js.length cap ∧ f < w.heap.size ∧ ∀ (i : Nat) (j : Jb), js[i]? = some j → w.rangeAt f (o + i * 5) j.cells
theorem JobsAt.below {w w' : World} {v : Value} {js : List Jb} (h : JobsAt w v js) (hb : Below w.heap.size w w') : JobsAt w' v js := by
  rcases h with h | ⟨f, o, cap, h1, h2, h3⟩
  · exact .inl h
  · exact .inr ⟨f, o, cap, h1, Nat.lt_of_lt_of_le h2 hb.size, fun i j hj k v hv => (hb.cell (p := ⟨f, o + i * 5 + k, none⟩) h2).trans (h3 i j hj k v hv)⟩

set_option maxRecDepth 100000 in
set_option maxHeartbeats 4000000 in
theorem index_any {b c p : Nat} {s : MS} {v : Value} {js : List Jb} {w : World} (hm : IsMem w b c s) (hp : w.cell? ⟨p, 0, none⟩ = some (.pointer (some ⟨b, 0, none⟩))) (hj : JobsAt w v js) (hl : js.length ≤ 1000000000) :
    Calls Try.prog 40 #[v, .func (.func 28) #[] #[.pointer (some ⟨p, 0, none⟩)]] w fun e w' => ∃ r : Int, e = .returned (.int .i64 r) ∧ decide (r ≥ 0) = js.any (fun j => !j.ok s.ws.length) ∧ Below w.heap.size w w' := by
  have hpl : p < w.heap.size := World.block_lt_of_cell? w _ hp
  have HM := Lib.hid hm
  have HP := Lib.hid hp
  have HJ := Lib.hid hj
  rcases hj with ⟨rfl, a, cap, rfl⟩ | ⟨f, o, cap, rfl, hf, hcs⟩
  · clear HJ hm hp
    go_enter Try.func40, Try.ntmps40
    go_wp2_with fail
    go_loopw [8] (fun iv wr => iv = .int .i64 0 ∧ wr = w) (fun _ _ => 0)
    case atStart => exact ⟨rfl, rfl⟩
    case round =>
      obtain ⟨rfl, rfl⟩ := hrel
      go_wp2_with fail
      go_ret
      exact ⟨-1, rfl, by simp, Below.refl _ _⟩
  · have HC := Lib.hid hcs
    clear hm hp hcs
    go_enter Try.func40, Try.ntmps40
    go_wp2_with fail
    go_loopw [8] (fun iv wr => ∃ k : Nat, k ≤ js.length ∧ iv = .int .i64 k ∧ Hid (∀ j ∈ js.take k, j.ok s.ws.length = true) ∧ Hid (Below w.heap.size w wr)) (fun iv _ => js.length - (intOf iv).toNat)
    case atStart => exact ⟨0, by omega, rfl, Lib.hid (by simp), Lib.hid (Below.refl _ _)⟩
    case round =>
      obtain ⟨k, hk, rfl, HK, HB⟩ := hrel
      by_cases hlt : k < js.length
      · obtain ⟨x, hx⟩ : ∃ x, js[k]? = some x := ⟨_, List.getElem?_eq_getElem hlt⟩
        have r := HC.out k x hx
        have u0 : wr.cell? ⟨f, o + k * 5, none⟩ = some (.int .i64 x.kind) := (HB.out.cell (p := ⟨f, o + k * 5, none⟩) hf).trans (r 0 _ rfl)
        have u1 : wr.cell? ⟨f, o + k * 5 + 1, none⟩ = some (.int .i64 x.at_) := (HB.out.cell (p := ⟨f, o + k * 5 + 1, none⟩) hf).trans (r 1 _ rfl)
        have u2 : wr.cell? ⟨f, o + k * 5 + 2, none⟩ = some (.int .i64 x.work) := (HB.out.cell (p := ⟨f, o + k * 5 + 2, none⟩) hf).trans (r 2 _ rfl)
        have u3 : wr.cell? ⟨f, o + k * 5 + 3, none⟩ = some (.int .i64 x.a) := (HB.out.cell (p := ⟨f, o + k * 5 + 3, none⟩) hf).trans (r 3 _ rfl)
        have u4 : wr.cell? ⟨f, o + k * 5 + 4, none⟩ = some (.int .i64 x.b) := (HB.out.cell (p := ⟨f, o + k * 5 + 4, none⟩) hf).trans (r 4 _ rfl)
        have HX := Lib.hid hx
        have hk0 : (0 : Int) ≤ (k : Int) := by omega
        have hk1 : (k : Int) < (js.length : Int) := by omega
        have M1 := Lib.hid (HM.out.frm (l := []) (.of_below HB.out) (by simp) (by simp))
        have P1 : Hid (wr.cell? ⟨p, 0, none⟩ = some (.pointer (some ⟨b, 0, none⟩))) := Lib.hid ((HB.out.cell (p := ⟨p, 0, none⟩) hpl).trans HP.out)
        clear hx r
        obtain ⟨q, hq⟩ : ∃ q, x.ok s.ws.length = q := ⟨_, rfl⟩
        have Q := Lib.hid hq
        clear hq
        cases q
        · go_wp2_with (first | (go_at_call 28; refine (right_not (j := x) M1.out P1.out).mono ?_; rintro e w1 ⟨rfl, b1⟩; rw [Q.out]))
          go_ret
          exact ⟨k, rfl, by
            rw [decide_eq_true (by omega), Eq.comm, List.any_eq_true]
            exact ⟨x, List.mem_of_getElem? HX.out, by rw [Q.out]; rfl⟩, HB.out.trans (b1.mono HB.out.size)⟩
        · go_wp2_with (first | (go_at_call 28; refine (right_not (j := x) M1.out P1.out).mono ?_; rintro e w1 ⟨rfl, b1⟩; rw [Q.out]))
          go_roundw
          case rel => exact ⟨k + 1, by omega, by go_num, Lib.hid (by
            intro y hy
            rw [List.take_add_one, HX.out, List.mem_append] at hy
            rcases hy with hy | hy
            · exact HK.out y hy
            · simp at hy; rw [hy]; exact Q.out), Lib.hid (HB.out.trans (b1.mono HB.out.size))⟩
          case measure => simp [intOf]; omega
      · obtain rfl : k = js.length := by omega
        go_wp2_with fail
        go_ret
        refine ⟨-1, rfl, ?_, HB.out⟩
        rw [decide_eq_false (by omega), Eq.comm, List.any_eq_false]
        intro y hy
        rw [HK.out y (by rw [List.take_length]; exact hy)]
        decide
theorem contains_any {b c p : Nat} {s : MS} {v : Value} {js : List Jb} {w : World} (hm : IsMem w b c s) (hp : w.cell? ⟨p, 0, none⟩ = some (.pointer (some ⟨b, 0, none⟩))) (hj : JobsAt w v js) (hl : js.length ≤ 1000000000) :
    Calls Try.prog 27 #[v, .func (.func 28) #[] #[.pointer (some ⟨p, 0, none⟩)]] w fun e w' => e = .returned (.bool (js.any (fun j => !j.ok s.ws.length))) ∧ Below w.heap.size w w' := by
  have X : Hid (Calls Try.prog 40 #[v, .func (.func 28) #[] #[.pointer (some ⟨p, 0, none⟩)]] w fun e w' => ∃ r : Int, e = .returned (.int .i64 r) ∧ decide (r ≥ 0) = js.any (fun j => !j.ok s.ws.length) ∧ Below w.heap.size w w') := Lib.hid (index_any hm hp hj hl)
  clear hm hp hj hl
  go_enter Try.func27, Try.ntmps27
  go_wp2_with (first | (go_at_call 40; refine X.out.mono ?_; rintro e w1 ⟨r, rfl, hr, b1⟩))
  go_ret
  exact ⟨by rw [← hr]; rfl, b1⟩

/-- Machines, one behind the other, cell by cell. -/
def rowsOf (L : List Mch) : List Value := L.flatMap Mch.cells
theorem rowsOf_length (L : List Mch) : (rowsOf L).length = L.length * 14 := by
  induction L with
  | nil => rfl
  | cons x L ih => simp only [rowsOf, List.flatMap_cons, List.length_append, List.length_cons] at ih ⊢; rw [ih, Mch.len]; omega
theorem rowsOf_at : ∀ (L : List Mch) (i : Nat) (x : Mch), L[i]? = some x → ∀ j v, x.cells[j]? = some v → (rowsOf L)[i * 14 + j]? = some v
  | [], i, x, h, _, _, _ => by simp at h
  | y :: L, 0, x, h, j, v, hv => by
    simp at h; subst h
    have hj : j < y.cells.length := (List.getElem?_eq_some_iff.1 hv).1
    rw [rowsOf, List.flatMap_cons, Nat.zero_mul, Nat.zero_add, List.getElem?_append_left hj]; exact hv
  | y :: L, i + 1, x, h, j, v, hv => by
    have := rowsOf_at L i x (by simpa using h) j v hv
    rw [rowsOf, List.flatMap_cons, List.getElem?_append_right (by rw [Mch.len]; omega), Mch.len, show (i + 1) * 14 + j - 14 = i * 14 + j from by omega]
    exact this
theorem Win.rows {w : World} {base f o n cap : Nat} {L : List Mch} (h : Win w base 80 14 (.slice (some ⟨f, o, none⟩) n cap) n (rowsOf L)) : RowsAt w f o L := by
  have hn : n * 14 = L.length * 14 := by rw [← h.1, rowsOf_length]
  refine ⟨(h.lt f rfl).2, fun j => h.free j, fun i x hx j v hv => ?_⟩
  have hi := (List.getElem?_eq_some_iff.1 hx).1
  have hj := (List.getElem?_eq_some_iff.1 hv).1
  rw [Mch.len] at hj
  have := h.cells (i * 14 + j) (by omega)
  rw [Nat.add_assoc, this]
  exact rowsOf_at L i x hx j v hv

/-- A run, and the memory on which it goes. -/
structure Sys (w : World) (r b c f o cap : Nat) (v : Value) (L : List Mch) (s : MS) : Prop where
  hr : Holds w r #[.pointer (some ⟨b, 0, none⟩), v]
  hm : IsMem w b c s
  hv : (L = [] ∧ v = .slice none 0 0) ∨ (v = .slice (some ⟨f, o, none⟩) L.length cap ∧ RowsAt w f o L)
  le : L.length ≤ 8
  fb : f ≠ b
  fc : f ≠ c
  rb : r ≠ b
  rc : r ≠ c
  rf : r ≠ f
theorem Sys.frm {w w' : World} {r b c f o cap : Nat} {v : Value} {L : List Mch} {s : MS} {l : List Nat} (h : Sys w r b c f o cap v L s) (hf : Frm l w w') (n1 : r ∉ l) (n2 : b ∉ l) (n3 : c ∉ l) (n4 : f ∉ l) : Sys w' r b c f o cap v L s :=
  ⟨h.hr.frm hf n1, h.hm.frm hf n2 n3, h.hv.imp id (fun q => ⟨q.1, q.2.frm hf n4⟩), h.le, h.fb, h.fc, h.rb, h.rc, h.rf⟩
theorem Sys.below {w w' : World} {r b c f o cap : Nat} {v : Value} {L : List Mch} {s : MS} (h : Sys w r b c f o cap v L s) (hb : Below w.heap.size w w') : Sys w' r b c f o cap v L s :=
  h.frm (l := []) (.of_below hb) (by simp) (by simp) (by simp) (by simp)
end Go.Proofs.Ytmhmgenchpemkaa
