/- Events of a serial run break no rule; turned ones do: plain Lean. -/
import Derived.Test.YtfjghemojnhmbaaGreatYa
namespace Go.Proofs.YtfjghemojnhmbaaGreat
open Go.RowKit

/-- A call that was done: who, what, the result. -/
structure Dn where
  t : Int
  c : Cal
  r : Res
def Dn.ok (x : Dn) : Prop := 0 ≤ x.t ∧ x.t < 8 ∧ fldI x.c.c0 x.r = true
def pairs : List Dn → List Ev
  | [] => []
  | x :: l => ⟨1, x.t, x.c, Res.zero⟩ :: ⟨2, x.t, x.c, x.r⟩ :: pairs l
theorem pairs_len : ∀ l, (pairs l).length = 2 * l.length
  | [] => rfl
  | x :: l => by simp [pairs, pairs_len l]; omega
theorem pairs_app : ∀ l m, pairs (l ++ m) = pairs l ++ pairs m
  | [], _ => rfl
  | x :: l, m => by simp [pairs, pairs_app l m]
theorem pairs_take (l : List Dn) (j : Nat) (hj : j ≤ l.length) : (pairs l).take (2 * j) = pairs (l.take j) := by
  have h : pairs l = pairs (l.take j) ++ pairs (l.drop j) := by rw [← pairs_app, List.take_append_drop]
  have hl : (pairs (l.take j)).length = 2 * j := by rw [pairs_len, List.length_take]; omega
  rw [h, ← hl, List.take_left']
  rfl
theorem pairs_at : ∀ (l : List Dn) (j : Nat) (x : Dn), l[j]? = some x → (pairs l)[2 * j]? = some ⟨1, x.t, x.c, Res.zero⟩ ∧ (pairs l)[2 * j + 1]? = some ⟨2, x.t, x.c, x.r⟩
  | [], j, x, h => by simp at h
  | y :: l, 0, x, h => by
    simp at h
    subst h
    exact ⟨rfl, rfl⟩
  | y :: l, j + 1, x, h => by
    have h' : l[j]? = some x := by simpa using h
    obtain ⟨h1, h2⟩ := pairs_at l j x h'
    rw [show 2 * (j + 1) = 2 * j + 1 + 1 by omega]
    exact ⟨by simpa [pairs] using h1, by simpa [pairs] using h2⟩
theorem ok_called {s : St} {t : Int} {c : Cal} {r : Res} (ht : 0 ≤ t ∧ t < 8) (hs : s.op t.toNat = 0) : okE s ⟨1, t, c, r⟩ = true := by
  simp [okE, ht, hs]
theorem ok_returned {s : St} {t : Int} {c : Cal} {r : Res} (ht : 0 ≤ t ∧ t < 8) (hs : s.op t.toNat ≠ 0) : okE s ⟨2, t, c, r⟩ = true := by
  simp [okE, ht, hs]
theorem step_called (s : St) (i : Nat) (t : Int) (c : Cal) (r : Res) : (stepE s i ⟨1, t, c, r⟩).op = updN s.op t.toNat (s.l.length + 1) := rfl
theorem step_returned (s : St) (i : Nat) (t : Int) (c : Cal) (r : Res) : (stepE s i ⟨2, t, c, r⟩).op = updN s.op t.toNat 0 := rfl
theorem run_pairs : ∀ (A : List Dn) (k : Nat) (s : St), (∀ x ∈ A, x.ok) → (∀ t, s.op t = 0) → ∃ s', runE (pairs A) k s = .ok s' ∧ ∀ t, s'.op t = 0
  | [], k, s, _, h => ⟨s, rfl, h⟩
  | x :: A, k, s, hx, h => by
    have hxo := hx x (by simp)
    have h1 : okE s ⟨1, x.t, x.c, Res.zero⟩ = true := ok_called ⟨hxo.1, hxo.2.1⟩ (h _)
    have h2 : okE (stepE s k ⟨1, x.t, x.c, Res.zero⟩) ⟨2, x.t, x.c, x.r⟩ = true := ok_returned ⟨hxo.1, hxo.2.1⟩ (by rw [step_called]; simp [updN])
    have h3 : ∀ t, (stepE (stepE s k ⟨1, x.t, x.c, Res.zero⟩) (k + 1) ⟨2, x.t, x.c, x.r⟩).op t = 0 := fun t => by
      rw [step_returned, step_called]
      unfold updN
      split
      · rfl
      · exact h t
    obtain ⟨s', e1, e2⟩ := run_pairs A (k + 1 + 1) _ (fun y hy => hx y (by simp [hy])) h3
    refine ⟨s', ?_, e2⟩
    show runE (_ :: _ :: pairs A) k s = _
    rw [runE_cons, if_neg (by simp), if_pos h1, runE_cons, if_neg (by simp), if_pos h2]
    exact e1
theorem calI_self (c : Cal) : calI c c = true := by simp [calI]
theorem sameI_zero : sameI Res.zero Res.zero = true := by decide
theorem ops_even {E : List Ev} {A : List Dn} (hA : ∀ x ∈ A, x.ok) (hE : E.take (2 * A.length) = pairs A) : ∃ s, ops (E.take (2 * A.length)) = .ok s ∧ ∀ t, s.op t = 0 := by
  rw [hE]
  exact run_pairs A 0 St.new hA (fun _ => rfl)
theorem verd_called {E : List Ev} {A : List Dn} (hA : ∀ x ∈ A, x.ok) (hE : E.take (2 * A.length) = pairs A) {t : Int} {c : Cal} {r : Res} (ht : 0 ≤ t ∧ t < 8) (he : E[2 * A.length]? = some ⟨1, t, c, r⟩) : verd E (2 * A.length) = if sameI r Res.zero = false then some (4, ((2 * A.length : Nat) : Int)) else none := by
  obtain ⟨s, h1, h2⟩ := ops_even hA hE
  unfold verd
  rw [h1, he]
  show verdE E _ s _ = _
  have hb : badE s ⟨1, t, c, r⟩ = false := by unfold badE; rw [ok_called ht (h2 _)]; rfl
  unfold verdE
  rw [if_neg (by rw [hb]; simp), if_neg (by simp), if_neg (by simp)]
  by_cases h : sameI r Res.zero = false
  · rw [if_pos ⟨by simp, h⟩, if_pos h]
  · rw [if_neg (fun q => h q.2), if_neg h]
theorem verd_out {E : List Ev} {A : List Dn} (hA : ∀ x ∈ A, x.ok) (hE : E.take (2 * A.length) = pairs A) {t : Int} {c : Cal} {r : Res} (he : E[2 * A.length]? = some ⟨2, t, c, r⟩) : verd E (2 * A.length) = some (1, ((2 * A.length : Nat) : Int)) := by
  obtain ⟨s, h1, h2⟩ := ops_even hA hE
  unfold verd
  rw [h1, he]
  show verdE E _ s _ = _
  have hb : badE s ⟨2, t, c, r⟩ = true := by
    unfold badE okE
    simp [h2]
  unfold verdE
  rw [if_pos hb]
theorem verd_returned {E : List Ev} {A : List Dn} (hA : ∀ x ∈ A, x.ok) (hE : E.take (2 * A.length) = pairs A) {t : Int} {c : Cal} {r r0 : Res} (ht : 0 ≤ t ∧ t < 8) (hf : fldI c.c0 r = true) (he0 : E[2 * A.length]? = some ⟨1, t, c, r0⟩) (he : E[2 * A.length + 1]? = some ⟨2, t, c, r⟩) : verd E (2 * A.length + 1) = none := by
  obtain ⟨s, h1, h2⟩ := ops_even hA hE
  have h3 : ops (E.take (2 * A.length + 1)) = .ok (stepE s (2 * A.length) ⟨1, t, c, r0⟩) := by
    have e : E.take (2 * A.length + 1) = E.take (2 * A.length) ++ [⟨1, t, c, r0⟩] := by rw [List.take_add_one, he0]; rfl
    have hl : (E.take (2 * A.length)).length = 2 * A.length := by rw [hE, pairs_len]
    unfold ops at h1 ⊢
    rw [e, runE_append, h1]
    show runE _ (0 + (E.take (2 * A.length)).length) s = _
    rw [hl, Nat.zero_add, runE_cons, if_neg (by simp), if_pos (ok_called ht (h2 _))]
    rfl
  unfold verd
  rw [h3, he]
  show verdE E _ _ _ = _
  have hb : badE (stepE s (2 * A.length) ⟨1, t, c, r0⟩) ⟨2, t, c, r⟩ = false := by
    unfold badE
    rw [ok_returned ht (by rw [step_called]; simp [updN])]
    rfl
  have ho : opn E (2 * A.length + 1) t.toNat = 2 * A.length := by
    show (match E[2 * A.length]? with | some e => if e.k = 1 then updN (opn E (2 * A.length)) e.t.toNat (2 * A.length) else opn E (2 * A.length) | none => opn E (2 * A.length)) t.toNat = _
    rw [he0]
    simp [updN]
  have hc : callAt E (2 * A.length) = c := by unfold callAt; rw [he0]
  unfold verdE
  rw [if_neg (by rw [hb]; simp)]
  show (if (2 : Int) = 2 ∧ calI (callAt E (opn E (2 * A.length + 1) t.toNat)) c = false then _ else _) = _
  rw [ho, hc, calI_self, if_neg (by simp)]
  show (if (2 : Int) = 2 ∧ fldI c.c0 r = false then _ else _) = _
  rw [hf, if_neg (by simp)]
  show (if (2 : Int) ≠ 2 ∧ _ then _ else _) = _
  rw [if_neg (by simp)]
theorem find_none {f : Nat → Option (Int × Int)} {n : Nat} (h : ∀ i, i < n → f i = none) : (List.range n).findSome? f = none := by
  rw [List.findSome?_eq_none_iff]
  intro i hi
  exact h i (List.mem_range.1 hi)
theorem find_first {f : Nat → Option (Int × Int)} {n k : Nat} {v : Int × Int} (hk : k < n) (h : ∀ i, i < k → f i = none) (hv : f k = some v) : (List.range n).findSome? f = some v := by
  have e : List.range n = List.range k ++ (List.range (n - k)).map (k + ·) := by rw [← List.range_add]; congr 1; omega
  rw [e, List.findSome?_append, find_none h]
  obtain ⟨m, hm⟩ : ∃ m, n - k = m + 1 := ⟨n - k - 1, by omega⟩
  rw [hm, List.range_succ_eq_map]
  simp [hv]
/-- What comes ahead of the turned event breaks no rule. -/
theorem verd_before {E : List Ev} {l : List Dn} (hl : ∀ x ∈ l, x.ok) {k : Nat} (hk : k ≤ l.length) (hE : ∀ i, i < 2 * k → E[i]? = (pairs l)[i]?) : ∀ i, i < 2 * k → verd E i = none := by
  intro i hi
  obtain ⟨j, hj⟩ : ∃ j, i = 2 * j ∨ i = 2 * j + 1 := ⟨i / 2, by omega⟩
  have hjk : j < k := by omega
  have hx : l[j]? = some l[j] := List.getElem?_eq_getElem (by omega)
  have hlen : (l.take j).length = j := by rw [List.length_take]; omega
  obtain ⟨p1, p2⟩ := pairs_at l j _ hx
  have hok := hl _ (List.getElem_mem (l := l) (n := j) (by omega))
  have hA : ∀ x ∈ l.take j, x.ok := fun x hx => hl x (List.mem_of_mem_take hx)
  have hT : E.take (2 * (l.take j).length) = pairs (l.take j) := by
    rw [hlen, ← pairs_take l j (by omega)]
    apply List.ext_getElem?
    intro m
    by_cases hm : m < 2 * j
    · rw [List.getElem?_take_of_lt hm, List.getElem?_take_of_lt hm, hE m (by omega)]
    · rw [List.getElem?_take_eq_none (by omega), List.getElem?_take_eq_none (by omega)]
  have e1 : E[2 * (l.take j).length]? = some ⟨1, l[j].t, l[j].c, Res.zero⟩ := by rw [hlen, hE _ (by omega), p1]
  have e2 : E[2 * (l.take j).length + 1]? = some ⟨2, l[j].t, l[j].c, l[j].r⟩ := by rw [hlen, hE _ (by omega), p2]
  rcases hj with rfl | rfl
  · have := verd_called hA hT ⟨hok.1, hok.2.1⟩ e1
    rw [hlen] at this
    rw [this, sameI_zero, if_neg (by simp)]
  · have := verd_returned hA hT ⟨hok.1, hok.2.1⟩ hok.2.2 e1 e2
    rw [hlen] at this
    exact this
theorem shp_serial {l : List Dn} (hl : ∀ x ∈ l, x.ok) : shp (pairs l) = (0, 0) := by
  unfold shp
  rw [find_none (fun i hi => verd_before hl (Nat.le_refl _) (fun _ _ => rfl) i (by rw [pairs_len] at hi; exact hi))]
theorem take_same {l : List Dn} {E : List Ev} {k : Nat} (hk : k ≤ l.length) (hE : ∀ i, i < 2 * k → E[i]? = (pairs l)[i]?) : E.take (2 * (l.take k).length) = pairs (l.take k) := by
  have hlen : (l.take k).length = k := by rw [List.length_take]; omega
  rw [hlen, ← pairs_take l k hk]
  apply List.ext_getElem?
  intro m
  by_cases hm : m < 2 * k
  · rw [List.getElem?_take_of_lt hm, List.getElem?_take_of_lt hm, hE m hm]
  · rw [List.getElem?_take_eq_none (by omega), List.getElem?_take_eq_none (by omega)]
/-- A Called taken out. -/
theorem shp_out {l : List Dn} (hl : ∀ x ∈ l, x.ok) {k : Nat} (hk : k < l.length) : shp ((pairs l).take (2 * k) ++ (pairs l).drop (2 * k + 1)) = (1, ((2 * k : Nat) : Int)) := by
  have hlen : (l.take k).length = k := by rw [List.length_take]; omega
  have hpl := pairs_len l
  obtain ⟨p1, p2⟩ := pairs_at l k _ (List.getElem?_eq_getElem hk)
  have hE : ∀ i, i < 2 * k → ((pairs l).take (2 * k) ++ (pairs l).drop (2 * k + 1))[i]? = (pairs l)[i]? := fun i hi => by
    rw [List.getElem?_append_left (by rw [List.length_take]; omega), List.getElem?_take_of_lt hi]
  have he : ((pairs l).take (2 * k) ++ (pairs l).drop (2 * k + 1))[2 * (l.take k).length]? = some ⟨2, l[k].t, l[k].c, l[k].r⟩ := by
    have h0 : ((pairs l).take (2 * k)).length = 2 * k := by rw [List.length_take]; omega
    rw [hlen, List.getElem?_append_right (by rw [h0]; exact Nat.le_refl _), h0, List.getElem?_drop, Nat.sub_self, Nat.add_zero, p2]
  have hv := verd_out (fun x hx => hl x (List.mem_of_mem_take hx)) (take_same (Nat.le_of_lt hk) hE) he
  rw [hlen] at hv
  unfold shp
  rw [find_first (k := 2 * k) (by rw [List.length_append, List.length_take, List.length_drop]; omega) (verd_before hl (Nat.le_of_lt hk) hE) hv]
/-- A Result told of a Called. -/
theorem shp_told {l : List Dn} (hl : ∀ x ∈ l, x.ok) {k : Nat} (hk : k < l.length) {E : List Ev} (hlE : E.length = (pairs l).length) (hE : ∀ i, i ≠ 2 * k → E[i]? = (pairs l)[i]?) {r : Res} (he : E[2 * k]? = some ⟨1, l[k].t, l[k].c, r⟩) (hr : r.w ≠ 0) : shp E = (4, ((2 * k : Nat) : Int)) := by
  have hlen : (l.take k).length = k := by rw [List.length_take]; omega
  have hpl := pairs_len l
  have hok := hl _ (List.getElem_mem hk)
  have hE' : ∀ i, i < 2 * k → E[i]? = (pairs l)[i]? := fun i hi => hE i (by omega)
  have hv := verd_called (fun x hx => hl x (List.mem_of_mem_take hx)) (take_same (Nat.le_of_lt hk) hE') ⟨hok.1, hok.2.1⟩ (by rw [hlen]; exact he)
  have hs : sameI r Res.zero = false := by simp [sameI, Res.zero, hr]
  rw [hlen, if_pos hs] at hv
  unfold shp
  rw [find_first (k := 2 * k) (by omega) (verd_before hl (Nat.le_of_lt hk) hE') hv]
end Go.Proofs.YtfjghemojnhmbaaGreat
/- Few, of one call; Within. -/
namespace Go.Proofs.YtfjghemojnhmbaaGreat
open Go.RowKit

def cutS (s : ByteArray) : ByteArray := if 5000 < s.size then s.extract 0 5000 else s
theorem cutS_pos {s : ByteArray} (h : 5000 < s.size) : cutS s = s.extract 0 5000 := if_pos h
theorem cutS_neg {s : ByteArray} (h : ¬ 5000 < s.size) : cutS s = s := if_neg h
theorem cutS_size (s : ByteArray) : (cutS s).size ≤ 5000 := by
  unfold cutS
  split
  · simp; omega
  · omega
/-- A call, its paths and data not too long. -/
def Cl.cut (q : Cl) : Cl := { q with path := cutS q.path, dest := cutS q.dest, dl := if 2000 < q.dl then 2000 else q.dl }
def Cl.cells (q : Cl) : List Value := [.int .i64 q.op, .string q.path, .string q.dest, .int .i64 q.fd, .int .i64 q.flags, .int .i64 q.mode, .int .i64 q.n, .int .i64 q.m, .slice q.da q.dl q.dc]
theorem call_cells {w : World} {D : Nat} {a0 a1 a2 a3 a4 a5 a6 a7 a8 : Value} (k : Blk w D 42 #[a0, a1, a2, a3, a4, a5, a6, a7, a8]) : w.cell? ⟨D, 0, none⟩ = some a0 ∧ w.cell? ⟨D, 1, none⟩ = some a1 ∧ w.cell? ⟨D, 2, none⟩ = some a2 ∧ w.cell? ⟨D, 3, none⟩ = some a3 ∧ w.cell? ⟨D, 4, none⟩ = some a4 ∧ w.cell? ⟨D, 5, none⟩ = some a5 ∧ w.cell? ⟨D, 6, none⟩ = some a6 ∧ w.cell? ⟨D, 7, none⟩ = some a7 ∧ w.cell? ⟨D, 8, none⟩ = some a8 ∧ ∀ j, w.frozen? ⟨D, j, none⟩ = false :=
  ⟨k.cell 0, k.cell 1, k.cell 2, k.cell 3, k.cell 4, k.cell 5, k.cell 6, k.cell 7, k.cell 8, k.free⟩
theorem info42 : (Tryz.prog.info? 42).map (fun i => (i.zero, i.size, i.bytes)) = some (some (.agg #[.int .i64 0, .string ⟨#[]⟩, .string ⟨#[]⟩, .int .i64 0, .int .i64 0, .int .i64 0, .int .i64 0, .int .i64 0, .slice none 0 0]), 9, 104) := by kernel_rfl
theorem within2_any (n hi : Int) (h0 : 0 ≤ hi) (h1 : hi ≤ 1000) (_hn : R64 n) (w : World) : Calls Tryz.prog 9 #[.int .i64 n, .int .i64 0, .int .i64 hi] w fun e w' => ∃ k : Int, 0 ≤ k ∧ k ≤ hi ∧ e = .returned (.int .i64 k) ∧ w = w' := by
  have W : ∀ x : Int, -4000 ≤ x → x ≤ 4000 → IntKind.i64.wrap x = x := fun x a b => by rw [IntWalk.i64_left]; exact IntWalk.wrap64_in _ ⟨by omega, by omega⟩
  have h2 : -(hi + 1) < n.tmod (hi + 1) ∧ n.tmod (hi + 1) < hi + 1 := ⟨by have := Int.lt_tmod_of_pos n (show 0 < hi + 1 by omega); omega, Int.tmod_lt_of_pos n (by omega)⟩
  have e0 := W (hi - 0) (by omega) (by omega)
  rw [Int.sub_zero] at e0
  have e1 := W (hi + 1) (by omega) (by omega)
  have e2 := W (n.tmod (hi + 1)) (by omega) (by omega)
  have e3 := W (n.tmod (hi + 1) + hi) (by omega) (by omega)
  have e4 := W (n.tmod (hi + 1) + hi + 1) (by omega) (by omega)
  have hne : ¬ hi + 1 = 0 := by omega
  have HW := Lib.hid W
  clear W
  generalize hm : n.tmod (hi + 1) = m at h2 e2 e3 e4
  go_enter Tryz.func9, Tryz.ntmps9
  go_upto_region 2 with fail
  by_cases h0 : m < 0
  · go_wp2_with fail
    go_ret
    exact ⟨m + hi + 1, by omega, by omega, rfl, rfl⟩
  · go_wp2_with fail
    go_ret
    exact ⟨m, by omega, by omega, rfl, rfl⟩
set_option maxRecDepth 100000 in
set_option maxHeartbeats 4000000 in
theorem few_any {w : World} {b : Nat} (q : Cl) (hb : Blk w b 42 #[.int .i64 q.op, .string q.path, .string q.dest, .int .i64 q.fd, .int .i64 q.flags, .int .i64 q.mode, .int .i64 q.n, .int .i64 q.m, .slice q.da q.dl q.dc]) (hd : q.dl ≤ q.dc) (hds : 0 < q.dl → ∃ f o, q.da = some ⟨f, o, none⟩) : Calls Tryz.prog 11 #[.slice (some ⟨b, 0, none⟩) 1 1, .int .i64 1] w fun e w' => ∃ (ob oo oc : Nat), e = .returned (.slice (some ⟨ob, oo, none⟩) 1 oc) ∧ Below w.heap.size w w' ∧ Win w' w.heap.size 42 9 (.slice (some ⟨ob, oo, none⟩) 1 oc) 1 q.cut.cells := by
  obtain ⟨i42, h421, h422, h423, h424⟩ := info_parts info42
  have HQ := Lib.hid (And.intro hb (And.intro hd hds))
  clear hb hd hds
  go_enter Tryz.func11, Tryz.ntmps11
  go_wp2_with fail
  go_loopw [6, 5] (fun iv ov wr => (iv = .int .i64 0 ∧ ov = .slice none 0 0 ∧ Hid (Below w.heap.size w wr)) ∨ (iv = .int .i64 1 ∧ ∃ (ob oo oc : Nat), ov = .slice (some ⟨ob, oo, none⟩) 1 oc ∧ Hid (Below w.heap.size w wr ∧ Win wr w.heap.size 42 9 (.slice (some ⟨ob, oo, none⟩) 1 oc) 1 q.cut.cells))) (fun iv _ _ => 1 - (intOf iv).toNat)
  case atStart => exact .inl ⟨rfl, rfl, Lib.hid (Below.refl _ _)⟩
  case round =>
    rcases hrel with ⟨rfl, rfl, HB⟩ | ⟨rfl, ob, oo, oc, rfl, HR⟩
    · obtain ⟨q0, q1, q2, q3, q4, q5, q6, q7, q8, qf⟩ := call_cells (HQ.out.1.below HB.out)
      go_upto_region 6 with fail
      have HB0 := Lib.hid (HB.out.trans ((box1 wr #[.int .i64 q.op, .string q.path, .string q.dest, .int .i64 q.fd, .int .i64 q.flags, .int .i64 q.mode, .int .i64 q.n, .int .i64 q.m, .slice q.da q.dl q.dc] 42).1.mono HB.out.size))
      have HF := Lib.hid (box1 wr #[.int .i64 q.op, .string q.path, .string q.dest, .int .i64 q.fd, .int .i64 q.flags, .int .i64 q.mode, .int .i64 q.n, .int .i64 q.m, .slice q.da q.dl q.dc] 42).2
      have hFW := HB.out.size
      generalize wr.alloc (.cells #[.int .i64 q.op, .string q.path, .string q.dest, .int .i64 q.fd, .int .i64 q.flags, .int .i64 q.mode, .int .i64 q.n, .int .i64 q.m, .slice q.da q.dl q.dc] 42) = X0 at HB0 HF ⊢
      obtain ⟨F, hF⟩ : ∃ F, wr.heap.size = F := ⟨_, rfl⟩
      rw [hF] at HF hFW ⊢
      have HFW := Lib.hid hFW
      clear q0 q1 q2 q3 q4 q5 q6 q7 q8 qf hF hFW HB
      obtain ⟨q0, q1, q2, q3, q4, q5, q6, q7, q8, qf⟩ := call_cells HF.out
      by_cases h1 : (5000 : Int) < (q.path.size : Int) <;> go_upto_region 8 with fail
      all_goals first
        | (have e1 : cutS q.path = q.path.extract 0 5000 := cutS_pos (by omega); rw [← e1]; have hb := HB0.out.setCell HFW.out (.string (cutS q.path)) (p := ⟨F, 1, none⟩); have hf : Blk (X0.setCell ⟨F, 1, none⟩ (.string (cutS q.path))) F 42 #[.int .i64 q.op, .string (cutS q.path), .string q.dest, .int .i64 q.fd, .int .i64 q.flags, .int .i64 q.mode, .int .i64 q.n, .int .i64 q.m, .slice q.da q.dl q.dc] := (by simpa using HF.out.set 1 (.string (cutS q.path))); generalize X0.setCell ⟨F, 1, none⟩ (.string (cutS q.path)) = X1 at hb hf ⊢; replace HB0 := Lib.hid hb; replace HF := Lib.hid hf; clear hb hf e1; rename World => X0; clear q0 q1 q2 q3 q4 q5 q6 q7 q8 qf; obtain ⟨q0, q1, q2, q3, q4, q5, q6, q7, q8, qf⟩ := call_cells HF.out)
        | (have e1 : cutS q.path = q.path := cutS_neg (by omega); have hf : Blk X0 F 42 #[.int .i64 q.op, .string (cutS q.path), .string q.dest, .int .i64 q.fd, .int .i64 q.flags, .int .i64 q.mode, .int .i64 q.n, .int .i64 q.m, .slice q.da q.dl q.dc] := (by rw [e1]; exact HF.out); replace HF := Lib.hid hf; clear hf e1; clear q0 q1 q2 q3 q4 q5 q6 q7 q8 qf; obtain ⟨q0, q1, q2, q3, q4, q5, q6, q7, q8, qf⟩ := call_cells HF.out)
      all_goals (by_cases h2 : (5000 : Int) < (q.dest.size : Int) <;> go_upto_region 10 with fail)
      all_goals first
        | (have e1 : cutS q.dest = q.dest.extract 0 5000 := cutS_pos (by omega); rw [← e1]; have hb := HB0.out.setCell HFW.out (.string (cutS q.dest)) (p := ⟨F, 2, none⟩); have hf : Blk (X0.setCell ⟨F, 2, none⟩ (.string (cutS q.dest))) F 42 #[.int .i64 q.op, .string (cutS q.path), .string (cutS q.dest), .int .i64 q.fd, .int .i64 q.flags, .int .i64 q.mode, .int .i64 q.n, .int .i64 q.m, .slice q.da q.dl q.dc] := (by simpa using HF.out.set 2 (.string (cutS q.dest))); generalize X0.setCell ⟨F, 2, none⟩ (.string (cutS q.dest)) = X1 at hb hf ⊢; replace HB0 := Lib.hid hb; replace HF := Lib.hid hf; clear hb hf e1; rename World => X0; clear q0 q1 q2 q3 q4 q5 q6 q7 q8 qf; obtain ⟨q0, q1, q2, q3, q4, q5, q6, q7, q8, qf⟩ := call_cells HF.out)
        | (have e1 : cutS q.dest = q.dest := cutS_neg (by omega); have hf : Blk X0 F 42 #[.int .i64 q.op, .string (cutS q.path), .string (cutS q.dest), .int .i64 q.fd, .int .i64 q.flags, .int .i64 q.mode, .int .i64 q.n, .int .i64 q.m, .slice q.da q.dl q.dc] := (by rw [e1]; exact HF.out); replace HF := Lib.hid hf; clear hf e1; clear q0 q1 q2 q3 q4 q5 q6 q7 q8 qf; obtain ⟨q0, q1, q2, q3, q4, q5, q6, q7, q8, qf⟩ := call_cells HF.out)
      all_goals (by_cases h3 : (2000 : Int) < (q.dl : Int))
      all_goals first
        | (have h3' : 2000 < q.dl := (by omega); obtain ⟨f, o, hfo⟩ := HQ.out.2.2 (by omega); have hcap : (2000 : Int) ≤ (q.dc : Int) := (by have := HQ.out.2.1; omega); have q9 : X0.cell? ⟨F, 8, none⟩ = some (.slice (some ⟨f, o, none⟩) q.dl q.dc) := (by rw [← hfo]; exact q8); clear q8; go_upto_region 12 with fail; clear q9; have hb := HB0.out.setCell HFW.out (.slice (some ⟨f, o, none⟩) 2000 q.dc) (p := ⟨F, 8, none⟩); have hf : Blk (X0.setCell ⟨F, 8, none⟩ (.slice (some ⟨f, o, none⟩) 2000 q.dc)) F 42 #[.int .i64 q.op, .string (cutS q.path), .string (cutS q.dest), .int .i64 q.fd, .int .i64 q.flags, .int .i64 q.mode, .int .i64 q.n, .int .i64 q.m, .slice q.da (if 2000 < q.dl then 2000 else q.dl) q.dc] := (by rw [hfo, if_pos h3']; simpa using HF.out.set 8 (.slice (some ⟨f, o, none⟩) 2000 q.dc)); generalize X0.setCell ⟨F, 8, none⟩ (.slice (some ⟨f, o, none⟩) 2000 q.dc) = X1 at hb hf ⊢; replace HB0 := Lib.hid hb; replace HF := Lib.hid hf; clear hb hf hcap h3 h3' hfo; rename World => X0; clear q0 q1 q2 q3 q4 q5 q6 q7 qf)
        | (have h3' : ¬ 2000 < q.dl := (by omega); go_upto_region 12 with fail; have hf : Blk X0 F 42 #[.int .i64 q.op, .string (cutS q.path), .string (cutS q.dest), .int .i64 q.fd, .int .i64 q.flags, .int .i64 q.mode, .int .i64 q.n, .int .i64 q.m, .slice q.da (if 2000 < q.dl then 2000 else q.dl) q.dc] := (by rw [if_neg h3']; exact HF.out); replace HF := Lib.hid hf; clear hf h3 h3' q0 q1 q2 q3 q4 q5 q6 q7 q8 qf)
      all_goals
        obtain ⟨q0, q1, q2, q3, q4, q5, q6, q7, q8, qf⟩ := call_cells HF.out
        have hXs := HB0.out.size
        go_wp2_with (first | (at_builtin; go_must (refine wpList_append_win _ rfl (.tmp 47) (.tmp 49) 50 rfl w.heap.size 42 i42 _ 9 104 Tryz.underlying50 h421 h422 h423 h424 rfl (by decide) (.slice none 0 0) 0 [] rfl (Win.nil _ _ _ _) ⟨X0.heap.size, 0, none⟩ 1 1 [.int .i64 q.op, .string (cutS q.path), .string (cutS q.dest), .int .i64 q.fd, .int .i64 q.flags, .int .i64 q.mode, .int .i64 q.n, .int .i64 q.m, .slice q.da (if 2000 < q.dl then 2000 else q.dl) q.dc] rfl rfl (new_cells X0 [.int .i64 q.op, .string (cutS q.path), .string (cutS q.dest), .int .i64 q.fd, .int .i64 q.flags, .int .i64 q.mode, .int .i64 q.n, .int .i64 q.m, .slice q.da (if 2000 < q.dl then 2000 else q.dl) q.dc] 42) (by simp [Value.oneCell']) (by decide) (by unfold maxLen; omega) (by omega) (by simp; omega) ?_; intro f' o' cap' w4 hown hgrow hat; have HP := Lib.hid (And.intro (below_grow (HB0.out.alloc hXs _) hgrow (fun k hk => by cases hk) (by simp; omega)) hown); clear hown hgrow hat)))
        go_roundw
        case rel => exact .inr ⟨by go_num, f', o', cap', rfl, Lib.hid ⟨HP.out.1, HP.out.2⟩⟩
        case measure => simp [intOf]
    · go_wp2_with fail
      go_ret
      exact ⟨ob, oo, oc, rfl, HR.out.1, HR.out.2⟩
end Go.Proofs.YtfjghemojnhmbaaGreat
