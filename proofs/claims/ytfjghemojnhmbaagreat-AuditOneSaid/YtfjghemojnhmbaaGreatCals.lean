/- Calls held against one another. -/
import Derived.Test.YtfjghemojnhmbaaGreatFields
namespace Go.Proofs.YtfjghemojnhmbaaGreat
open Go.RowKit

theorem Cal.at {W : World} {b : Nat} {c : Cal} {x : Value} (h : Holds W b (c.cells x).toArray) : W.cell? ⟨b, 0, none⟩ = some (.int .i64 c.c0) ∧ W.cell? ⟨b, 1, none⟩ = some (.string c.c1) ∧ W.cell? ⟨b, 2, none⟩ = some (.string c.c2) ∧ W.cell? ⟨b, 3, none⟩ = some (.int .i64 c.c3) ∧ W.cell? ⟨b, 4, none⟩ = some (.int .i64 c.c4) ∧
    W.cell? ⟨b, 5, none⟩ = some (.int .i64 c.c5) ∧ W.cell? ⟨b, 6, none⟩ = some (.int .i64 c.c6) ∧ W.cell? ⟨b, 7, none⟩ = some (.int .i64 c.c7) ∧ W.cell? ⟨b, 8, none⟩ = some x :=
  ⟨h.cell 0, h.cell 1, h.cell 2, h.cell 3, h.cell 4, h.cell 5, h.cell 6, h.cell 7, h.cell 8⟩
def calI (a b : Cal) : Bool := decide (a.c0 = b.c0 ∧ a.c1 = b.c1 ∧ a.c2 = b.c2 ∧ a.c3 = b.c3 ∧ a.c4 = b.c4 ∧ a.c5 = b.c5 ∧ a.c6 = b.c6 ∧ a.c7 = b.c7) && (Lib.bytesOf a.ds == Lib.bytesOf b.ds)
theorem strs_ne {a b : ByteArray} (h : ¬ a = b) : (a.toList == b.toList) = false := by
  rw [beq_eq_false_iff_ne]
  intro e
  exact h (bytes_inj e)
set_option maxRecDepth 100000 in
set_option maxHeartbeats 8000000 in
theorem sameCall_any {w : World} {a b : Cal} {x x' : Value} (hx : Den 1 w x (byts a.ds)) (hx' : Den 1 w x' (byts b.ds)) :
    Calls Tryz.prog 14 #[.agg (a.cells x).toArray, .agg (b.cells x').toArray] w fun e w' => e = .returned (.bool (calI a b)) ∧ Below w.heap.size w w' := by
  obtain ⟨A, hA⟩ : ∃ A : Array Value, A = (a.cells x).toArray := ⟨_, rfl⟩
  obtain ⟨B, hB⟩ : ∃ B : Array Value, B = (b.cells x').toArray := ⟨_, rfl⟩
  rw [← hA, ← hB]
  have H1 : Hid (Holds ((w.alloc (.cells A 42)).alloc (.cells B 42)) w.heap.size (a.cells x).toArray) := Lib.hid (by rw [← hA]; exact (Holds.new _ _ _).alloc _)
  have H2 : Hid (Holds ((w.alloc (.cells A 42)).alloc (.cells B 42)) (w.heap.size + 1) (b.cells x').toArray) := Lib.hid (by
    have := Holds.new (w.alloc (.cells A 42)) B 42
    rw [← hB]
    simpa using this)
  have HW : Hid (Below w.heap.size w ((w.alloc (.cells A 42)).alloc (.cells B 42))) := Lib.hid (((Below.refl w.heap.size w).alloc (Nat.le_refl _) _).alloc (by simp) _)
  have DX := Lib.hid (hx.below HW.out)
  have DX' := Lib.hid (hx'.below HW.out)
  obtain ⟨p1, k1, rfl⟩ := hx.value
  obtain ⟨p3, k3, rfl⟩ := hx'.value
  obtain ⟨u0, u1, u2, u3, u4, u5, u6, u7, u8⟩ := Cal.at H1.out
  obtain ⟨v0, v1, v2, v3, v4, v5, v6, v7, v8⟩ := Cal.at H2.out
  clear hA hB hx hx'
  go_enter Tryz.func14, Tryz.ntmps14
  by_cases g0 : a.c0 = b.c0
  · by_cases g1 : a.c1 = b.c1
    · by_cases g2 : a.c2 = b.c2
      · by_cases g3 : a.c3 = b.c3
        · by_cases g4 : a.c4 = b.c4
          · by_cases g5 : a.c5 = b.c5
            · by_cases g6 : a.c6 = b.c6
              · by_cases g7 : a.c7 = b.c7
                · by_cases g8 : (Lib.bytesOf a.ds == Lib.bytesOf b.ds) = true
                  · have G : Hid (calI a b = true) := Lib.hid (by simp [calI, g0, g1, g2, g3, g4, g5, g6, g7, g8])
                    have G8 : Hid ((Lib.bytesOf a.ds == Lib.bytesOf b.ds) = true) := Lib.hid (by simpa using g8)
                    clear g8
                    go_wp2_with (first | (go_at_call 34; refine (byteq_any DX.out DX'.out).mono ?_; rintro e w5 ⟨rfl, b5⟩; rw [G8.out]; have HW := Lib.hid (HW.out.trans (b5.mono HW.out.size)); clear b5))
                    go_ret
                    exact ⟨by rw [G.out]; rfl, HW.out⟩
                  · have G : Hid (calI a b = false) := Lib.hid (by simp [calI, g0, g1, g2, g3, g4, g5, g6, g7, g8])
                    have G8 : Hid ((Lib.bytesOf a.ds == Lib.bytesOf b.ds) = false) := Lib.hid (by simpa using g8)
                    clear g8
                    go_wp2_with (first | (go_at_call 34; refine (byteq_any DX.out DX'.out).mono ?_; rintro e w5 ⟨rfl, b5⟩; rw [G8.out]; have HW := Lib.hid (HW.out.trans (b5.mono HW.out.size)); clear b5))
                    go_ret
                    exact ⟨by rw [G.out]; rfl, HW.out⟩
                · have G : Hid (calI a b = false) := Lib.hid (by simp [calI, g7])
                  go_wp2_with fail
                  go_ret
                  exact ⟨by rw [G.out]; rfl, HW.out⟩
              · have G : Hid (calI a b = false) := Lib.hid (by simp [calI, g6])
                go_wp2_with fail
                go_ret
                exact ⟨by rw [G.out]; rfl, HW.out⟩
            · have G : Hid (calI a b = false) := Lib.hid (by simp [calI, g5])
              go_wp2_with fail
              go_ret
              exact ⟨by rw [G.out]; rfl, HW.out⟩
          · have G : Hid (calI a b = false) := Lib.hid (by simp [calI, g4])
            go_wp2_with fail
            go_ret
            exact ⟨by rw [G.out]; rfl, HW.out⟩
        · have G : Hid (calI a b = false) := Lib.hid (by simp [calI, g3])
          go_wp2_with fail
          go_ret
          exact ⟨by rw [G.out]; rfl, HW.out⟩
      · have G : Hid (calI a b = false) := Lib.hid (by simp [calI, g2])
        have h2 := strs_ne g2
        go_wp2_with fail
        go_ret
        exact ⟨by rw [G.out]; rfl, HW.out⟩
    · have G : Hid (calI a b = false) := Lib.hid (by simp [calI, g1])
      have h1 := strs_ne g1
      go_wp2_with fail
      go_ret
      exact ⟨by rw [G.out]; rfl, HW.out⟩
  · have G : Hid (calI a b = false) := Lib.hid (by simp [calI, g0])
    go_wp2_with fail
    go_ret
    exact ⟨by rw [G.out]; rfl, HW.out⟩
end Go.Proofs.YtfjghemojnhmbaaGreat
/- The first rule that events break: plain Lean. -/
namespace Go.Proofs.YtfjghemojnhmbaaGreat
open Go.RowKit

def Cal.zero : Cal := ⟨0, 0, 0, 0, 0, 0, ⟨#[]⟩, ⟨#[]⟩, []⟩
/-- Which event Called a thread last. -/
def opn (E : List Ev) : Nat → Nat → Nat
  | 0 => fun _ => 0
  | i + 1 => match E[i]? with
    | some e => if e.k = 1 then updN (opn E i) e.t.toNat i else opn E i
    | none => opn E i
def updC (f : Nat → Cal) (t : Nat) (v : Cal) : Nat → Cal := fun x => if x = t then v else f x
def tab (E : List Ev) : Nat → Nat → Cal
  | 0 => fun _ => Cal.zero
  | i + 1 => match E[i]? with
    | some e => if e.k = 1 then updC (tab E i) e.t.toNat e.c else tab E i
    | none => tab E i
def callAt (E : List Ev) (j : Nat) : Cal := match E[j]? with
  | some e => e.c
  | none => Cal.zero
def badE (s : St) (e : Ev) : Bool := decide (e.k ≠ 3) && !okE s e
def verdE (E : List Ev) (i : Nat) (s : St) (e : Ev) : Option (Int × Int) :=
  if badE s e = true then some (1, i)
  else if e.k = 2 ∧ calI (callAt E (opn E i e.t.toNat)) e.c = false then some (2, i)
  else if e.k = 2 ∧ fldI e.c.c0 e.r = false then some (3, i)
  else if e.k ≠ 2 ∧ sameI e.r Res.zero = false then some (4, i)
  else none
def verd (E : List Ev) (i : Nat) : Option (Int × Int) := match ops (E.take i), E[i]? with
  | .ok s, some e => verdE E i s e
  | _, _ => none
def shp (E : List Ev) : Int × Int := match (List.range E.length).findSome? (verd E) with
  | some p => p
  | none => (0, 0)
def stepX (s : St) (i : Nat) (e : Ev) : St := if e.k = 3 then s else stepE s i e
def endOf (E : List Ev) : Int := match ops E with
  | .ok _ => E.length
  | .error j => j

theorem runE_cons (e : Ev) (A : List Ev) (k : Nat) (s : St) : runE (e :: A) k s = if e.k = 3 then runE A (k + 1) s else if okE s e then runE A (k + 1) (stepE s k e) else .error k := rfl
theorem runE_append : ∀ (A B : List Ev) (k : Nat) (s : St), runE (A ++ B) k s = match runE A k s with
    | .ok s' => runE B (k + A.length) s'
    | .error x => .error x
  | [], _, _, _ => rfl
  | e :: A, B, k, s => by
    show runE (e :: (A ++ B)) k s = _
    rw [runE_cons, runE_cons]
    by_cases h : e.k = 3
    · rw [if_pos h, if_pos h, runE_append A B (k + 1) s, List.length_cons, show k + (A.length + 1) = k + 1 + A.length from by omega]
    · rw [if_neg h, if_neg h]
      by_cases h2 : okE s e = true
      · rw [if_pos h2, if_pos h2, runE_append A B (k + 1) _, List.length_cons, show k + (A.length + 1) = k + 1 + A.length from by omega]
      · rw [if_neg h2, if_neg h2]
theorem runE_ge : ∀ (A : List Ev) (k : Nat) (s : St) (j : Nat), runE A k s = .error j → k ≤ j ∧ j < k + A.length
  | [], _, _, _, h => by cases h
  | e :: A, k, s, j, h => by
    unfold runE at h
    rw [List.length_cons]
    by_cases h1 : e.k = 3
    · rw [if_pos h1] at h
      have := runE_ge A _ _ _ h
      omega
    · rw [if_neg h1] at h
      by_cases h2 : okE s e = true
      · rw [if_pos h2] at h
        have := runE_ge A _ _ _ h
        omega
      · rw [if_neg h2] at h
        cases h
        omega
theorem badE_no {s : St} {e : Ev} (h : badE s e = false) : e.k = 3 ∨ (e.k ≠ 3 ∧ okE s e = true) := by
  unfold badE at h
  by_cases h3 : e.k = 3
  · exact .inl h3
  · simp [h3] at h
    exact .inr ⟨h3, h⟩
theorem badE_yes {s : St} {e : Ev} (h : badE s e = true) : e.k ≠ 3 ∧ okE s e = false := by
  unfold badE at h
  simpa using h
theorem runE_one {s : St} {i : Nat} {e : Ev} : runE [e] i s = if badE s e = true then .error i else .ok (stepX s i e) := by
  unfold runE runE stepX badE
  by_cases h3 : e.k = 3
  · simp [h3]
  · by_cases h2 : okE s e = true <;> simp [h3, h2]
theorem take_one {E : List Ev} {i : Nat} {e : Ev} (he : E[i]? = some e) : E.take (i + 1) = E.take i ++ [e] := by
  rw [List.take_add_one, he]
  rfl
theorem ops_next {E : List Ev} {i : Nat} {s : St} {e : Ev} (h : ops (E.take i) = .ok s) (he : E[i]? = some e) : ops (E.take (i + 1)) = if badE s e = true then .error i else .ok (stepX s i e) := by
  have hi : i < E.length := (List.getElem?_eq_some_iff.1 he).1
  unfold ops at h ⊢
  rw [take_one he, runE_append, h]
  show runE [e] (0 + (E.take i).length) s = _
  rw [List.length_take, Nat.zero_add, Nat.min_eq_left (by omega), runE_one]
theorem end_iff {E : List Ev} {i : Nat} {s : St} {e : Ev} (h : ops (E.take i) = .ok s) (he : E[i]? = some e) : ((i : Int) = endOf E ↔ badE s e = true) := by
  have hi : i < E.length := (List.getElem?_eq_some_iff.1 he).1
  have h1 := ops_next h he
  have e0 : E = E.take (i + 1) ++ E.drop (i + 1) := (List.take_append_drop _ _).symm
  have e1 : ops E = match ops (E.take (i + 1)) with
      | .ok s' => runE (E.drop (i + 1)) (i + 1) s'
      | .error x => .error x := by
    have := runE_append (E.take (i + 1)) (E.drop (i + 1)) 0 St.new
    rw [← e0, List.length_take, Nat.zero_add, Nat.min_eq_left (by omega)] at this
    exact this
  rw [h1] at e1
  unfold endOf
  by_cases hb : badE s e = true
  · rw [if_pos hb] at e1
    simp only [e1, hb]
  · rw [if_neg hb] at e1
    have e1 : ops E = runE (E.drop (i + 1)) (i + 1) (stepX s i e) := e1
    rw [e1]
    refine ⟨fun q => ?_, fun q => absurd q hb⟩
    exfalso
    cases hr : runE (E.drop (i + 1)) (i + 1) (stepX s i e) with
    | ok s' => rw [hr] at q; have q : (i : Int) = E.length := q; omega
    | error j =>
      rw [hr] at q
      have q : (i : Int) = j := q
      have := runE_ge _ _ _ _ hr
      omega
theorem verd_of {E : List Ev} {i : Nat} {s : St} {e : Ev} (h : ops (E.take i) = .ok s) (he : E[i]? = some e) : verd E i = verdE E i s e := by
  unfold verd
  rw [h, he]
theorem findSome_at {α : Type} (f : Nat → Option α) (p : α) (i : Nat) (hi : f i = some p) (hb : ∀ j, j < i → f j = none) : ∀ n, i < n → (List.range n).findSome? f = some p
  | 0, h => absurd h (by omega)
  | n + 1, h => by
    rw [List.range_succ, List.findSome?_append]
    by_cases e : i = n
    · subst e
      have : (List.range i).findSome? f = none := by
        rw [List.findSome?_eq_none_iff]
        intro x hx
        exact hb x (by simpa using hx)
      rw [this]
      simp [hi]
    · rw [findSome_at f p i hi hb n (by omega)]
      rfl
theorem shp_at {E : List Ev} {i : Nat} {p : Int × Int} (hi : i < E.length) (hb : ∀ j, j < i → verd E j = none) (h : verd E i = some p) : shp E = p := by
  unfold shp
  rw [findSome_at (verd E) p i h hb _ hi]
theorem shp_none {E : List Ev} (hb : ∀ j, j < E.length → verd E j = none) : shp E = (0, 0) := by
  unfold shp
  rw [List.findSome?_eq_none_iff.2 (fun x hx => hb x (by simpa using hx))]

/-- What holds ahead of event i: no rule is broken so far. -/
structure At (E : List Ev) (i : Nat) (s : St) : Prop where
  le : i ≤ E.length
  ok : ops (E.take i) = .ok s
  none : ∀ j, j < i → verd E j = none
  opn : ∀ T, s.op T ≠ 0 → opn E i T < i ∧ tab E i T = callAt E (opn E i T)
theorem At.new (E : List Ev) : At E 0 St.new := ⟨by omega, rfl, fun j h => absurd h (by omega), fun T h => absurd rfl h⟩
theorem At.next {E : List Ev} {i : Nat} {s : St} {e : Ev} (h : At E i s) (he : E[i]? = some e) (hv : verdE E i s e = Option.none) : At E (i + 1) (stepX s i e) := by
  have hi : i < E.length := (List.getElem?_eq_some_iff.1 he).1
  have hb : badE s e = false := by
    by_cases hb : badE s e = true
    · unfold verdE at hv
      rw [if_pos hb] at hv
      cases hv
    · simpa using hb
  refine ⟨by omega, by rw [ops_next h.ok he, hb]; rfl, fun j hj => ?_, fun T hT => ?_⟩
  · by_cases e1 : j = i
    · subst e1
      rw [verd_of h.ok he, hv]
    · exact h.none j (by omega)
  · have eo : Go.Proofs.YtfjghemojnhmbaaGreat.opn E (i + 1) = if e.k = 1 then updN (Go.Proofs.YtfjghemojnhmbaaGreat.opn E i) e.t.toNat i else Go.Proofs.YtfjghemojnhmbaaGreat.opn E i := by
      simp only [Go.Proofs.YtfjghemojnhmbaaGreat.opn, he]
    have et : tab E (i + 1) = if e.k = 1 then updC (tab E i) e.t.toNat e.c else tab E i := by
      simp only [tab, he]
    rw [eo, et]
    by_cases h1 : e.k = 1
    · rw [if_pos h1, if_pos h1]
      have h3 : ¬ e.k = 3 := by omega
      unfold stepX at hT
      rw [if_neg h3] at hT
      unfold stepE at hT
      rw [if_pos h1] at hT
      by_cases e1 : T = e.t.toNat
      · subst e1
        simp only [updN, updC, if_true]
        exact ⟨by omega, by unfold callAt; rw [he]⟩
      · simp only [updN, updC, if_neg e1] at hT ⊢
        have := h.opn T hT
        exact ⟨by omega, this.2⟩
    · rw [if_neg h1, if_neg h1]
      have : s.op T ≠ 0 := by
        unfold stepX at hT
        split at hT
        · exact hT
        · unfold stepE at hT
          rw [if_neg h1] at hT
          by_cases e1 : T = e.t.toNat
          · subst e1
            simp [updN] at hT
          · simpa [updN, if_neg e1] using hT
      have := h.opn T this
      exact ⟨by omega, this.2⟩
theorem tab_next {E : List Ev} {i : Nat} {e : Ev} (he : E[i]? = some e) : tab E (i + 1) = if e.k = 1 then updC (tab E i) e.t.toNat e.c else tab E i := by
  simp only [tab, he]
theorem opn_next {E : List Ev} {i : Nat} {e : Ev} (he : E[i]? = some e) : Go.Proofs.YtfjghemojnhmbaaGreat.opn E (i + 1) = if e.k = 1 then updN (Go.Proofs.YtfjghemojnhmbaaGreat.opn E i) e.t.toNat i else Go.Proofs.YtfjghemojnhmbaaGreat.opn E i := by
  simp only [Go.Proofs.YtfjghemojnhmbaaGreat.opn, he]
theorem At.back {E : List Ev} {i : Nat} {s : St} {e : Ev} (h : At E i s) (hb : badE s e = false) (h2 : e.k = 2) : ∃ T : Nat, T < 8 ∧ e.t = (T : Int) ∧ e.t.toNat = T ∧ Go.Proofs.YtfjghemojnhmbaaGreat.opn E i T < i ∧ tab E i T = callAt E (Go.Proofs.YtfjghemojnhmbaaGreat.opn E i T) := by
  rcases badE_no hb with h3 | ⟨_, hok⟩
  · omega
  · unfold okE at hok
    have hok := of_decide_eq_true hok
    obtain ⟨_, h0, h8, h1⟩ := hok
    refine ⟨e.t.toNat, by omega, by omega, rfl, ?_⟩
    exact h.opn e.t.toNat (fun hh => by have := h1.2 hh; omega)
theorem At.call {E : List Ev} {i : Nat} {s : St} {e : Ev} (_h : At E i s) (hb : badE s e = false) (h1 : e.k = 1) : ∃ T : Nat, T < 8 ∧ e.t = (T : Int) ∧ e.t.toNat = T := by
  rcases badE_no hb with h3 | ⟨_, hok⟩
  · omega
  · unfold okE at hok
    have hok := of_decide_eq_true hok
    obtain ⟨_, h0, h8, _⟩ := hok
    exact ⟨e.t.toNat, by omega, by omega, rfl⟩
end Go.Proofs.YtfjghemojnhmbaaGreat
