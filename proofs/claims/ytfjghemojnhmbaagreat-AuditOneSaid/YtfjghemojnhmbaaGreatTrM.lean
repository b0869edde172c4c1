/- The tree: Within. -/
import Derived.Laws.Cover1
import Derived.Test.YtfjghemojnhmbaaGreatTrG
namespace Go.Proofs.YtfjghemojnhmbaaGreat
open Go.RowKit

/-- The way up from a Dir ends, behind d steps. -/
inductive Ends (T : List (Option Nd)) : Nat → Nat → Prop
  | stop {i : Nat} {x : Nd} : T[i]? = some (some x) → x.kind = 1 → x.up = i + 1 → Ends T 0 (i + 1)
  | step {i d : Nat} {x : Nd} : T[i]? = some (some x) → x.kind = 1 → x.up ≠ i + 1 → Ends T d x.up → Ends T (d + 1) (i + 1)
theorem Ends.live {T : List (Option Nd)} {d k : Nat} (h : Ends T d k) : ∃ (i : Nat) (x : Nd), k = i + 1 ∧ T[i]? = some (some x) ∧ x.kind = 1 := by
  cases h with
  | stop h1 h2 h3 => exact ⟨_, _, rfl, h1, h2⟩
  | step h1 h2 h3 h4 => exact ⟨_, _, rfl, h1, h2⟩
theorem Ends.inj {T : List (Option Nd)} {d k : Nat} (h : Ends T d k) : ∀ {d'}, Ends T d' k → d = d' := by
  induction h with
  | stop h1 h2 h3 =>
    intro d' h'
    cases h' with
    | stop => rfl
    | step g1 g2 g3 g4 => rw [h1] at g1; cases g1; exact absurd h3 g3
  | step h1 h2 h3 h4 ih =>
    intro d' h'
    cases h' with
    | stop g1 g2 g3 => rw [h1] at g1; cases g1; exact absurd g3 h3
    | step g1 g2 g3 g4 => rw [h1] at g1; cases g1; rw [ih g4]
noncomputable def depth (T : List (Option Nd)) (k : Nat) : Nat := open Classical in if h : ∃ d, Ends T d k then h.choose else 0
theorem depth_of {T : List (Option Nd)} {d k : Nat} (h : Ends T d k) : depth T k = d := by
  unfold depth
  have hx : ∃ d, Ends T d k := ⟨d, h⟩
  rw [dif_pos hx]
  exact hx.choose_spec.inj h
/-- .. and does not meet m. -/
inductive Avoid (T : List (Option Nd)) (m : Nat) : Nat → Prop
  | stop {i : Nat} {x : Nd} : T[i]? = some (some x) → x.kind = 1 → x.up = i + 1 → i + 1 ≠ m → Avoid T m (i + 1)
  | step {i : Nat} {x : Nd} : T[i]? = some (some x) → x.kind = 1 → x.up ≠ i + 1 → i + 1 ≠ m → Avoid T m x.up → Avoid T m (i + 1)
/-- What Within answers. -/
def WithinP (T : List (Option Nd)) (n m : Nat) (w : World) (e : Ending) (w' : World) : Prop := w' = w ∧ ∃ r : Bool, e = .returned (.bool r) ∧ (r = false → n ≠ m → (∃ (i : Nat) (x : Nd), m = i + 1 ∧ T[i]? = some (some x) ∧ x.kind = 1) → Avoid T m n)
set_option maxRecDepth 100000 in
theorem within_any {S : Nat → Prop} {w : World} {t c : Nat} {M : Int} {p : Nat} {v : Value} {bs : List Nat} {T : List (Option Nd)} (h : TreeAt S w t c M p v bs T) (hc : c ≤ 100000) (n m : Nat) (hm : m ≤ 1000000) {d : Nat} (hd : Ends T d n) :
    Calls Tryz.prog 120 #[.pointer (some ⟨t, 0, none⟩), .int .i64 (n : Int), .int .i64 (m : Int)] w (WithinP T n m w) := by
  obtain ⟨i, x, rfl, hx, hk⟩ := hd.live
  have hil := (List.getElem?_eq_some_iff.1 hx).1
  have htl := h.tl
  have C1 := dir_any h hc ((i + 1 : Nat) : Int) ⟨by omega, by omega⟩
  have C2 := dir_any h hc (m : Int) ⟨by omega, by omega⟩
  have HT := Lib.hid h
  have HX := Lib.hid (And.intro hx (And.intro hk hd))
  clear h hx hk hd
  go_enter Tryz.func120, Tryz.ntmps120
  go_wp2_with fail
  refine C1.mono ?_
  rintro e w' ⟨rfl, ⟨hl, rfl⟩ | ⟨i', x', b, hi, hx', hb, hk', rfl⟩⟩
  · exact absurd HX.out.2.1 (hl x (lv_of HX.out.1))
  obtain rfl : i = i' := by omega
  have e : x = x' := by have := HX.out.1; rw [hx'] at this; cases this; rfl
  subst e
  have HB := Lib.hid hb
  clear hx' hk' hb hi C1
  go_wp2_with fail
  refine C2.mono ?_
  rintro e w2 ⟨rfl, ⟨hl, rfl⟩ | ⟨j, y, bj, hj, hy, hbj, hky, rfl⟩⟩
  · have HL := Lib.hid hl
    clear hl C2
    go_wp2_with fail
    go_ret
    exact ⟨rfl, _, rfl, fun _ _ ⟨j, y, hj, hy, hky⟩ => absurd hky (HL.out y (by rw [hj]; exact lv_of hy))⟩
  · have HY := Lib.hid (And.intro hy (And.intro hbj hky))
    clear hy hbj hky C2
    go_wp2_with fail
    go_loopw [1, 7] (fun nv xv wr => ∃ (k : Nat) (z : Nd) (bk : Nat), k < T.length ∧ nv = .int .i64 ((k : Int) + 1) ∧ xv = .pointer (some ⟨bk, 0, none⟩) ∧ Hid (T[k]? = some (some z) ∧ z.kind = 1 ∧ bs[k]? = some bk ∧ (∃ d, Ends T d (k + 1)) ∧ (i + 1 ≠ m → k + 1 ≠ m ∧ (Avoid T m (k + 1) → Avoid T m (i + 1)))) ∧ wr = w2) (fun nv _ _ => depth T (intOf nv).toNat)
    case atStart => exact ⟨i, x, b, hil, by simp, rfl, Lib.hid ⟨HX.out.1, HX.out.2.1, HB.out, ⟨d, HX.out.2.2⟩, fun h => ⟨h, id⟩⟩, rfl⟩
    case round =>
      obtain ⟨k, z, bk, hkl, rfl, rfl, HK, rfl⟩ := hrel
      obtain ⟨dk, hdk⟩ := HK.out.2.2.2.1
      obtain ⟨uz, huz⟩ := HT.out.nd k z bk HK.out.1 HK.out.2.2.1
      have c9 := huz.cs.c9
      have hup := (HT.out.ok k z HK.out.1).up
      clear huz
      by_cases hs : z.up = k + 1
      · have hb1 : ((z.up : Int) != (k : Int) + 1) = false := by simp [hs]
        have HF : Hid (WithinP T (i + 1) m wr (.returned (.bool false)) wr) := Lib.hid ⟨rfl, _, rfl, fun _ hne _ => (HK.out.2.2.2.2 hne).2 (.stop HK.out.1 HK.out.2.1 hs (HK.out.2.2.2.2 hne).1)⟩
        clear hdk hs
        go_wp2_with fail
        go_ret
        exact HF.out
      · have hb1 : ((z.up : Int) != (k : Int) + 1) = true := by simp; omega
        cases hdk with
        | stop g1 g2 g3 => rw [HK.out.1] at g1; cases g1; exact absurd g3 hs
        | step g1 g2 g3 g4 =>
          rw [HK.out.1] at g1; cases g1
          rename_i d'
          have HD := Lib.hid g4
          have HS := Lib.hid hs
          obtain ⟨k2, z2, hk2, hz2, hkz2⟩ := g4.live
          obtain ⟨bk2, uz2, hbk2, huz2⟩ := HT.out.block hz2
          have C3 := nat_live HT.out hc hz2 hbk2
          have hk2l := (List.getElem?_eq_some_iff.1 hz2).1
          have hup2 : (z.up : Int) = (k2 : Int) + 1 := by omega
          have HZ2 := Lib.hid (And.intro hz2 (And.intro hkz2 (And.intro hbk2 hk2)))
          rw [hup2] at hb1 c9
          clear g2 g3 g4 hs hz2 hbk2 huz2 hkz2 hk2 hup2
          by_cases hm2 : k2 + 1 = m
          · have hb2 : ((k2 : Int) + 1 == (m : Int)) = true := by simp; omega
            go_wp2_with fail
            go_ret
            exact ⟨rfl, _, rfl, fun h => by cases h⟩
          · have hb2 : ((k2 : Int) + 1 == (m : Int)) = false := by simp; omega
            go_wp2_with fail
            refine C3.mono ?_
            rintro e w3 ⟨rfl, rfl⟩
            go_wp2_with fail
            go_roundw
            case rel => exact ⟨k2, z2, bk2, hk2l, rfl, rfl, Lib.hid ⟨HZ2.out.1, HZ2.out.2.1, HZ2.out.2.2.1, ⟨d', by rw [← HZ2.out.2.2.2]; exact HD.out⟩, fun hne => ⟨hm2, fun hav => (HK.out.2.2.2.2 hne).2 (.step HK.out.1 HK.out.2.1 HS.out (HK.out.2.2.2.2 hne).1 (by rw [HZ2.out.2.2.2]; exact hav))⟩⟩, by first | trivial | rfl⟩
            case measure =>
              have e1 : (intOf (.int .i64 ((k : Int) + 1))).toNat = k + 1 := by simp [intOf]
              have e2 : (intOf (.int .i64 ((k2 : Int) + 1))).toNat = k2 + 1 := by simp [intOf]
              rw [e1, e2, ← HZ2.out.2.2.2, depth_of HD.out, depth_of (Ends.step HK.out.1 HK.out.2.1 HS.out HD.out)]
              omega
end Go.Proofs.YtfjghemojnhmbaaGreat
/- What holds of the tree, in plain words: names lead to live nodes and are counted; the ways up end; who is referred to is held. -/
namespace Go.Proofs.YtfjghemojnhmbaaGreat
open Go.RowKit

def namesOf (k : Nat) : Option Nd → Nat
  | none => 0
  | some x => x.es.countP (fun e => e.2 == k)
/-- How many names a node has. -/
def cnt (T : List (Option Nd)) (k : Nat) : Nat := (T.map (namesOf k)).sum
theorem cnt_set : ∀ (T : List (Option Nd)) (i : Nat) (o o' : Option Nd) (k : Nat), T[i]? = some o → cnt (T.set i o') k + namesOf k o = cnt T k + namesOf k o'
  | [], i, o, o', k, h => by simp at h
  | p :: T, 0, o, o', k, h => by
    simp at h; subst h
    simp [cnt]; omega
  | p :: T, i + 1, o, o', k, h => by
    have := cnt_set T i o o' k (by simpa using h)
    simp only [cnt, List.map_cons, List.sum_cons, List.set_cons_succ] at this ⊢
    omega
theorem cnt_push (T : List (Option Nd)) (o : Option Nd) (k : Nat) : cnt (T ++ [o]) k = cnt T k + namesOf k o := by simp [cnt]
theorem cnt_pos : ∀ (T : List (Option Nd)) (k : Nat), (∃ (i : Nat) (x : Nd) (e : ByteArray × Nat), T[i]? = some (some x) ∧ e ∈ x.es ∧ e.2 = k) → 0 < cnt T k
  | [], k, ⟨i, x, e, h, _⟩ => by simp at h
  | o :: T, k, ⟨0, x, e, h, he, hk⟩ => by
    simp at h; subst h
    have : 0 < namesOf k (some x) := List.countP_pos_iff.2 ⟨e, he, by simp [hk]⟩
    simp only [cnt, List.map_cons, List.sum_cons]; omega
  | o :: T, k, ⟨i + 1, x, e, h, he, hk⟩ => by
    have := cnt_pos T k ⟨i, x, e, by simpa using h, he, hk⟩
    simp only [cnt, List.map_cons, List.sum_cons] at this ⊢; omega
/-- The tree's law. ex: a Dir on its way: it may have no name though names are in it, and its way up be open. -/
structure TInv (T : List (Option Nd)) (R : Nat → Nat) (ex : Option Nat) : Prop where
  root : ∃ x, T[0]? = some (some x) ∧ x.kind = 1
  el : EL T
  ns : ∀ (i : Nat) (x : Nd) (e : ByteArray × Nat), T[i]? = some (some x) → e ∈ x.es → e.2 ≠ i + 1
  fd : ∀ (i : Nat) (x : Nd), T[i]? = some (some x) → x.kind ≠ 1 → x.es = []
  na : ∀ (j : Nat) (y : Nd), T[j]? = some (some y) → cnt T (j + 1) ≤ y.named
  ne : ∀ (i : Nat) (x : Nd), T[i]? = some (some x) → some i ≠ ex → i ≠ 0 → x.named = 0 → x.es = []
  up : ∀ (i : Nat) (x : Nd), T[i]? = some (some x) → some i ≠ ex → x.kind = 1 → x.up = i + 1 ∨ ∃ (j : Nat) (y : Nd) (s : ByteArray), x.up = j + 1 ∧ T[j]? = some (some y) ∧ (s, i + 1) ∈ y.es
  ends : ∀ (i : Nat) (x : Nd), T[i]? = some (some x) → some i ≠ ex → x.kind = 1 → ∃ d, Ends T d (i + 1)
  refs : ∀ k, 0 < R k → ∃ (i : Nat) (x : Nd), k = i + 1 ∧ T[i]? = some (some x) ∧ R k ≤ x.held
theorem get_set {T : List (Option Nd)} {i j : Nat} {o : Option Nd} {z : Nd} (h : (T.set i o)[j]? = some (some z)) : (j = i ∧ o = some z ∧ i < T.length) ∨ (j ≠ i ∧ T[j]? = some (some z)) := by
  by_cases hj : j = i
  · subst hj
    by_cases hl : j < T.length
    · rw [List.getElem?_set_self hl] at h
      exact .inl ⟨rfl, by simpa using h, hl⟩
    · rw [List.getElem?_eq_none (by simp; omega)] at h; cases h
  · rw [List.getElem?_set_ne (fun e => hj e.symm)] at h
    exact .inr ⟨hj, h⟩
theorem set_get {T : List (Option Nd)} {i j : Nat} {o : Option Nd} (h : j ≠ i) : (T.set i o)[j]? = T[j]? := List.getElem?_set_ne (fun e => h e.symm)
theorem set_self {T : List (Option Nd)} {i : Nat} {o p : Option Nd} (h : T[i]? = some p) : (T.set i o)[i]? = some o := List.getElem?_set_self (List.getElem?_eq_some_iff.1 h).1
/-- Ways up are alike where kinds and ups are. -/
theorem Ends.like {T T' : List (Option Nd)} (P : Nat → Prop) (hP : ∀ (i : Nat) (x : Nd), T[i]? = some (some x) → x.kind = 1 → ¬ P i → ∃ x', T'[i]? = some (some x') ∧ x'.kind = 1 ∧ x'.up = x.up)
    (hend : ∀ (i d : Nat), P i → Ends T d (i + 1) → ∃ d', Ends T' d' (i + 1)) : ∀ {d k : Nat}, Ends T d k → ∃ d', Ends T' d' k := by
  intro d k h
  induction h with
  | @stop i x h1 h2 h3 =>
    by_cases hp : P i
    · exact hend i 0 hp (.stop h1 h2 h3)
    · obtain ⟨x', g1, g2, g3⟩ := hP i x h1 h2 hp
      exact ⟨0, .stop g1 g2 (by rw [g3, h3])⟩
  | @step i d x h1 h2 h3 h4 ih =>
    by_cases hp : P i
    · exact hend i (d + 1) hp (.step h1 h2 h3 h4)
    · obtain ⟨x', g1, g2, g3⟩ := hP i x h1 h2 hp
      obtain ⟨d', hd⟩ := ih
      exact ⟨d' + 1, .step g1 g2 (by rw [g3]; exact h3) (by rw [g3]; exact hd)⟩
theorem Avoid.live {T : List (Option Nd)} {m k : Nat} (h : Avoid T m k) : ∃ (i : Nat) (x : Nd), k = i + 1 ∧ T[i]? = some (some x) ∧ x.kind = 1 ∧ k ≠ m := by
  cases h with
  | stop h1 h2 h3 h4 => exact ⟨_, _, rfl, h1, h2, h4⟩
  | step h1 h2 h3 h4 h5 => exact ⟨_, _, rfl, h1, h2, h4⟩
/-- A way that meets neither m nor P. -/
theorem Avoid.like {T T' : List (Option Nd)} {m : Nat} (P : Nat → Prop) (hP : ∀ (i : Nat) (x : Nd), T[i]? = some (some x) → x.kind = 1 → i + 1 ≠ m → ¬ P i → ∃ x', T'[i]? = some (some x') ∧ x'.kind = 1 ∧ x'.up = x.up)
    (hup : ∀ (i j : Nat) (x : Nd), T[i]? = some (some x) → x.kind = 1 → i + 1 ≠ m → ¬ P i → x.up ≠ i + 1 → x.up = j + 1 → j + 1 ≠ m → ¬ P j) : ∀ {k : Nat}, Avoid T m k → (∀ j, k = j + 1 → ¬ P j) → Avoid T' m k := by
  intro k h
  induction h with
  | @stop i x h1 h2 h3 h4 =>
    intro hk
    obtain ⟨x', g1, g2, g3⟩ := hP i x h1 h2 h4 (hk i rfl)
    exact .stop g1 g2 (by rw [g3, h3]) h4
  | @step i x h1 h2 h3 h4 h5 ih =>
    intro hk
    obtain ⟨x', g1, g2, g3⟩ := hP i x h1 h2 h4 (hk i rfl)
    refine .step g1 g2 (by rw [g3]; exact h3) h4 ?_
    rw [g3]
    obtain ⟨j, y, q1, q2, q3, q4⟩ := h5.live
    exact ih fun j' hj' => hup i j' x h1 h2 h4 (hk i rfl) h3 hj' (hj' ▸ q4)
theorem Avoid.ends {T T' : List (Option Nd)} {m : Nat} (hP : ∀ (i : Nat) (x : Nd), T[i]? = some (some x) → x.kind = 1 → i + 1 ≠ m → ∃ x', T'[i]? = some (some x') ∧ x'.kind = 1 ∧ x'.up = x.up) : ∀ {k : Nat}, Avoid T m k → ∃ d, Ends T' d k := by
  intro k h
  induction h with
  | @stop i x h1 h2 h3 h4 =>
    obtain ⟨x', g1, g2, g3⟩ := hP i x h1 h2 h4
    exact ⟨0, .stop g1 g2 (by rw [g3, h3])⟩
  | @step i x h1 h2 h3 h4 h5 ih =>
    obtain ⟨x', g1, g2, g3⟩ := hP i x h1 h2 h4
    obtain ⟨d, hd⟩ := ih
    exact ⟨d + 1, .step g1 g2 (by rw [g3]; exact h3) (by rw [g3]; exact hd)⟩
end Go.Proofs.YtfjghemojnhmbaaGreat
/- The tree's law is kept: a node's numbers turned; one gone; one more. -/
namespace Go.Proofs.YtfjghemojnhmbaaGreat
open Go.RowKit

theorem TInv.turn {T : List (Option Nd)} {R R' : Nat → Nat} {ex : Option Nat} {i : Nat} {x y : Nd} (h : TInv T R ex) (hx : T[i]? = some (some x)) (hk : y.kind = x.kind) (he : y.es = x.es) (hu : y.up = x.up) (hn : y.named = x.named)
    (hR : ∀ k, 0 < R' k → (k ≠ i + 1 → R' k ≤ R k) ∧ (k = i + 1 → R' k ≤ y.held)) : TInv (T.set i (some y)) R' ex := by
  have hc : ∀ k, cnt (T.set i (some y)) k = cnt T k := fun k => by
    have := cnt_set T i (some x) (some y) k hx
    simp only [namesOf, he] at this
    omega
  -- what a node of the new tree was
  have was : ∀ (j : Nat) (z : Nd), (T.set i (some y))[j]? = some (some z) → ∃ z', T[j]? = some (some z') ∧ z'.kind = z.kind ∧ z'.es = z.es ∧ z'.up = z.up ∧ z'.named = z.named := by
    intro j z hz
    rcases get_set hz with ⟨rfl, e, _⟩ | ⟨_, q⟩
    · cases e; exact ⟨x, hx, hk.symm, he.symm, hu.symm, hn.symm⟩
    · exact ⟨z, q, rfl, rfl, rfl, rfl⟩
  have is : ∀ (j : Nat) (z : Nd), T[j]? = some (some z) → ∃ z', (T.set i (some y))[j]? = some (some z') ∧ z'.kind = z.kind ∧ z'.es = z.es ∧ z'.up = z.up ∧ z'.named = z.named := by
    intro j z hz
    by_cases hj : j = i
    · subst hj
      rw [hx] at hz; cases hz
      exact ⟨y, set_self hx, hk, he, hu, hn⟩
    · exact ⟨z, by rw [set_get hj]; exact hz, rfl, rfl, rfl, rfl⟩
  refine ⟨?_, ?_, ?_, ?_, ?_, ?_, ?_, ?_, ?_⟩
  · obtain ⟨z, hz, hkz⟩ := h.root
    obtain ⟨z', q, q1, _⟩ := is 0 z hz
    exact ⟨z', q, q1.trans hkz⟩
  · intro j z e hz hm
    obtain ⟨z', q, _, q2, _⟩ := was j z hz
    obtain ⟨k, z2, q3, q4⟩ := h.el j z' e q (q2 ▸ hm)
    obtain ⟨z3, q5, _⟩ := is k z2 q4
    exact ⟨k, z3, q3, q5⟩
  · intro j z e hz hm
    obtain ⟨z', q, _, q2, _⟩ := was j z hz
    exact h.ns j z' e q (q2 ▸ hm)
  · intro j z hz hkz
    obtain ⟨z', q, q1, q2, _⟩ := was j z hz
    rw [← q2]; exact h.fd j z' q (by rw [q1]; exact hkz)
  · intro j z hz
    obtain ⟨z', q, _, _, _, q4⟩ := was j z hz
    rw [hc, ← q4]; exact h.na j z' q
  · intro j z hz hex h0 hn0
    obtain ⟨z', q, _, q2, _, q4⟩ := was j z hz
    rw [← q2]; exact h.ne j z' q hex h0 (by rw [q4]; exact hn0)
  · intro j z hz hex hkz
    obtain ⟨z', q, q1, q2, q3, q4⟩ := was j z hz
    rcases h.up j z' q hex (by rw [q1]; exact hkz) with e | ⟨k, z2, s, e1, e2, e3⟩
    · exact .inl (q3 ▸ e)
    · obtain ⟨z3, q5, _, q6, _⟩ := is k z2 e2
      exact .inr ⟨k, z3, s, q3 ▸ e1, q5, by rw [q6]; exact e3⟩
  · intro j z hz hex hkz
    obtain ⟨z', q, q1, q2, q3, q4⟩ := was j z hz
    obtain ⟨d, hd⟩ := h.ends j z' q hex (by rw [q1]; exact hkz)
    exact Ends.like (fun _ => False) (fun a b hb hkb _ => by obtain ⟨b', g1, g2, _, g4, _⟩ := is a b hb; exact ⟨b', g1, g2.trans hkb, g4⟩) (fun _ _ hf => hf.elim) hd
  · intro k hk'
    by_cases hki : k = i + 1
    · exact ⟨i, y, hki, set_self hx, (hR k hk').2 hki⟩
    · have := (hR k hk').1 hki
      obtain ⟨j, z, q1, q2, q3⟩ := h.refs k (by omega)
      exact ⟨j, z, q1, by rw [set_get (by omega)]; exact q2, by omega⟩
theorem Ends.drop {T : List (Option Nd)} {i : Nat} (hno : ∀ (m : Nat) (x : Nd), T[m]? = some (some x) → x.kind = 1 → m ≠ i → x.up ≠ i + 1) {d k : Nat} (h : Ends T d k) : k ≠ i + 1 → Ends (T.set i none) d k := by
  induction h with
  | @stop j x h1 h2 h3 =>
    intro hk
    exact .stop (by rw [set_get (by omega)]; exact h1) h2 h3
  | @step j d x h1 h2 h3 h4 ih =>
    intro hk
    exact .step (by rw [set_get (by omega)]; exact h1) h2 h3 (ih (hno j x h1 h2 (by omega)))
/-- One is gone that nobody names or holds, and that names nobody. -/
theorem TInv.gone {T : List (Option Nd)} {R : Nat → Nat} {i : Nat} {x : Nd} (h : TInv T R none) (hx : T[i]? = some (some x)) (h0 : i ≠ 0) (hn : x.named = 0) (hh : x.held = 0) : TInv (T.set i none) R none := by
  have hes := h.ne i x hx (by simp) h0 hn
  have hc : ∀ k, cnt (T.set i none) k = cnt T k := fun k => by
    have := cnt_set T i (some x) none k hx
    simp only [namesOf, hes, List.countP_nil] at this
    omega
  have hno : ∀ (m : Nat) (y : Nd), T[m]? = some (some y) → y.kind = 1 → m ≠ i → y.up ≠ i + 1 := by
    intro m y hy hk hm hup
    rcases h.up m y hy (by simp) hk with e | ⟨j, z, s, e1, e2, e3⟩
    · omega
    · obtain rfl : i = j := by omega
      rw [hx] at e2; cases e2
      rw [hes] at e3; cases e3
  have was : ∀ (j : Nat) (z : Nd), (T.set i none)[j]? = some (some z) → j ≠ i ∧ T[j]? = some (some z) := by
    intro j z hz
    rcases get_set hz with ⟨_, e, _⟩ | q
    · cases e
    · exact q
  refine ⟨?_, ?_, ?_, ?_, ?_, ?_, ?_, ?_, ?_⟩
  · obtain ⟨z, hz, hkz⟩ := h.root
    exact ⟨z, by rw [set_get (by omega)]; exact hz, hkz⟩
  · intro j z e hz hm
    obtain ⟨q1, q2⟩ := was j z hz
    obtain ⟨k, z2, q3, q4⟩ := h.el j z e q2 hm
    have : k ≠ i := by
      rintro rfl
      have h1 := cnt_pos T (k + 1) ⟨j, z, e, q2, hm, q3⟩
      have h2 := h.na k x hx
      omega
    exact ⟨k, z2, q3, by rw [set_get this]; exact q4⟩
  · intro j z e hz hm
    exact h.ns j z e (was j z hz).2 hm
  · intro j z hz hkz
    exact h.fd j z (was j z hz).2 hkz
  · intro j z hz
    rw [hc]; exact h.na j z (was j z hz).2
  · intro j z hz _ h0' hn0
    exact h.ne j z (was j z hz).2 (by simp) h0' hn0
  · intro j z hz _ hkz
    obtain ⟨q1, q2⟩ := was j z hz
    rcases h.up j z q2 (by simp) hkz with e | ⟨k, z2, s, e1, e2, e3⟩
    · exact .inl e
    · exact .inr ⟨k, z2, s, e1, by rw [set_get (by intro e; subst e; exact hno j z q2 hkz q1 e1)]; exact e2, e3⟩
  · intro j z hz _ hkz
    obtain ⟨q1, q2⟩ := was j z hz
    obtain ⟨d, hd⟩ := h.ends j z q2 (by simp) hkz
    exact ⟨d, hd.drop hno (by omega)⟩
  · intro k hk
    obtain ⟨j, z, q1, q2, q3⟩ := h.refs k hk
    have : j ≠ i := by
      rintro rfl
      rw [hx] at q2; cases q2
      omega
    exact ⟨j, z, q1, by rw [set_get this]; exact q2, q3⟩
theorem TInv.reap {T : List (Option Nd)} {R : Nat → Nat} {i : Nat} {x : Nd} (h : TInv T R none) (hx : T[i]? = some (some x)) : TInv (reapT T i x) R none := by
  unfold reapT
  split
  · exact h
  · exact h.gone hx (by omega) (by omega) (by omega)
/-- One more, that nobody names yet. -/
theorem TInv.push {T : List (Option Nd)} {R : Nat → Nat} {y : Nd} (h : TInv T R none) (he : y.es = []) : TInv (T ++ [some y]) R (some T.length) := by
  have hc : ∀ k, cnt (T ++ [some y]) k = cnt T k := fun k => by rw [cnt_push]; simp [namesOf, he]
  have was : ∀ (j : Nat) (z : Nd), (T ++ [some y])[j]? = some (some z) → (j < T.length ∧ T[j]? = some (some z)) ∨ (j = T.length ∧ z = y) := by
    intro j z hz
    by_cases hj : j < T.length
    · rw [List.getElem?_append_left hj] at hz
      exact .inl ⟨hj, hz⟩
    · rw [List.getElem?_append_right (by omega)] at hz
      have hl := (List.getElem?_eq_some_iff.1 hz).1
      simp at hl
      have : j = T.length := by omega
      subst this
      simp at hz
      exact .inr ⟨rfl, hz.symm⟩
  have is : ∀ (j : Nat) (z : Nd), T[j]? = some (some z) → (T ++ [some y])[j]? = some (some z) := fun j z hz => by
    rw [List.getElem?_append_left (List.getElem?_eq_some_iff.1 hz).1]; exact hz
  refine ⟨?_, ?_, ?_, ?_, ?_, ?_, ?_, ?_, ?_⟩
  · obtain ⟨z, hz, hkz⟩ := h.root
    exact ⟨z, is 0 z hz, hkz⟩
  · intro j z e hz hm
    rcases was j z hz with ⟨_, q⟩ | ⟨_, rfl⟩
    · obtain ⟨k, z2, q3, q4⟩ := h.el j z e q hm
      exact ⟨k, z2, q3, is k z2 q4⟩
    · rw [he] at hm; cases hm
  · intro j z e hz hm
    rcases was j z hz with ⟨_, q⟩ | ⟨_, rfl⟩
    · exact h.ns j z e q hm
    · rw [he] at hm; cases hm
  · intro j z hz hkz
    rcases was j z hz with ⟨_, q⟩ | ⟨_, rfl⟩
    · exact h.fd j z q hkz
    · exact he
  · intro j z hz
    rw [hc]
    rcases was j z hz with ⟨_, q⟩ | ⟨rfl, rfl⟩
    · exact h.na j z q
    · rcases Nat.eq_zero_or_pos (cnt T (T.length + 1)) with q | q
      · omega
      · exfalso
        have key : ∀ (L : List (Option Nd)) (k : Nat), 0 < cnt L k → ∃ (i : Nat) (x : Nd) (e : ByteArray × Nat), L[i]? = some (some x) ∧ e ∈ x.es ∧ e.2 = k := by
          intro L k
          induction L with
          | nil => intro h; simp [cnt] at h
          | cons o L ih =>
            intro h
            simp only [cnt, List.map_cons, List.sum_cons] at h
            by_cases h1 : 0 < namesOf k o
            · cases o with
              | none => simp [namesOf] at h1
              | some x =>
                obtain ⟨e, q1, q2⟩ := List.countP_pos_iff.1 h1
                exact ⟨0, x, e, rfl, q1, by simpa using q2⟩
            · obtain ⟨i, x, e, q1, q2⟩ := ih (by simp only [cnt]; omega)
              exact ⟨i + 1, x, e, by simpa using q1, q2⟩
        obtain ⟨i, x, e, q1, q2, q3⟩ := key T _ q
        obtain ⟨k, z2, q4, q5⟩ := h.el i x e q1 q2
        have := (List.getElem?_eq_some_iff.1 q5).1
        omega
  · intro j z hz hex h0 hn0
    rcases was j z hz with ⟨_, q⟩ | ⟨rfl, rfl⟩
    · exact h.ne j z q (by simp) h0 hn0
    · exact he
  · intro j z hz hex hkz
    rcases was j z hz with ⟨_, q⟩ | ⟨rfl, rfl⟩
    · rcases h.up j z q (by simp) hkz with e | ⟨k, z2, s, e1, e2, e3⟩
      · exact .inl e
      · exact .inr ⟨k, z2, s, e1, is k z2 e2, e3⟩
    · exact absurd rfl hex
  · intro j z hz hex hkz
    rcases was j z hz with ⟨_, q⟩ | ⟨rfl, rfl⟩
    · obtain ⟨d, hd⟩ := h.ends j z q (by simp) hkz
      exact Ends.like (fun _ => False) (fun a b hb hkb _ => ⟨b, is a b hb, hkb, rfl⟩) (fun _ _ hf => hf.elim) hd
    · exact absurd rfl hex
  · intro k hk
    obtain ⟨j, z, q1, q2, q3⟩ := h.refs k hk
    exact ⟨j, z, q1, is j z q2, q3⟩
end Go.Proofs.YtfjghemojnhmbaaGreat
