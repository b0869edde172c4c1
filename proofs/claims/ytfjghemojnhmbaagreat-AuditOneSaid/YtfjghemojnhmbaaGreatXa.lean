/- The world of chapter 13: Unbind. -/
import Derived.Test.YtfjghemojnhmbaaGreatWy
namespace Go.Proofs.YtfjghemojnhmbaaGreat
open Go.RowKit

theorem kill_sub {l : List Mt} {i j : Nat} {x y : Mt} (h : (l.set i { x with live := false })[j]? = some y) (hl : y.live = true) : l[j]? = some y := by
  by_cases hj : j = i
  · subst hj
    rw [List.getElem?_set] at h
    split at h
    · split at h
      · cases h; cases hl
      · cases h
    · exact h
  · rw [List.getElem?_set_ne (fun e => hj e.symm)] at h
    exact h
theorem MInv.kill {l : List Mt} {i : Nat} {x : Mt} (h : MInv l) (_hx : l[i]? = some x) : MInv (l.set i { x with live := false }) := fun j y h1 hy hl => h j y h1 (kill_sub hy hl) hl
theorem M0.kill {l : List Mt} {i : Nat} {x : Mt} (h1 : 1 ≤ i) (h : M0 l) : M0 (l.set i x) := by
  unfold M0 at h ⊢
  rw [List.getElem?_set_ne (by omega)]; exact h
set_option maxRecDepth 100000 in
set_option maxHeartbeats 4000000 in
theorem unb13_any {S : Nat → Prop} {w : World} {t c : Nat} {bs : List Nat} {T : List (Option Nd)} {tb : Nat} {tv : Value} {l : List Mt} {Rb : Nat → Nat} (hc : WI S w t c bs T tb tv l Rb) (ua : Option Addr) (un uc : Nat) (us : List Int) (hU : Ints w 0 (.slice ua un uc) us) (m n : Int) (hp : PlaceOk T m n) :
    Calls Tryz.prog 66 #[Wld t tb ua un uc, .agg #[.int .i64 m, .int .i64 n]] w (MtP S t (c + 3) tb Rb T w) := by
  have HC := Lib.hid (And.intro hc (And.intro hU hp))
  have hn1 : ¬ (0 : Int) = n := by have := hp.2.2.rg; omega
  have hn0 : ((0 : Int) != n) = true := by simpa using hn1
  clear hc hU hp hn1
  have HS : Hid (∀ X, Below w.heap.size w X → ∀ code : Int, MtP S t (c + 3) tb Rb T w (.returned (.int .i64 code)) X) := Lib.hid fun X hX code => MtP.same HC.out.1 (Nat.le_add_right _ _) hX code
  unfold Wld
  go_enter Tryz.func66, Tryz.ntmps66
  go_upto_region 1 with fail
  refine box2g (fun W hbx hnx => ?_)
  have H1B := Lib.hid hbx
  have H1 := Lib.hid hnx
  clear hbx hnx
  generalize hB : w.heap.size + 1 = B at H1 ⊢
  obtain ⟨A, hA⟩ : ∃ A, w.heap.size = A := ⟨_, rfl⟩
  rw [hA] at H1 ⊢
  have H1E : Hid (w.heap.size = A ∧ w.heap.size + 1 = B) := Lib.hid (by omega)
  clear hA hB
  have a0 : W.cell? ⟨A, 0, none⟩ = some (.pointer (some ⟨t, 0, none⟩)) := H1.out.1.cell 0
  have a1 : W.cell? ⟨A, 1, none⟩ = some (.pointer (some ⟨tb, 0, none⟩)) := H1.out.1.cell 1
  have a4 : W.cell? ⟨A, 4, none⟩ = some (.slice ua un uc) := H1.out.1.cell 4
  have b0 : W.cell? ⟨B, 0, none⟩ = some (.int .i64 m) := H1.out.2.cell 0
  have b1 : W.cell? ⟨B, 1, none⟩ = some (.int .i64 n) := H1.out.2.cell 1
  have C0 := root_any S W tb tv l (HC.out.1.tab.below H1B.out) m
  rcases hk : isM l m with _ | _
  · have C1 : Calls Tryz.prog 100 #[.pointer (some ⟨tb, 0, none⟩), .int .i64 m] W fun e w' => e = .returned (.tuple #[.int .i64 0, .bool false]) ∧ w' = W := C0.mono fun e w' h => by
      obtain ⟨h1, ⟨_, h2⟩ | ⟨i, x, rfl, h3, h4, _⟩⟩ := h
      · exact ⟨h2, h1⟩
      · exact absurd hk (by simp [isM, h3, h4])
    clear hk C0
    go_wp2_with (first | (go_at_call 100; (with_reducible refine C1.mono ?_); rintro e wn ⟨rfl, hw⟩; replace hw := hw.symm; subst hw))
    all_goals
      refine int_ret rfl rfl ?_
      with_reducible exact HS.out _ H1B.out _
  obtain ⟨i, x, rfl, hx, hlv⟩ := isM_true hk
  have C1 : Calls Tryz.prog 100 #[.pointer (some ⟨tb, 0, none⟩), .int .i64 (i : Int)] W fun e w' => e = .returned (.tuple #[.int .i64 x.node, .bool true]) ∧ w' = W := C0.mono fun e w' h => by
    obtain ⟨h1, ⟨h2, _⟩ | ⟨i', x', e1, h3, h4, h5⟩⟩ := h
    · rw [hk] at h2
      cases h2
    · obtain rfl : i = i' := by omega
      rw [hx] at h3
      cases h3
      exact ⟨h5, h1⟩
  have HX := Lib.hid (And.intro hx hlv)
  clear hk C0 hx hlv
  by_cases h0 : (i : Int) = 0
  · rw [h0] at C1 b0
    go_wp2_with (first | (go_at_call 100; (with_reducible refine C1.mono ?_); rintro e wn ⟨rfl, hw⟩; replace hw := hw.symm; subst hw))
    refine int_ret rfl rfl ?_
    with_reducible exact HS.out _ H1B.out _
  by_cases hxn : x.node = n
  case neg =>
    have d1 : (x.node != n) = true := by simpa using hxn
    go_wp2_with (first | (go_at_call 100; (with_reducible refine C1.mono ?_); rintro e wn ⟨rfl, hw⟩; replace hw := hw.symm; subst hw))
    refine int_ret rfl rfl ?_
    with_reducible exact HS.out _ H1B.out _
  have d1 : (x.node != n) = false := by simpa using hxn
  have HXN := Lib.hid hxn
  clear hxn
  have hi1 : 1 ≤ i := by omega
  have C2 := Lib.hid (fun X (hX : Below W.heap.size W X) => above2_any S X tb tv l ((HC.out.1.tab.below H1B.out).below hX) i)
  have C3 := Lib.hid (fun X (hX : Below W.heap.size W X) => usedl_any ((HC.out.2.1.below H1B.out).below hX) (i : Int))
  have C4 := Lib.hid (fun X (hX : Below W.heap.size W X) => at_any S X tb tv l ((HC.out.1.tab.below H1B.out).below hX) i x HX.out.1)
  have HQ := Lib.hid fun (X : World) (hX : Below W.heap.size W X) => And.intro (H1.out.1.below hX).k5 ((H1.out.2.below hX).k2)
  have HB : Hid (Below W.heap.size W W) := Lib.hid (Below.refl _ _)
  have HBW : Hid (∀ X, Below W.heap.size W X → Below w.heap.size w X) := Lib.hid fun X hX => H1B.out.trans (hX.mono H1B.out.size)
  go_upto_region 7 with (first | (go_at_call 100; (with_reducible refine C1.mono ?_); rintro e wn ⟨rfl, hw⟩; replace hw := hw.symm; subst hw) | (go_at_call 101; (with_reducible refine (C2.out _ HB.out).mono ?_); rintro e wn ⟨v, xs, rfl, hu, hb, hxs⟩; obtain ⟨va, vc, rfl⟩ := hu.1.value; replace HB := Lib.hid (HB.out.trans (hb.mono HB.out.size)); clear hu; obtain ⟨N, hN⟩ : ∃ N, xs.length = N := ⟨_, rfl⟩; rw [hN] at hxs ⊢; clear hN hb a0 a1 a4 b0 b1; obtain ⟨⟨a0, a1, -, -, a4⟩, ⟨b0, b1⟩⟩ := HQ.out _ HB.out; have HXS := Lib.hid hxs; clear hxs; by_cases hx1 : (0 : Int) < (N : Int)) | (go_at_call 102; (with_reducible refine (C3.out _ HB.out).mono ?_); rintro e wn ⟨r, rfl, hw⟩; replace hw := hw.symm; subst hw; cases r) | (go_at_call 103; (with_reducible refine (C4.out _ HB.out).mono ?_); rintro e wn ⟨rfl, hb⟩; replace HB := Lib.hid (HB.out.trans (hb.mono HB.out.size)); clear hb a0 a1 a4 b0 b1; obtain ⟨⟨a0, a1, -, -, a4⟩, ⟨b0, b1⟩⟩ := HQ.out _ HB.out))
  all_goals first
    | (refine int_ret rfl rfl ?_; with_reducible exact HS.out _ (HBW.out _ HB.out) _)
    | skip
  refine box1g (fun W2 hbx hnx => ?_)
  have H2B := Lib.hid hbx
  have H2 := Lib.hid hnx
  clear hbx hnx
  obtain ⟨E, hE⟩ : ∃ E, wn.heap.size = E := ⟨_, rfl⟩
  rw [hE] at H2 ⊢
  have H2E : Hid (wn.heap.size = E) := Lib.hid (by omega)
  clear hE
  have HBX := Lib.hid (HB.out.trans (H2B.out.mono HB.out.size))
  have HQF : Hid (∀ X S0, Fr S0 TM W2 X → X.cell? ⟨A, 0, none⟩ = some (.pointer (some ⟨t, 0, none⟩)) ∧ X.cell? ⟨B, 1, none⟩ = some (.int .i64 n) ∧ X.cell? ⟨E, 1, none⟩ = some (.int .i64 x.an)) := Lib.hid fun X S0 hX => ⟨((H1.out.1.below HBX.out).fr hX (by decide)).cell 0, ((H1.out.2.below HBX.out).fr hX (by decide)).cell 1, (H2.out.fr hX (by decide)).cell 1⟩
  clear a0 a1 a4 b0 b1
  obtain ⟨⟨a0, a1, -, -, a4⟩, ⟨b0, b1⟩⟩ := HQ.out _ HBX.out
  have HNA : Hid (¬ AbvN l i l.length) := Lib.hid (fun h => by have := HXS.out.2 h; omega)
  have C5 := unbind2_any S W2 tb tv l (HC.out.1.tab.below (HBW.out _ HBX.out)) i x hi1 HX.out.1 HX.out.2 HNA.out
  have HXD := Lib.hid (HC.out.1.ml i x HX.out.1 HX.out.2)
  have hx1' := hx1
  clear hx1
  go_upto_region 8 with (first | (go_at_call 104; (with_reducible refine C5.mono ?_); rintro e w5 ⟨rfl, v5, ht5, hf5⟩))
  have HT5 := Lib.hid ht5
  have HF5 := Lib.hid (hf5.mono (T' := TM) (fun _ h => .inl h) (by decide))
  have HTR5 : Hid (TR S w5 t c bs T) := Lib.hid ((HC.out.1.tr.below (HBW.out _ HBX.out)).fr (fun _ h => h) hf5 (by decide) (by decide))
  have HW5 : Hid (WStep S S t c tb bs v5 w w5 T (l.set i { x with live := false })) := Lib.hid ((WStep.mounts (fun _ h => h) (fun _ h => .inl h) hf5 ht5 (HC.out.1.tr.below (HBW.out _ HBX.out))).below (HBW.out _ HBX.out))
  have HI5 : Hid (TInv T (fun k => ((mrefs (l.set i { x with live := false }) k + Rb k) + if n = (k : Int) then 1 else 0) + if x.an = (k : Int) then 1 else 0) none) := Lib.hid (HC.out.1.inv.congr fun k => by
    have e := mrefs_kill hi1 HX.out.1 HX.out.2 k
    have e2 : (if x.node = (k : Int) then 1 else 0) = (if n = (k : Int) then 1 else 0) := by rw [HXN.out]
    rw [e2] at e
    omega)
  clear ht5 hf5 C5
  have hc1 : c ≤ 100000 := by have := HC.out.1.cc; omega
  have C6 := loose_ctx HTR5.out (n := x.an) (R := fun k => (mrefs (l.set i { x with live := false }) k + Rb k) + if n = (k : Int) then 1 else 0) HI5.out (by have := (HXD.out.2.2.2 hi1).liv.rg; omega) hc1
  clear a0 a1 a4 b0 b1
  obtain ⟨a0, b1, e1⟩ := HQF.out _ _ HF5.out
  go_upto_region 9 with (first | (go_at_call 25; (with_reducible refine C6.mono ?_); rintro e w6 ⟨code6, S6, T6, rfl, hs6, hi6, hk6⟩))
  have HS6 := Lib.hid hs6
  have HI6 := Lib.hid (And.intro hi6 hk6)
  have HF6 := Lib.hid (HF5.out.trans (hs6.fr.mono (T' := TM) (fun _ h => .inl h) (by decide)) (fun _ h => .inl h))
  clear hs6 hi6 hk6 C6
  have C7 := loose_ctx HS6.out.tr (n := n) (R := fun k => mrefs (l.set i { x with live := false }) k + Rb k) HI6.out.1 (by have := HC.out.2.2.2.2.rg; omega) hc1
  clear a0 b1 e1
  obtain ⟨a0, b1, e1⟩ := HQF.out _ _ HF6.out
  go_wp2_with (first | (go_at_call 25; (with_reducible refine C7.mono ?_); rintro e w7 ⟨code7, S7, T7, rfl, hs7, hi7, hk7⟩; have HE := Lib.hid (And.intro hs7 (And.intro hi7 hk7)); clear hs7 hi7 hk7))
  refine int_ret rfl rfl ?_
  have hkk := HI6.out.2.trans HE.out.2.2
  have hst := (HW5.out.trans (WStep.tree (HS6.out.trans HE.out.1) HT5.out)).mono (Nat.le_add_right c 3)
  refine ⟨0, S7, bs, T7, v5, _, rfl, hst, HE.out.2.1, hkk, ?_, ?_, ?_, ?_⟩
  · exact MInv.kill HC.out.1.mi HX.out.1
  · exact HC.out.1.ml.kept HE.out.2.1 hkk (fun j y hy hl => kill_sub hy hl) HC.out.1.m0
  · exact M0.kill hi1 HC.out.1.m0
  · rw [List.length_set]; exact Nat.le_trans HC.out.1.ll (Nat.le_add_right c 3)
end Go.Proofs.YtfjghemojnhmbaaGreat
/- The world of chapter 13: Bind, Unbind. -/
namespace Go.Proofs.YtfjghemojnhmbaaGreat
open Go.RowKit

theorem MInv.push {l : List Mt} {am an nd : Int} (h : MInv l) (hm : isM l am = true) : MInv (l ++ [⟨am, an, nd, true⟩]) := by
  intro i x h1 hx hl
  by_cases hi : i < l.length
  · rw [List.getElem?_append_left hi] at hx
    exact h i x h1 hx hl
  · have := (List.getElem?_eq_some_iff.1 hx).1
    rw [List.length_append] at this
    obtain rfl : i = l.length := by simp at this; omega
    rw [List.getElem?_append_right (Nat.le_refl _), Nat.sub_self] at hx
    simp at hx
    subst hx
    obtain ⟨j, y, rfl, hy, _⟩ := isM_true hm
    have := (List.getElem?_eq_some_iff.1 hy).1
    exact ⟨by show (0 : Int) ≤ (j : Int); omega, by show (j : Int) < (l.length : Int); omega⟩
theorem ML.push {T T' : List (Option Nd)} {l : List Mt} {am an nd : Int} (h : ML T l) (hk : ∀ m, LivD T m → LivD T' m) (hp : PlaceOk T am an) (ha : LivD T' an) (hn : LivD T' nd) : ML T' (l ++ [⟨am, an, nd, true⟩]) := by
  intro i x hx hl
  by_cases hi : i < l.length
  · rw [List.getElem?_append_left hi] at hx
    obtain ⟨q1, q2, q3, q4⟩ := h i x hx hl
    exact ⟨hk _ q1, q2, q3, fun q => hk _ (q4 q)⟩
  · have := (List.getElem?_eq_some_iff.1 hx).1
    rw [List.length_append] at this
    obtain rfl : i = l.length := by simp at this; omega
    rw [List.getElem?_append_right (Nat.le_refl _), Nat.sub_self] at hx
    simp at hx
    subst hx
    exact ⟨hn, hp.1, hp.2.1, fun _ => ha⟩
theorem M0.push {l : List Mt} {x : Mt} (h : M0 l) : M0 (l ++ [x]) := by
  unfold M0 at h ⊢
  rw [List.getElem?_append_left (List.getElem?_eq_some_iff.1 h).1]; exact h
attribute [local go_sem ↓] run_field38 run_field38s
theorem LivD.r64 {S : Nat → Prop} {w : World} {t c : Nat} {bs : List Nat} {T : List (Option Nd)} {tb : Nat} {tv : Value} {l : List Mt} (hc : Ctx S w t c bs T tb tv l) {n : Int} (h : Liv T n) : R64 n := by
  have h1 := h.rg
  have h2 := hc.tl
  exact ⟨by omega, by omega⟩
set_option maxRecDepth 100000 in
set_option maxHeartbeats 8000000 in
theorem mnt13_any {S : Nat → Prop} {w : World} {t c : Nat} {bs : List Nat} {T : List (Option Nd)} {tb : Nat} {tv : Value} {l : List Mt} {Rb : Nat → Nat} (hc : WI S w t c bs T tb tv l Rb) (ua : Option Addr) (un uc : Nat) (us : List Int) (hU : Ints w 0 (.slice ua un uc) us) (cm cn : Int) (hcn : R64 cn) (cr : Cr) (q : Cl) :
    Calls Tryz.prog 40 #[Wld t tb ua un uc, Who cm cn cr, q.val] w (MtP S t (c + 3) tb Rb T w) := by
  have HC := Lib.hid (And.intro hc (And.intro hU hcn))
  clear hc hU hcn
  have HS : Hid (∀ X, Below w.heap.size w X → ∀ code : Int, MtP S t (c + 3) tb Rb T w (.returned (.int .i64 code)) X) := Lib.hid fun X hX code => MtP.same HC.out.1 (Nat.le_add_right _ _) hX code
  unfold Wld Who Cl.val
  go_enter Tryz.func40, Tryz.ntmps40
  go_upto_region 1 with fail
  refine box3g (fun W hbx hnx => ?_)
  have H1B := Lib.hid hbx
  have H1 := Lib.hid hnx
  clear hbx hnx
  generalize hC : w.heap.size + 1 + 1 = C at H1 ⊢
  generalize hB : w.heap.size + 1 = B at H1 ⊢
  obtain ⟨A, hA⟩ : ∃ A, w.heap.size = A := ⟨_, rfl⟩
  rw [hA] at H1 ⊢
  have H1E : Hid (w.heap.size = A ∧ w.heap.size + 1 = B ∧ w.heap.size + 2 = C) := Lib.hid (by omega)
  clear hA hB hC
  have HQ := Lib.hid fun (X : World) (hX : Below W.heap.size W X) => And.intro (H1.out.1.below hX).k5 (And.intro (H1.out.2.1.below hX).k4 ((H1.out.2.2.below hX).k9))
  obtain ⟨⟨e0, e1, e2, e3, e4⟩, ⟨e5, e6, e7, e8⟩, ⟨e9, e10, e11, -, -, -, -, -, -⟩⟩ := HQ.out _ (Below.refl _ _)
  have HB : Hid (Below W.heap.size W W) := Lib.hid (Below.refl _ _)
  have HBW : Hid (∀ X, Below W.heap.size W X → Below w.heap.size w X) := Lib.hid fun X hX => H1B.out.trans (hX.mono H1B.out.size)
  have HBF : Hid (Blk W A 83 #[.pointer (some ⟨t, 0, none⟩), .pointer (some ⟨tb, 0, none⟩), .int .i64 0, .int .i64 1, .slice ua un uc]) := Lib.hid H1.out.1
  have HWW : Hid (∀ X, Below W.heap.size W X → Below W.heap.size W X) := Lib.hid fun X hX => hX
  have C65 : Hid (∀ X, Below w.heap.size w X → Calls Tryz.prog 65 #[.agg #[.pointer (some ⟨t, 0, none⟩), .pointer (some ⟨tb, 0, none⟩), .int .i64 0, .int .i64 1, .slice ua un uc], .agg #[.int .i64 cm, .int .i64 cn, .int .i64 cr.u, .int .i64 cr.g], .string q.path, .bool true] X (WtP T X)) := Lib.hid fun X hX => there_any (HC.out.1.ctx.below hX) ua un uc cm cn HC.out.2.2 cr q.path true
  have C65b : Hid (∀ X, Below w.heap.size w X → Calls Tryz.prog 65 #[.agg #[.pointer (some ⟨t, 0, none⟩), .pointer (some ⟨tb, 0, none⟩), .int .i64 0, .int .i64 1, .slice ua un uc], .agg #[.int .i64 cm, .int .i64 cn, .int .i64 cr.u, .int .i64 cr.g], .string q.dest, .bool true] X (WtP T X)) := Lib.hid fun X hX => there_any (HC.out.1.ctx.below hX) ua un uc cm cn HC.out.2.2 cr q.dest true
  go_upto_region 4 with (first | (go_at_call 65; (with_reducible refine (C65.out _ (HBW.out _ HB.out)).mono ?_); rintro e wn ⟨f, code, rfl, hf, h0, hb⟩; have HF := Lib.hid (And.intro hf (And.intro (hf.r HC.out.1.ctx) h0)); clear hf h0; replace HB := Lib.hid (HB.out.trans (hb.mono HB.out.size)); clear hb e0 e1 e2 e3 e4 e5 e6 e7 e8 e9 e10 e11; obtain ⟨⟨e0, e1, e2, e3, e4⟩, ⟨e5, e6, e7, e8⟩, ⟨e9, e10, e11, -, -, -, -, -, -⟩⟩ := HQ.out _ HB.out; unfold Fnd.val))
  all_goals first
    | (refine int_ret rfl rfl ?_; with_reducible exact HS.out _ (HBW.out _ HB.out) _)
    | skip
  refine box1g (fun W2 hbx hnx => ?_)
  have H11B := Lib.hid hbx
  have H11 := Lib.hid hnx
  clear hbx hnx
  obtain ⟨D, hD⟩ : ∃ D, wn.heap.size = D := ⟨_, rfl⟩
  rw [hD] at H11 ⊢
  have H11E : Hid (wn.heap.size = D) := Lib.hid (by omega)
  clear hD
  have HBB1 : Hid (Below W.heap.size W W2) := Lib.hid (HB.out.trans (H11B.out.mono HB.out.size))
  clear e0 e1 e2 e3 e4 e5 e6 e7 e8 e9 e10 e11
  replace HQ := Lib.hid fun (X : World) (hX : Below W2.heap.size W2 X) => And.intro (HQ.out X (HBB1.out.trans (hX.mono HBB1.out.size))) (H11.out.below hX).k7
  replace HBW : Hid (∀ X, Below W2.heap.size W2 X → Below w.heap.size w X) := Lib.hid fun X hX => HBW.out X (HBB1.out.trans (hX.mono HBB1.out.size))
  have HZD : Hid (W.heap.size ≤ D) := Lib.hid (by have h1 := (HWW.out _ HB.out).size; have h2 := H11E.out; omega)
  replace HWW : Hid (∀ X, Below W2.heap.size W2 X → Below W.heap.size W X) := Lib.hid fun X hX => HWW.out X (HBB1.out.trans (hX.mono HBB1.out.size))
  have HKD := Lib.hid H11.out
  clear HB HBB1
  have HB : Hid (Below W2.heap.size W2 W2) := Lib.hid (Below.refl _ _)
  obtain ⟨⟨⟨e0, e1, e2, e3, e4⟩, ⟨e5, e6, e7, e8⟩, ⟨e9, e10, e11, -, -, -, -, -, -⟩⟩, ⟨dD0, dD1, dD2, dD3, dD4, dD5, dD6⟩⟩ := HQ.out _ HB.out
  by_cases h0 : code = 0
  case neg =>
    go_wp2_with fail
    refine int_ret rfl rfl ?_
    with_reducible exact HS.out _ (HBW.out _ HB.out) _
  subst h0
  have HH := Lib.hid (HF.out.2.2 rfl)
  have C66 : Hid (∀ X, Below w.heap.size w X → Calls Tryz.prog 66 #[.agg #[.pointer (some ⟨t, 0, none⟩), .pointer (some ⟨tb, 0, none⟩), .int .i64 0, .int .i64 1, .slice ua un uc], .agg #[.int .i64 f.am, .int .i64 f.an]] X (MtP S t (c + 3) tb Rb T X)) := Lib.hid fun X hX => unb13_any (HC.out.1.below hX) ua un uc us (HC.out.2.1.below hX) f.am f.an (HF.out.1.at_ HH.out)
  have C59 : Hid (∀ X, Below w.heap.size w X → Calls Tryz.prog 59 #[.agg #[.pointer (some ⟨t, 0, none⟩), .pointer (some ⟨tb, 0, none⟩), .int .i64 0, .int .i64 1, .slice ua un uc], .agg #[.int .i64 f.am, .int .i64 f.an]] X (WsP T f.an X)) := Lib.hid fun X hX => wstat_any (HC.out.1.ctx.below hX) ua un uc f.am f.an (HF.out.2.1.2 HH.out)
  go_upto_region 11 with (first | (go_at_call 66; (with_reducible refine (C66.out _ (HBW.out _ HB.out)).mono ?_); rintro e wn hm; obtain ⟨code2, rfl, hw⟩ := MtP.below (HBW.out _ HB.out) hm; clear hm; have HW := Lib.hid hw; clear hw) | (go_at_call 59; (with_reducible refine (C59.out _ (HBW.out _ HB.out)).mono ?_); rintro e wn ⟨s, rfl, hs, hb⟩; have HSf := Lib.hid hs; clear hs; obtain ⟨kd, hkd⟩ : ∃ kd, (s.kind != 1) = kd := ⟨_, rfl⟩; replace HB := Lib.hid (HB.out.trans (hb.mono HB.out.size)); clear hb e0 e1 e2 e3 e4 e5 e6 e7 e8 e9 e10 e11 dD0 dD1 dD2 dD3 dD4 dD5 dD6; obtain ⟨⟨⟨e0, e1, e2, e3, e4⟩, ⟨e5, e6, e7, e8⟩, ⟨e9, e10, e11, -, -, -, -, -, -⟩⟩, ⟨dD0, dD1, dD2, dD3, dD4, dD5, dD6⟩⟩ := HQ.out _ HB.out; unfold Stt.val; cases kd) | (go_at_call 65; (with_reducible refine (C65b.out _ (HBW.out _ HB.out)).mono ?_); rintro e wn ⟨g, code2, rfl, hf, h0, hb⟩; have HG := Lib.hid (And.intro hf (And.intro (hf.r HC.out.1.ctx) h0)); clear hf h0; replace HB := Lib.hid (HB.out.trans (hb.mono HB.out.size)); clear hb e0 e1 e2 e3 e4 e5 e6 e7 e8 e9 e10 e11 dD0 dD1 dD2 dD3 dD4 dD5 dD6; obtain ⟨⟨⟨e0, e1, e2, e3, e4⟩, ⟨e5, e6, e7, e8⟩, ⟨e9, e10, e11, -, -, -, -, -, -⟩⟩, ⟨dD0, dD1, dD2, dD3, dD4, dD5, dD6⟩⟩ := HQ.out _ HB.out; unfold Fnd.val))
  all_goals first
    | (refine int_ret rfl rfl ?_; first | with_reducible exact HS.out _ (HBW.out _ HB.out) _ | with_reducible exact HW.out)
    | skip
  refine box1g (fun W3 hbx hnx => ?_)
  have H12B := Lib.hid hbx
  have H12 := Lib.hid hnx
  clear hbx hnx
  obtain ⟨E, hE⟩ : ∃ E, wn.heap.size = E := ⟨_, rfl⟩
  rw [hE] at H12 ⊢
  have H12E : Hid (wn.heap.size = E) := Lib.hid (by omega)
  clear hE
  have HBB2 : Hid (Below W2.heap.size W2 W3) := Lib.hid (HB.out.trans (H12B.out.mono HB.out.size))
  clear e0 e1 e2 e3 e4 e5 e6 e7 e8 e9 e10 e11 dD0 dD1 dD2 dD3 dD4 dD5 dD6
  replace HQ := Lib.hid fun (X : World) (hX : Below W3.heap.size W3 X) => And.intro (HQ.out X (HBB2.out.trans (hX.mono HBB2.out.size))) (H12.out.below hX).k7
  replace HBW : Hid (∀ X, Below W3.heap.size W3 X → Below w.heap.size w X) := Lib.hid fun X hX => HBW.out X (HBB2.out.trans (hX.mono HBB2.out.size))
  have HZE : Hid (W.heap.size ≤ E) := Lib.hid (by have h1 := (HWW.out _ HB.out).size; have h2 := H12E.out; omega)
  replace HWW : Hid (∀ X, Below W3.heap.size W3 X → Below W.heap.size W X) := Lib.hid fun X hX => HWW.out X (HBB2.out.trans (hX.mono HBB2.out.size))
  replace HKD := Lib.hid (HKD.out.below HBB2.out)
  have HKE := Lib.hid H12.out
  clear HB HBB2
  have HB : Hid (Below W3.heap.size W3 W3) := Lib.hid (Below.refl _ _)
  obtain ⟨⟨⟨⟨e0, e1, e2, e3, e4⟩, ⟨e5, e6, e7, e8⟩, ⟨e9, e10, e11, -, -, -, -, -, -⟩⟩, ⟨dD0, dD1, dD2, dD3, dD4, dD5, dD6⟩⟩, ⟨dE0, dE1, dE2, dE3, dE4, dE5, dE6⟩⟩ := HQ.out _ HB.out
  by_cases h0 : code2 = 0
  case neg =>
    go_wp2_with fail
    refine int_ret rfl rfl ?_
    with_reducible exact HS.out _ (HBW.out _ HB.out) _
  subst h0
  have HHg := Lib.hid (HG.out.2.2 rfl)
  have C59b : Hid (∀ X, Below w.heap.size w X → Calls Tryz.prog 59 #[.agg #[.pointer (some ⟨t, 0, none⟩), .pointer (some ⟨tb, 0, none⟩), .int .i64 0, .int .i64 1, .slice ua un uc], .agg #[.int .i64 g.am, .int .i64 g.an]] X (WsP T g.an X)) := Lib.hid fun X hX => wstat_any (HC.out.1.ctx.below hX) ua un uc g.am g.an (HG.out.2.1.2 HHg.out)
  go_upto_region 15 with (first | (go_at_call 59; (with_reducible refine (C59b.out _ (HBW.out _ HB.out)).mono ?_); rintro e wn ⟨s2, rfl, hs, hb⟩; have HSg := Lib.hid hs; clear hs; obtain ⟨kd2, hkd2⟩ : ∃ kd2, (s2.kind != 1) = kd2 := ⟨_, rfl⟩; replace HB := Lib.hid (HB.out.trans (hb.mono HB.out.size)); clear hb e0 e1 e2 e3 e4 e5 e6 e7 e8 e9 e10 e11 dD0 dD1 dD2 dD3 dD4 dD5 dD6 dE0 dE1 dE2 dE3 dE4 dE5 dE6; obtain ⟨⟨⟨⟨e0, e1, e2, e3, e4⟩, ⟨e5, e6, e7, e8⟩, ⟨e9, e10, e11, -, -, -, -, -, -⟩⟩, ⟨dD0, dD1, dD2, dD3, dD4, dD5, dD6⟩⟩, ⟨dE0, dE1, dE2, dE3, dE4, dE5, dE6⟩⟩ := HQ.out _ HB.out; unfold Stt.val; cases kd2))
  all_goals first
    | (refine int_ret rfl rfl ?_; with_reducible exact HS.out _ (HBW.out _ HB.out) _)
    | skip
  have HDf : Hid (LivD T f.an) := Lib.hid (HSf.out.dir (by simpa using hkd))
  have HDg : Hid (LivD T g.an) := Lib.hid (HSg.out.dir (by simpa using hkd2))
  have hll : l.length + 1 ≤ 1000000 := by have := HC.out.1.ll; have := HC.out.1.cc; omega
  have C67 := bind_any S wn tb tv l (HC.out.1.below (HBW.out _ HB.out)).tab hll g.am g.an f.an
  go_upto_region 16 with (first | (go_at_call 67; (with_reducible refine C67.mono ?_); rintro e w5 ⟨r5, code5, S5, v5, l5, rfl, hs5, hn5, ht5, hf5, hd5⟩))
  have HF5 := Lib.hid (hf5.mono (T' := TM) (fun _ h => .inl h) (by decide))
  have HX5 := Lib.hid (And.intro hs5 (And.intro hn5 (And.intro ht5 hf5)))
  have HTR5 : Hid (TR S5 w5 t c bs T) := Lib.hid ((HC.out.1.tr.below (HBW.out _ HB.out)).fr hs5 hf5 (by decide) (by decide))
  have HQF : Hid (∀ X S0, Fr S0 TM wn X → X.cell? ⟨A, 0, none⟩ = some (.pointer (some ⟨t, 0, none⟩)) ∧ X.cell? ⟨D, 4, none⟩ = some (.int .i64 f.an) ∧ X.cell? ⟨E, 4, none⟩ = some (.int .i64 g.an)) := Lib.hid fun X S0 hX => ⟨((HBF.out.below (HWW.out _ HB.out)).fr hX (by decide)).cell 0, ((HKD.out.below HB.out).fr hX (by decide)).cell 4, ((HKE.out.below HB.out).fr hX (by decide)).cell 4⟩
  have HW5 : Hid (WStep S S5 t c tb bs v5 w w5 T l5) := Lib.hid ((WStep.mounts hs5 hn5 hf5 ht5 (HC.out.1.tr.below (HBW.out _ HB.out))).below (HBW.out _ HB.out))
  clear hs5 hn5 ht5 hf5 C67 e0 e1 e2 e3 e4 e5 e6 e7 e8 e9 e10 e11 dD0 dD1 dD2 dD3 dD4 dD5 dD6 dE0 dE1 dE2 dE3 dE4 dE5 dE6
  by_cases h5 : code5 = 0
  case neg =>
    have hl5 : l5 = l := by
      rcases hd5 with ⟨_, e⟩ | ⟨e, _⟩
      · exact e
      · exact absurd e h5
    subst hl5
    have HR : Hid (MtP S t (c + 3) tb Rb T w (.returned (.int .i64 43)) w5) := Lib.hid ⟨43, S5, bs, T, v5, l5, rfl, HW5.out.mono (Nat.le_add_right c 3), HC.out.1.inv, KK.refl T, HC.out.1.mi, HC.out.1.ml, HC.out.1.m0, Nat.le_trans HC.out.1.ll (Nat.le_add_right c 3)⟩
    clear hd5
    go_wp2_with fail
    refine int_ret rfl rfl ?_
    with_reducible exact HR.out
  obtain ⟨hm5, rfl⟩ : isM l g.am = true ∧ l5 = l ++ [⟨g.am, g.an, f.an, true⟩] := by
    rcases hd5 with ⟨e, _⟩ | ⟨_, e⟩
    · exact absurd h5 e
    · exact e
  subst h5
  have HM5 := Lib.hid hm5
  have hne : l ≠ [] := by
    intro e
    have := HC.out.1.m0
    unfold M0 at this
    rw [e] at this
    cases this
  have HNE := Lib.hid hne
  clear hd5 hm5 hne hll hkd hkd2
  have hc1 : c + 1 ≤ 100000 := by have := HC.out.1.cc; omega
  have hc2 : c + 1 + 1 ≤ 100000 := by have := HC.out.1.cc; omega
  have C6 := hold_ctx HTR5.out HC.out.1.inv hc1 HDg.out.liv
  obtain ⟨a0, d4, e4⟩ := HQF.out _ _ HF5.out
  go_upto_region 19 with (first | (go_at_call 20; (with_reducible refine C6.mono ?_); rintro e w6 ⟨code6, T6, rfl, hs6, hi6, hk6, hd6, hl6⟩))
  have HS6 := Lib.hid hs6
  have HI6 := Lib.hid (And.intro hi6 (And.intro hk6 (And.intro hd6 hl6)))
  have HF6 := Lib.hid (HF5.out.trans (hs6.fr.mono (T' := TM) (fun _ h => .inl h) (by decide)) HX5.out.2.1)
  clear hs6 hi6 hk6 hd6 hl6 C6
  have C7 := hold_ctx HS6.out.tr HI6.out.1 hc2 (HI6.out.2.2.1 _ HDf.out).liv
  clear a0 d4 e4
  obtain ⟨a0, d4, e4⟩ := HQF.out _ _ HF6.out
  go_wp2_with (first | (go_at_call 20; (with_reducible refine C7.mono ?_); rintro e w7 ⟨code7, T7, rfl, hs7, hi7, hk7, hd7, hl7⟩; have HE := Lib.hid (And.intro hs7 (And.intro hi7 (And.intro hk7 (And.intro hd7 hl7)))); clear hs7 hi7 hk7 hd7 hl7))
  refine int_ret rfl rfl ?_
  refine ⟨0, S5, bs, T7, v5, _, rfl, ((HW5.out.trans (WStep.tree (HS6.out.trans HE.out.1) HX5.out.2.2.1))).mono (by omega), HE.out.2.1.congr (fun k => ?_), HI6.out.2.1.trans HE.out.2.2.1, ?_, ?_, ?_, ?_⟩
  · rw [mrefs_push HNE.out]
    omega
  · exact HC.out.1.mi.push HM5.out
  · exact ML.push HC.out.1.ml (fun m hm => HE.out.2.2.2.1 _ (HI6.out.2.2.1 _ hm)) (HG.out.1.at_ HHg.out) (HE.out.2.2.2.1 _ (HI6.out.2.2.1 _ HDg.out)) (HE.out.2.2.2.1 _ (HI6.out.2.2.1 _ HDf.out))
  · exact M0.push HC.out.1.m0
  · have := HC.out.1.ll
    rw [List.length_append]
    show l.length + 1 ≤ c + 3
    omega
end Go.Proofs.YtfjghemojnhmbaaGreat
