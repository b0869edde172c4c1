/- The world of chapter 13: Link, Link2, Rename. -/
import Derived.Test.YtfjghemojnhmbaaGreatWr
namespace Go.Proofs.YtfjghemojnhmbaaGreat
open Go.RowKit

attribute [local go_sem ↓] run_field38 run_field38s
theorem le13 (c : Nat) : c + 1 ≤ c + 3 := by omega
theorem WOp.below {S : Nat → Prop} {t c : Nat} {R : Nat → Nat} {w w1 w' : World} {T : List (Option Nd)} {e : Ending} (hb : Below w.heap.size w w1) (h : WOp S t c R T w1 e w') : ∃ code : Int, e = .returned (.int .i64 code) ∧ WOp S t c R T w (.returned (.int .i64 code)) w' := by
  obtain ⟨code, S', bs', T', rfl, h1, h2, h3⟩ := h
  exact ⟨code, rfl, code, S', bs', T', rfl, h1.below hb, h2, h3⟩
set_option maxRecDepth 100000 in
set_option maxHeartbeats 8000000 in
theorem twoA {S : Nat → Prop} {w : World} {t c : Nat} {bs : List Nat} {T : List (Option Nd)} {tb : Nat} {tv : Value} {l : List Mt} (hc : Ctx S w t c bs T tb tv l) (ua : Option Addr) (un uc : Nat) (cm cn : Int) (hcn : R64 cn) (cr : Cr) {R : Nat → Nat} (hi : TInv T R none) (q : Cl) (_hp : q.path.size ≤ 5000) (h9 : (q.op == 9) = true) :
    Calls Tryz.prog 39 #[Wld t tb ua un uc, Who cm cn cr, q.val] w (WOp S t (c + 3) R T w) := by
  have HC := Lib.hid (And.intro hc (And.intro hi hcn))
  clear hc hi hcn
  unfold Wld Who Cl.val
  go_enter Tryz.func39, Tryz.ntmps39
  have HS : Hid (∀ X, Below w.heap.size w X → ∀ code : Int, WOp S t (c + 3) R T w (.returned (.int .i64 code)) X) := Lib.hid fun X hX code => WOp.same HC.out.1 HC.out.2.1 (Nat.le_add_right _ _) hX code
  go_upto_region 1 with fail
  refine box3g (fun W hbx hnx => ?_)
  have H1B := Lib.hid hbx
  have H1 := Lib.hid hnx
  clear hbx hnx
  generalize hC : w.heap.size + 1 + 1 = C at H1 ⊢
  generalize hB : w.heap.size + 1 = B at H1 ⊢
  obtain ⟨A, hA⟩ : ∃ A, w.heap.size = A := ⟨_, rfl⟩
  rw [hA] at H1 ⊢
  have H1E : Hid (w.heap.size = A ∧ w.heap.size + 1 = B ∧ w.heap.size + 2 = C) := Lib.hid (by omega)
  clear hA hB hC
  have HQ := Lib.hid fun (X : World) (hX : Below W.heap.size W X) => And.intro (H1.out.1.below hX).k5 (And.intro (H1.out.2.1.below hX).k4 ((H1.out.2.2.below hX).k9))
  obtain ⟨⟨e0, e1, e2, e3, e4⟩, ⟨e5, e6, e7, e8⟩, ⟨e9, e10, e11, -, -, -, -, -, -⟩⟩ := HQ.out _ (Below.refl _ _)
  have HB : Hid (Below W.heap.size W W) := Lib.hid (Below.refl _ _)
  have HBW : Hid (∀ X, Below W.heap.size W X → Below w.heap.size w X) := Lib.hid fun X hX => H1B.out.trans (hX.mono H1B.out.size)
  have C58 : Hid (∀ X, Below w.heap.size w X → Calls Tryz.prog 58 #[.agg #[.pointer (some ⟨t, 0, none⟩), .pointer (some ⟨tb, 0, none⟩), .int .i64 0, .int .i64 1, .slice ua un uc], .agg #[.int .i64 cm, .int .i64 cn, .int .i64 cr.u, .int .i64 cr.g], .string q.path, .bool false] X (WwP T X)) := Lib.hid fun X hX => wwalk_any (HC.out.1.below hX) ua un uc cm cn HC.out.2.2 cr q.path false
  have C60 : Hid (∀ X, Below w.heap.size w X → Calls Tryz.prog 60 #[.agg #[.pointer (some ⟨t, 0, none⟩), .pointer (some ⟨tb, 0, none⟩), .int .i64 0, .int .i64 1, .slice ua un uc], .agg #[.int .i64 cm, .int .i64 cn, .int .i64 cr.u, .int .i64 cr.g], .string q.dest] X (WwP T X)) := Lib.hid fun X hX => target_any (HC.out.1.below hX) ua un uc cm cn HC.out.2.2 cr q.dest
  go_upto_region 4 with (first | (go_at_call 58; (with_reducible refine (C58.out _ (HBW.out _ HB.out)).mono ?_); rintro e wn ⟨f, code, rfl, hf, hb⟩; have HF := Lib.hid (And.intro hf (hf.r HC.out.1)); clear hf; replace HB := Lib.hid (HB.out.trans (hb.mono HB.out.size)); clear hb e0 e1 e2 e3 e4 e5 e6 e7 e8 e9 e10 e11; obtain ⟨⟨e0, e1, e2, e3, e4⟩, ⟨e5, e6, e7, e8⟩, ⟨e9, e10, e11, -, -, -, -, -, -⟩⟩ := HQ.out _ HB.out; unfold Fnd.val))
  refine box1g (fun W2 hbx hnx => ?_)
  have H11B := Lib.hid hbx
  have H11 := Lib.hid hnx
  clear hbx hnx
  obtain ⟨D, hD⟩ : ∃ D, wn.heap.size = D := ⟨_, rfl⟩
  rw [hD] at H11 ⊢
  have H11E : Hid (wn.heap.size = D) := Lib.hid (by omega)
  clear hD
  have HBB1 : Hid (Below W.heap.size W W2) := Lib.hid (HB.out.trans (H11B.out.mono HB.out.size))
  clear e0 e1 e2 e3 e4 e5 e6 e7 e8 e9 e10 e11
  replace HQ := Lib.hid fun (X : World) (hX : Below W2.heap.size W2 X) => And.intro (HQ.out X (HBB1.out.trans (hX.mono HBB1.out.size))) (H11.out.below hX).k7
  replace HBW : Hid (∀ X, Below W2.heap.size W2 X → Below w.heap.size w X) := Lib.hid fun X hX => HBW.out X (HBB1.out.trans (hX.mono HBB1.out.size))
  clear HB HBB1
  have HB : Hid (Below W2.heap.size W2 W2) := Lib.hid (Below.refl _ _)
  obtain ⟨⟨⟨e0, e1, e2, e3, e4⟩, ⟨e5, e6, e7, e8⟩, ⟨e9, e10, e11, -, -, -, -, -, -⟩⟩, ⟨dD0, dD1, dD2, dD3, dD4, dD5, dD6⟩⟩ := HQ.out _ HB.out
  obtain ⟨fdm, fdn, fl, fam, fan, fh, fs⟩ := f
  dsimp only at HF HQ H11 dD0 dD1 dD2 dD3 dD4 dD5 dD6 ⊢
  have C59 : Hid (fh = true → ∀ X, Below w.heap.size w X → Calls Tryz.prog 59 #[.agg #[.pointer (some ⟨t, 0, none⟩), .pointer (some ⟨tb, 0, none⟩), .int .i64 0, .int .i64 1, .slice ua un uc], .agg #[.int .i64 fam, .int .i64 fan]] X (WsP T fan X)) := Lib.hid fun hh => fun X hX => wstat_any (HC.out.1.below hX) ua un uc fam fan (HF.out.2.2 hh)
  cases fh
  case false =>
    go_wp2_with fail
    all_goals
      refine int_ret rfl rfl ?_
      with_reducible exact HS.out _ (HBW.out _ HB.out) _
  replace C59 := Lib.hid (C59.out rfl)
  go_upto_region 11 with (first | (go_at_call 59; (with_reducible refine (C59.out _ (HBW.out _ HB.out)).mono ?_); rintro e wn ⟨s, rfl, hs, hb⟩; replace HB := Lib.hid (HB.out.trans (hb.mono HB.out.size)); clear hb e0 e1 e2 e3 e4 e5 e6 e7 e8 e9 e10 e11 dD0 dD1 dD2 dD3 dD4 dD5 dD6; obtain ⟨⟨⟨e0, e1, e2, e3, e4⟩, ⟨e5, e6, e7, e8⟩, ⟨e9, e10, e11, -, -, -, -, -, -⟩⟩, ⟨dD0, dD1, dD2, dD3, dD4, dD5, dD6⟩⟩ := HQ.out _ HB.out; clear hs; unfold Stt.val) | (go_at_call 60; (with_reducible refine (C60.out _ (HBW.out _ HB.out)).mono ?_); rintro e wn ⟨g, code2, rfl, hf, hb⟩; have HG := Lib.hid (And.intro hf (hf.r HC.out.1)); clear hf; replace HB := Lib.hid (HB.out.trans (hb.mono HB.out.size)); clear hb e0 e1 e2 e3 e4 e5 e6 e7 e8 e9 e10 e11 dD0 dD1 dD2 dD3 dD4 dD5 dD6; obtain ⟨⟨⟨e0, e1, e2, e3, e4⟩, ⟨e5, e6, e7, e8⟩, ⟨e9, e10, e11, -, -, -, -, -, -⟩⟩, ⟨dD0, dD1, dD2, dD3, dD4, dD5, dD6⟩⟩ := HQ.out _ HB.out; unfold Fnd.val))
  all_goals first
    | (refine int_ret rfl rfl ?_; with_reducible exact HS.out _ (HBW.out _ HB.out) _)
    | skip
  refine box1g (fun W3 hbx hnx => ?_)
  have H12B := Lib.hid hbx
  have H12 := Lib.hid hnx
  clear hbx hnx
  obtain ⟨E, hE⟩ : ∃ E, wn.heap.size = E := ⟨_, rfl⟩
  rw [hE] at H12 ⊢
  have H12E : Hid (wn.heap.size = E) := Lib.hid (by omega)
  clear hE
  have HBB2 : Hid (Below W2.heap.size W2 W3) := Lib.hid (HB.out.trans (H12B.out.mono HB.out.size))
  clear e0 e1 e2 e3 e4 e5 e6 e7 e8 e9 e10 e11 dD0 dD1 dD2 dD3 dD4 dD5 dD6
  replace HQ := Lib.hid fun (X : World) (hX : Below W3.heap.size W3 X) => And.intro (HQ.out X (HBB2.out.trans (hX.mono HBB2.out.size))) (H12.out.below hX).k7
  replace HBW : Hid (∀ X, Below W3.heap.size W3 X → Below w.heap.size w X) := Lib.hid fun X hX => HBW.out X (HBB2.out.trans (hX.mono HBB2.out.size))
  clear HB HBB2
  have HB : Hid (Below W3.heap.size W3 W3) := Lib.hid (Below.refl _ _)
  obtain ⟨⟨⟨⟨e0, e1, e2, e3, e4⟩, ⟨e5, e6, e7, e8⟩, ⟨e9, e10, e11, -, -, -, -, -, -⟩⟩, ⟨dD0, dD1, dD2, dD3, dD4, dD5, dD6⟩⟩, ⟨dE0, dE1, dE2, dE3, dE4, dE5, dE6⟩⟩ := HQ.out _ HB.out
  have C61 : Hid (∀ X, Below w.heap.size w X → Calls Tryz.prog 61 #[.agg #[.pointer (some ⟨t, 0, none⟩), .pointer (some ⟨tb, 0, none⟩), .int .i64 0, .int .i64 1, .slice ua un uc], .agg #[.int .i64 cm, .int .i64 cn, .int .i64 cr.u, .int .i64 cr.g], .agg #[.int .i64 g.dm, .int .i64 g.dn]] X (SomeB X)) := Lib.hid fun X hX => win_any (HC.out.1.below hX) ua un uc cm cn cr g.dm g.dn HG.out.2.1
  have C62 : Hid (∀ X, Below w.heap.size w X → Calls Tryz.prog 62 #[.pointer (some ⟨t, 0, none⟩), .int .i64 g.dn, .string g.last, .int .i64 fan] X (TreeP S t (c + 1) R T X)) := Lib.hid fun X hX => join_any (HC.out.1.below hX).tr HC.out.2.1 (by have := HC.out.1.cc; omega) g.dn fan HG.out.2.1 (HF.out.2.2 (by trivial)) g.last HG.out.1.last
  go_wp2_with (first | (go_at_call 61; (with_reducible refine (C61.out _ (HBW.out _ HB.out)).mono ?_); rintro e wn ⟨⟨r, rfl⟩, hb⟩; replace HB := Lib.hid (HB.out.trans (hb.mono HB.out.size)); clear hb e0 e1 e2 e3 e4 e5 e6 e7 e8 e9 e10 e11 dD0 dD1 dD2 dD3 dD4 dD5 dD6 dE0 dE1 dE2 dE3 dE4 dE5 dE6; obtain ⟨⟨⟨⟨e0, e1, e2, e3, e4⟩, ⟨e5, e6, e7, e8⟩, ⟨e9, e10, e11, -, -, -, -, -, -⟩⟩, ⟨dD0, dD1, dD2, dD3, dD4, dD5, dD6⟩⟩, ⟨dE0, dE1, dE2, dE3, dE4, dE5, dE6⟩⟩ := HQ.out _ HB.out; cases r) | (go_at_call 62; (with_reducible refine (C62.out _ (HBW.out _ HB.out)).mono ?_); rintro e wn hm; obtain ⟨code2, rfl, hw⟩ := WOp.tree (HBW.out _ HB.out) hm (le13 _); clear hm; have HW := Lib.hid hw; clear hw))
  all_goals
    refine int_ret rfl rfl ?_
    first
      | with_reducible exact HS.out _ (HBW.out _ HB.out) _
      | with_reducible exact HW.out
set_option maxRecDepth 100000 in
set_option maxHeartbeats 8000000 in
theorem twoB {S : Nat → Prop} {w : World} {t c : Nat} {bs : List Nat} {T : List (Option Nd)} {tb : Nat} {tv : Value} {l : List Mt} (hc : Ctx S w t c bs T tb tv l) (ua : Option Addr) (un uc : Nat) (cm cn : Int) (hcn : R64 cn) (cr : Cr) {R : Nat → Nat} (hi : TInv T R none) (q : Cl) (hp : q.path.size ≤ 5000) (h9 : (q.op == 9) = false) (h11 : (q.op == 11) = true) :
    Calls Tryz.prog 39 #[Wld t tb ua un uc, Who cm cn cr, q.val] w (WOp S t (c + 3) R T w) := by
  have HC := Lib.hid (And.intro hc (And.intro hi hcn))
  clear hc hi hcn
  unfold Wld Who Cl.val
  go_enter Tryz.func39, Tryz.ntmps39
  have HS : Hid (∀ X, Below w.heap.size w X → ∀ code : Int, WOp S t (c + 3) R T w (.returned (.int .i64 code)) X) := Lib.hid fun X hX code => WOp.same HC.out.1 HC.out.2.1 (Nat.le_add_right _ _) hX code
  have HP := Lib.hid hp
  clear hp
  go_upto_region 1 with fail
  refine box3g (fun W hbx hnx => ?_)
  have H1B := Lib.hid hbx
  have H1 := Lib.hid hnx
  clear hbx hnx
  generalize hC : w.heap.size + 1 + 1 = C at H1 ⊢
  generalize hB : w.heap.size + 1 = B at H1 ⊢
  obtain ⟨A, hA⟩ : ∃ A, w.heap.size = A := ⟨_, rfl⟩
  rw [hA] at H1 ⊢
  have H1E : Hid (w.heap.size = A ∧ w.heap.size + 1 = B ∧ w.heap.size + 2 = C) := Lib.hid (by omega)
  clear hA hB hC
  have HQ := Lib.hid fun (X : World) (hX : Below W.heap.size W X) => And.intro (H1.out.1.below hX).k5 (And.intro (H1.out.2.1.below hX).k4 ((H1.out.2.2.below hX).k9))
  obtain ⟨⟨e0, e1, e2, e3, e4⟩, ⟨e5, e6, e7, e8⟩, ⟨e9, e10, e11, -, -, -, -, -, -⟩⟩ := HQ.out _ (Below.refl _ _)
  have HB : Hid (Below W.heap.size W W) := Lib.hid (Below.refl _ _)
  have HBW : Hid (∀ X, Below W.heap.size W X → Below w.heap.size w X) := Lib.hid fun X hX => H1B.out.trans (hX.mono H1B.out.size)
  have C60 : Hid (∀ X, Below w.heap.size w X → Calls Tryz.prog 60 #[.agg #[.pointer (some ⟨t, 0, none⟩), .pointer (some ⟨tb, 0, none⟩), .int .i64 0, .int .i64 1, .slice ua un uc], .agg #[.int .i64 cm, .int .i64 cn, .int .i64 cr.u, .int .i64 cr.g], .string q.dest] X (WwP T X)) := Lib.hid fun X hX => target_any (HC.out.1.below hX) ua un uc cm cn HC.out.2.2 cr q.dest
  go_upto_region 23 with fail
  all_goals first
    | (refine int_ret rfl rfl ?_; with_reducible exact HS.out _ (HBW.out _ HB.out) _)
    | skip
  have hps := HP.out
  go_wp2_with fail
  go_loopw [10] (fun iv wr => ∃ i : Nat, i ≤ q.path.size ∧ iv = .int .i64 i ∧ W = wr) (fun iv _ => q.path.size - (intOf iv).toNat)
  case atStart => exact ⟨0, by omega, rfl, rfl⟩
  case round =>
    obtain ⟨i, hi, rfl, hW⟩ := hrel
    subst hW
    by_cases hlt : i < q.path.size
    · have k0 : (0 : Int) ≤ (i : Int) := by omega
      have k1 : (i : Int) < (q.path.size : Int) := by omega
      go_wp2_with fail
      all_goals
        first
        | (refine int_ret rfl rfl ?_; with_reducible exact HS.out _ (HBW.out _ HB.out) _)
        | (go_roundw
           case rel => exact ⟨i + 1, by omega, by go_num, by first | trivial | rfl⟩
           case measure => simp [intOf]; omega)
    obtain rfl : i = q.path.size := by omega
    have k1 : ¬ (q.path.size : Int) < (q.path.size : Int) := by omega
    clear hps
    go_upto_region 29 with (first | (go_at_call 60; (with_reducible refine (C60.out _ (HBW.out _ HB.out)).mono ?_); rintro e wn ⟨g, code2, rfl, hf, hb⟩; have HG := Lib.hid (And.intro hf (hf.r HC.out.1)); clear hf; replace HB := Lib.hid (HB.out.trans (hb.mono HB.out.size)); clear hb e0 e1 e2 e3 e4 e5 e6 e7 e8 e9 e10 e11; obtain ⟨⟨e0, e1, e2, e3, e4⟩, ⟨e5, e6, e7, e8⟩, ⟨e9, e10, e11, -, -, -, -, -, -⟩⟩ := HQ.out _ HB.out; unfold Fnd.val))
    refine box1g (fun W2 hbx hnx => ?_)
    have H11B := Lib.hid hbx
    have H11 := Lib.hid hnx
    clear hbx hnx
    obtain ⟨D, hD⟩ : ∃ D, wn.heap.size = D := ⟨_, rfl⟩
    rw [hD] at H11 ⊢
    have H11E : Hid (wn.heap.size = D) := Lib.hid (by omega)
    clear hD
    have HBB1 : Hid (Below W.heap.size W W2) := Lib.hid (HB.out.trans (H11B.out.mono HB.out.size))
    clear e0 e1 e2 e3 e4 e5 e6 e7 e8 e9 e10 e11
    replace HQ := Lib.hid fun (X : World) (hX : Below W2.heap.size W2 X) => And.intro (HQ.out X (HBB1.out.trans (hX.mono HBB1.out.size))) (H11.out.below hX).k7
    replace HBW : Hid (∀ X, Below W2.heap.size W2 X → Below w.heap.size w X) := Lib.hid fun X hX => HBW.out X (HBB1.out.trans (hX.mono HBB1.out.size))
    clear HB HBB1
    have HB : Hid (Below W2.heap.size W2 W2) := Lib.hid (Below.refl _ _)
    obtain ⟨⟨⟨e0, e1, e2, e3, e4⟩, ⟨e5, e6, e7, e8⟩, ⟨e9, e10, e11, -, -, -, -, -, -⟩⟩, ⟨dD0, dD1, dD2, dD3, dD4, dD5, dD6⟩⟩ := HQ.out _ HB.out
    have C61 : Hid (∀ X, Below w.heap.size w X → Calls Tryz.prog 61 #[.agg #[.pointer (some ⟨t, 0, none⟩), .pointer (some ⟨tb, 0, none⟩), .int .i64 0, .int .i64 1, .slice ua un uc], .agg #[.int .i64 cm, .int .i64 cn, .int .i64 cr.u, .int .i64 cr.g], .agg #[.int .i64 g.dm, .int .i64 g.dn]] X (SomeB X)) := Lib.hid fun X hX => win_any (HC.out.1.below hX) ua un uc cm cn cr g.dm g.dn HG.out.2.1
    have C63 : Hid (∀ X, Below w.heap.size w X → Calls Tryz.prog 63 #[.pointer (some ⟨t, 0, none⟩), .int .i64 g.dn, .string g.last, .agg #[.int .i64 0, .int .i64 3, .int .i64 511, .int .i64 cr.u, .int .i64 cr.g, .int .i64 0, .int .i64 0], .string q.path] X (MakeP S t (c + 3) R T X)) := Lib.hid fun X hX => tmake_any (HC.out.1.below hX).tr HC.out.2.1 (by have := HC.out.1.cc; omega) g.dn HG.out.2.1 g.last HG.out.1.last ⟨0, 3, 511, cr.u, cr.g, 0, 0⟩ q.path HP.out
    go_wp2_with (first | (go_at_call 61; (with_reducible refine (C61.out _ (HBW.out _ HB.out)).mono ?_); rintro e wn ⟨⟨r, rfl⟩, hb⟩; replace HB := Lib.hid (HB.out.trans (hb.mono HB.out.size)); clear hb e0 e1 e2 e3 e4 e5 e6 e7 e8 e9 e10 e11 dD0 dD1 dD2 dD3 dD4 dD5 dD6; obtain ⟨⟨⟨e0, e1, e2, e3, e4⟩, ⟨e5, e6, e7, e8⟩, ⟨e9, e10, e11, -, -, -, -, -, -⟩⟩, ⟨dD0, dD1, dD2, dD3, dD4, dD5, dD6⟩⟩ := HQ.out _ HB.out; cases r) | (go_at_call 63; (with_reducible refine (C63.out _ (HBW.out _ HB.out)).mono ?_); rintro e wn hm; obtain ⟨r2, code2, rfl, hw⟩ := WOp.make (HBW.out _ HB.out) hm (Nat.le_refl _); clear hm; have HW := Lib.hid hw; clear hw))
    all_goals
      refine int_ret rfl rfl ?_
      first
        | with_reducible exact HS.out _ (HBW.out _ HB.out) _
        | with_reducible exact HW.out
set_option maxRecDepth 100000 in
set_option maxHeartbeats 8000000 in
theorem twoC {S : Nat → Prop} {w : World} {t c : Nat} {bs : List Nat} {T : List (Option Nd)} {tb : Nat} {tv : Value} {l : List Mt} (hc : Ctx S w t c bs T tb tv l) (ua : Option Addr) (un uc : Nat) (cm cn : Int) (hcn : R64 cn) (cr : Cr) {R : Nat → Nat} (hi : TInv T R none) (q : Cl) (_hp : q.path.size ≤ 5000) (h9 : (q.op == 9) = false) (h11 : (q.op == 11) = false) :
    Calls Tryz.prog 39 #[Wld t tb ua un uc, Who cm cn cr, q.val] w (WOp S t (c + 3) R T w) := by
  have HC := Lib.hid (And.intro hc (And.intro hi hcn))
  clear hc hi hcn
  unfold Wld Who Cl.val
  go_enter Tryz.func39, Tryz.ntmps39
  have HS : Hid (∀ X, Below w.heap.size w X → ∀ code : Int, WOp S t (c + 3) R T w (.returned (.int .i64 code)) X) := Lib.hid fun X hX code => WOp.same HC.out.1 HC.out.2.1 (Nat.le_add_right _ _) hX code
  clear _hp
  go_upto_region 1 with fail
  refine box3g (fun W hbx hnx => ?_)
  have H1B := Lib.hid hbx
  have H1 := Lib.hid hnx
  clear hbx hnx
  generalize hC : w.heap.size + 1 + 1 = C at H1 ⊢
  generalize hB : w.heap.size + 1 = B at H1 ⊢
  obtain ⟨A, hA⟩ : ∃ A, w.heap.size = A := ⟨_, rfl⟩
  rw [hA] at H1 ⊢
  have H1E : Hid (w.heap.size = A ∧ w.heap.size + 1 = B ∧ w.heap.size + 2 = C) := Lib.hid (by omega)
  clear hA hB hC
  have HQ := Lib.hid fun (X : World) (hX : Below W.heap.size W X) => And.intro (H1.out.1.below hX).k5 (And.intro (H1.out.2.1.below hX).k4 ((H1.out.2.2.below hX).k9))
  obtain ⟨⟨e0, e1, e2, e3, e4⟩, ⟨e5, e6, e7, e8⟩, ⟨e9, e10, e11, -, -, -, -, -, -⟩⟩ := HQ.out _ (Below.refl _ _)
  have HB : Hid (Below W.heap.size W W) := Lib.hid (Below.refl _ _)
  have HBW : Hid (∀ X, Below W.heap.size W X → Below w.heap.size w X) := Lib.hid fun X hX => H1B.out.trans (hX.mono H1B.out.size)
  have C58 : Hid (∀ X, Below w.heap.size w X → Calls Tryz.prog 58 #[.agg #[.pointer (some ⟨t, 0, none⟩), .pointer (some ⟨tb, 0, none⟩), .int .i64 0, .int .i64 1, .slice ua un uc], .agg #[.int .i64 cm, .int .i64 cn, .int .i64 cr.u, .int .i64 cr.g], .string q.path, .bool false] X (WwP T X)) := Lib.hid fun X hX => wwalk_any (HC.out.1.below hX) ua un uc cm cn HC.out.2.2 cr q.path false
  have C58b : Hid (∀ X, Below w.heap.size w X → Calls Tryz.prog 58 #[.agg #[.pointer (some ⟨t, 0, none⟩), .pointer (some ⟨tb, 0, none⟩), .int .i64 0, .int .i64 1, .slice ua un uc], .agg #[.int .i64 cm, .int .i64 cn, .int .i64 cr.u, .int .i64 cr.g], .string q.dest, .bool false] X (WwP T X)) := Lib.hid fun X hX => wwalk_any (HC.out.1.below hX) ua un uc cm cn HC.out.2.2 cr q.dest false
  go_upto_region 36 with (first | (go_at_call 58; (with_reducible refine (C58.out _ (HBW.out _ HB.out)).mono ?_); rintro e wn ⟨f, code, rfl, hf, hb⟩; have HF := Lib.hid (And.intro hf (hf.r HC.out.1)); clear hf; replace HB := Lib.hid (HB.out.trans (hb.mono HB.out.size)); clear hb e0 e1 e2 e3 e4 e5 e6 e7 e8 e9 e10 e11; obtain ⟨⟨e0, e1, e2, e3, e4⟩, ⟨e5, e6, e7, e8⟩, ⟨e9, e10, e11, -, -, -, -, -, -⟩⟩ := HQ.out _ HB.out; unfold Fnd.val))
  refine box1g (fun W2 hbx hnx => ?_)
  have H11B := Lib.hid hbx
  have H11 := Lib.hid hnx
  clear hbx hnx
  obtain ⟨D, hD⟩ : ∃ D, wn.heap.size = D := ⟨_, rfl⟩
  rw [hD] at H11 ⊢
  have H11E : Hid (wn.heap.size = D) := Lib.hid (by omega)
  clear hD
  have HBB1 : Hid (Below W.heap.size W W2) := Lib.hid (HB.out.trans (H11B.out.mono HB.out.size))
  clear e0 e1 e2 e3 e4 e5 e6 e7 e8 e9 e10 e11
  replace HQ := Lib.hid fun (X : World) (hX : Below W2.heap.size W2 X) => And.intro (HQ.out X (HBB1.out.trans (hX.mono HBB1.out.size))) (H11.out.below hX).k7
  replace HBW : Hid (∀ X, Below W2.heap.size W2 X → Below w.heap.size w X) := Lib.hid fun X hX => HBW.out X (HBB1.out.trans (hX.mono HBB1.out.size))
  clear HB HBB1
  have HB : Hid (Below W2.heap.size W2 W2) := Lib.hid (Below.refl _ _)
  obtain ⟨⟨⟨e0, e1, e2, e3, e4⟩, ⟨e5, e6, e7, e8⟩, ⟨e9, e10, e11, -, -, -, -, -, -⟩⟩, ⟨dD0, dD1, dD2, dD3, dD4, dD5, dD6⟩⟩ := HQ.out _ HB.out
  go_upto_region 39 with (first | (go_at_call 58; (with_reducible refine (C58b.out _ (HBW.out _ HB.out)).mono ?_); rintro e wn ⟨g, code2, rfl, hf, hb⟩; have HG := Lib.hid (And.intro hf (hf.r HC.out.1)); clear hf; replace HB := Lib.hid (HB.out.trans (hb.mono HB.out.size)); clear hb e0 e1 e2 e3 e4 e5 e6 e7 e8 e9 e10 e11 dD0 dD1 dD2 dD3 dD4 dD5 dD6; obtain ⟨⟨⟨e0, e1, e2, e3, e4⟩, ⟨e5, e6, e7, e8⟩, ⟨e9, e10, e11, -, -, -, -, -, -⟩⟩, ⟨dD0, dD1, dD2, dD3, dD4, dD5, dD6⟩⟩ := HQ.out _ HB.out; unfold Fnd.val))
  all_goals first
    | (refine int_ret rfl rfl ?_; with_reducible exact HS.out _ (HBW.out _ HB.out) _)
    | skip
  refine box1g (fun W3 hbx hnx => ?_)
  have H12B := Lib.hid hbx
  have H12 := Lib.hid hnx
  clear hbx hnx
  obtain ⟨E, hE⟩ : ∃ E, wn.heap.size = E := ⟨_, rfl⟩
  rw [hE] at H12 ⊢
  have H12E : Hid (wn.heap.size = E) := Lib.hid (by omega)
  clear hE
  have HBB2 : Hid (Below W2.heap.size W2 W3) := Lib.hid (HB.out.trans (H12B.out.mono HB.out.size))
  clear e0 e1 e2 e3 e4 e5 e6 e7 e8 e9 e10 e11 dD0 dD1 dD2 dD3 dD4 dD5 dD6
  replace HQ := Lib.hid fun (X : World) (hX : Below W3.heap.size W3 X) => And.intro (HQ.out X (HBB2.out.trans (hX.mono HBB2.out.size))) (H12.out.below hX).k7
  replace HBW : Hid (∀ X, Below W3.heap.size W3 X → Below w.heap.size w X) := Lib.hid fun X hX => HBW.out X (HBB2.out.trans (hX.mono HBB2.out.size))
  clear HB HBB2
  have HB : Hid (Below W3.heap.size W3 W3) := Lib.hid (Below.refl _ _)
  obtain ⟨⟨⟨⟨e0, e1, e2, e3, e4⟩, ⟨e5, e6, e7, e8⟩, ⟨e9, e10, e11, -, -, -, -, -, -⟩⟩, ⟨dD0, dD1, dD2, dD3, dD4, dD5, dD6⟩⟩, ⟨dE0, dE1, dE2, dE3, dE4, dE5, dE6⟩⟩ := HQ.out _ HB.out
  have C64 : Hid (∀ X, Below w.heap.size w X → Calls Tryz.prog 64 #[.agg #[.pointer (some ⟨t, 0, none⟩), .pointer (some ⟨tb, 0, none⟩), .int .i64 0, .int .i64 1, .slice ua un uc], .agg #[.int .i64 cm, .int .i64 cn, .int .i64 cr.u, .int .i64 cr.g], .agg #[.int .i64 f.dm, .int .i64 f.dn, .string f.last, .int .i64 f.am, .int .i64 f.an, .bool f.has, .bool f.slash], .agg #[.int .i64 g.dm, .int .i64 g.dn, .string g.last, .int .i64 g.am, .int .i64 g.an, .bool g.has, .bool g.slash]] X (WOp S t (c + 3) R T X)) := Lib.hid fun X hX => rename_any (HC.out.1.below hX) ua un uc cm cn HC.out.2.2 cr HC.out.2.1 f g HF.out.1 HG.out.1
  go_wp2_with (first | (go_at_call 64; (with_reducible refine (C64.out _ (HBW.out _ HB.out)).mono ?_); rintro e wn hm; obtain ⟨code3, rfl, hw⟩ := WOp.below (HBW.out _ HB.out) hm; clear hm; have HW := Lib.hid hw; clear hw))
  all_goals
    refine int_ret rfl rfl ?_
    first
      | with_reducible exact HS.out _ (HBW.out _ HB.out) _
      | with_reducible exact HW.out
theorem two_any {S : Nat → Prop} {w : World} {t c : Nat} {bs : List Nat} {T : List (Option Nd)} {tb : Nat} {tv : Value} {l : List Mt} (hc : Ctx S w t c bs T tb tv l) (ua : Option Addr) (un uc : Nat) (cm cn : Int) (hcn : R64 cn) (cr : Cr) {R : Nat → Nat} (hi : TInv T R none) (q : Cl) (hp : q.path.size ≤ 5000) :
    Calls Tryz.prog 39 #[Wld t tb ua un uc, Who cm cn cr, q.val] w (WOp S t (c + 3) R T w) := by
  cases h9 : (q.op == 9)
  · cases h11 : (q.op == 11)
    · exact twoC hc ua un uc cm cn hcn cr hi q hp h9 h11
    · exact twoB hc ua un uc cm cn hcn cr hi q hp h9 h11
  · exact twoA hc ua un uc cm cn hcn cr hi q hp h9
end Go.Proofs.YtfjghemojnhmbaaGreat
