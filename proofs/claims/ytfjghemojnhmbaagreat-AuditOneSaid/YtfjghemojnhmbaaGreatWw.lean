/- The world of chapter 13: Info, Chmod, Chown, Truncate. -/
import Derived.Test.YtfjghemojnhmbaaGreatWs
import Derived.Test.YtfjghemojnhmbaaGreatWt
namespace Go.Proofs.YtfjghemojnhmbaaGreat
open Go.RowKit

attribute [local go_sem ↓] run_field38 run_field38s run_conv
set_option maxRecDepth 100000 in
set_option maxHeartbeats 8000000 in
theorem asks14 {S : Nat → Prop} {w : World} {t c : Nat} {bs : List Nat} {T : List (Option Nd)} {tb : Nat} {tv : Value} {l : List Mt} (hc : Ctx S w t c bs T tb tv l) (ua : Option Addr) (un uc : Nat) (cm cn : Int) (hcn : R64 cn) (cr : Cr) {R : Nat → Nat} (hi : TInv T R none) (q : Cl)  :
    Calls Tryz.prog 42 #[Wld t tb ua un uc, Who cm cn cr, .agg #[.int .i64 14, .string q.path, .string q.dest, .int .i64 q.fd, .int .i64 q.flags, .int .i64 q.mode, .int .i64 q.n, .int .i64 q.m, .slice q.da q.dl q.dc]] w (AskP S t (c + 3) R T 14 w) := by
  have HC := Lib.hid (And.intro hc (And.intro hi hcn))
  clear hc hi hcn
  unfold Wld Who
  go_enter Tryz.func42, Tryz.ntmps42
  go_upto_region 1 with fail
  refine box5g (fun W hbx hnx => ?_)
  have H1B := Lib.hid hbx
  have H1 := Lib.hid hnx
  clear hbx hnx
  generalize hF : w.heap.size + 1 + 1 + 1 + 1 = F at H1 ⊢
  generalize hE : w.heap.size + 1 + 1 + 1 = E at H1 ⊢
  generalize hC : w.heap.size + 1 + 1 = C at H1 ⊢
  generalize hB : w.heap.size + 1 = B at H1 ⊢
  obtain ⟨A, hA⟩ : ∃ A, w.heap.size = A := ⟨_, rfl⟩
  rw [hA] at H1 ⊢
  have H1E : Hid (w.heap.size = A ∧ w.heap.size + 1 = B ∧ w.heap.size + 2 = C ∧ w.heap.size + 3 = E ∧ w.heap.size + 4 = F) := Lib.hid (by omega)
  clear hA hB hC hE hF
  have HQ := Lib.hid fun (X : World) (hX : Below W.heap.size W X) => And.intro (H1.out.1.below hX).k5 (And.intro (H1.out.2.1.below hX).k4 (And.intro (H1.out.2.2.1.below hX).k9 (And.intro (H1.out.2.2.2.1.below hX).k11 (And.intro (H1.out.2.2.2.2.below hX).k2 (And.intro (H1.out.2.2.2.1.below hX).free ((H1.out.2.2.2.2.below hX).free))))))
  obtain ⟨⟨e0, e1, e2, e3, e4⟩, ⟨e5, e6, e7, e8⟩, ⟨e9, e10, -, -, e11, -, -, -, -⟩, ⟨e12, e13, e14, e15, e16, e17, e18, e19, e20, e21, e22⟩, ⟨e23, e24⟩, e25, e26⟩ := HQ.out _ (Below.refl _ _)
  have HB : Hid (Below W.heap.size W W) := Lib.hid (Below.refl _ _)
  have HBW : Hid (∀ X, Below W.heap.size W X → Below w.heap.size w X) := Lib.hid fun X hX => H1B.out.trans (hX.mono H1B.out.size)
  have HEF : Hid (Blk W E 40 rz ∧ Blk W F 75 #[.int .i64 0, .int .i64 0] ∧ w.heap.size ≤ E ∧ w.heap.size ≤ F ∧ E ≠ F) := Lib.hid ⟨H1.out.2.2.2.1, H1.out.2.2.2.2, by have := H1E.out; omega, by have := H1E.out; omega, by have := H1E.out; omega⟩
  have nFE : ¬ F = E := by have := H1E.out; omega
  have nEF : ¬ E = F := by have := H1E.out; omega
  have HBZ : Hid (∀ X, Below W.heap.size W X → Below w.heap.size w X) := HBW
  have HWW : Hid (∀ X, Below W.heap.size W X → Below W.heap.size W X) := Lib.hid fun X hX => hX
  have HNo : Hid (∀ X, Below W.heap.size W X → ∀ (tm : Array Value) (code : Int), code ≠ 0 → tm.getD 6 undef = .pointer (some ⟨E, 0, none⟩) → tm.getD 7 undef = .pointer (some ⟨F, 0, none⟩) → bodyPost Tryz.prog Tryz.f42 (AskP S t (c + 3) R T 14 w) .ret ⟨tm, []⟩ (pl2 (res11 X E (.int .i64 code) (.int .i64 0) (.slice none 0 0) (.slice none 0 0) (.int .i64 0) (.int .i64 0) (.int .i64 0) (.int .i64 0) (.int .i64 0) (.int .i64 0) (.int .i64 0)) F (.int .i64 0) (.int .i64 0))) := Lib.hid fun X hX tm code hcode h4 h5 =>
    ask_fin (Res.no code) (.slice none 0 0) (.slice none 0 0) rfl ((TStep.same HC.out.1.tr (HBZ.out X hX)).mono (Nat.le_add_right c 3)) HC.out.2.1 (KK.refl T) (HEF.out.1.below hX) (HEF.out.2.1.below hX) HEF.out.2.2.1 HEF.out.2.2.2.1 HEF.out.2.2.2.2 (.inl ⟨rfl, rfl, rfl, rfl⟩) ⟨off_nil _, off_nil _, off_nil _, off_nil _⟩ (fld_no (.inl hcode)) (fun _ h => absurd h hcode) h4 h5
  unfold res11 pl2 at HNo
  have C65 : Hid (∀ X, Below w.heap.size w X → ∀ fo : Bool, Calls Tryz.prog 65 #[.agg #[.pointer (some ⟨t, 0, none⟩), .pointer (some ⟨tb, 0, none⟩), .int .i64 0, .int .i64 1, .slice ua un uc], .agg #[.int .i64 cm, .int .i64 cn, .int .i64 cr.u, .int .i64 cr.g], .string q.path, .bool fo] X (WtP T X)) := Lib.hid fun X hX fo => there_any (HC.out.1.below hX) ua un uc cm cn HC.out.2.2 cr q.path fo
  go_upto_region 3 with (first | (go_at_call 65; (with_reducible refine (C65.out _ (HBW.out _ HB.out) _).mono ?_); rintro e wn ⟨f, code, rfl, hf, h0, hb⟩; have HF := Lib.hid (And.intro hf (And.intro (hf.r HC.out.1) h0)); clear hf h0; replace HB := Lib.hid (HB.out.trans (hb.mono HB.out.size)); clear hb e0 e1 e2 e3 e4 e5 e6 e7 e8 e9 e10 e11 e12 e13 e14 e15 e16 e17 e18 e19 e20 e21 e22 e23 e24 e25 e26; obtain ⟨⟨e0, e1, e2, e3, e4⟩, ⟨e5, e6, e7, e8⟩, ⟨e9, e10, -, -, e11, -, -, -, -⟩, ⟨e12, e13, e14, e15, e16, e17, e18, e19, e20, e21, e22⟩, ⟨e23, e24⟩, e25, e26⟩ := HQ.out _ HB.out; unfold Fnd.val))
  have C38 : Hid (∀ (n : Int) (X : World), Calls Tryz.prog 38 #[.int .i64 n] X fun e w' => e = .returned (.agg #[.int .i64 n, .int .i64 0, .slice none 0 0, .slice none 0 0, .int .i64 0, .int .i64 0, .int .i64 0, .int .i64 0, .int .i64 0, .int .i64 0, .int .i64 0]) ∧ Below X.heap.size X w') := Lib.hid no13_any
  refine box1g (fun W2 hbx hnx => ?_)
  have H11B := Lib.hid hbx
  have H11 := Lib.hid hnx
  clear hbx hnx
  obtain ⟨D, hD⟩ : ∃ D, wn.heap.size = D := ⟨_, rfl⟩
  rw [hD] at H11 ⊢
  have H11E : Hid (wn.heap.size = D) := Lib.hid (by omega)
  clear hD
  have HBB1 : Hid (Below W.heap.size W W2) := Lib.hid (HB.out.trans (H11B.out.mono HB.out.size))
  clear e0 e1 e2 e3 e4 e5 e6 e7 e8 e9 e10 e11 e12 e13 e14 e15 e16 e17 e18 e19 e20 e21 e22 e23 e24 e25 e26
  replace HQ := Lib.hid fun (X : World) (hX : Below W2.heap.size W2 X) => And.intro (HQ.out X (HBB1.out.trans (hX.mono HBB1.out.size))) (H11.out.below hX).k7
  replace HBW : Hid (∀ X, Below W2.heap.size W2 X → Below w.heap.size w X) := Lib.hid fun X hX => HBW.out X (HBB1.out.trans (hX.mono HBB1.out.size))
  have HZD : Hid (W.heap.size ≤ D) := Lib.hid (by have h1 := (HWW.out _ HB.out).size; have h2 := H11E.out; omega)
  replace HWW : Hid (∀ X, Below W2.heap.size W2 X → Below W.heap.size W X) := Lib.hid fun X hX => HWW.out X (HBB1.out.trans (hX.mono HBB1.out.size))
  clear HB HBB1
  have HB : Hid (Below W2.heap.size W2 W2) := Lib.hid (Below.refl _ _)
  obtain ⟨⟨⟨e0, e1, e2, e3, e4⟩, ⟨e5, e6, e7, e8⟩, ⟨e9, e10, -, -, e11, -, -, -, -⟩, ⟨e12, e13, e14, e15, e16, e17, e18, e19, e20, e21, e22⟩, ⟨e23, e24⟩, e25, e26⟩, ⟨dD0, dD1, dD2, dD3, dD4, dD5, dD6⟩⟩ := HQ.out _ HB.out
  by_cases h0 : code = 0
  case neg =>
    go_wp2_with (first | (go_at_call 38; (with_reducible refine (C38.out _ _).mono ?_); rintro e wn ⟨rfl, hb⟩; replace HB := Lib.hid (HB.out.trans (hb.mono HB.out.size)); clear hb e0 e1 e2 e3 e4 e5 e6 e7 e8 e9 e10 e11 e12 e13 e14 e15 e16 e17 e18 e19 e20 e21 e22 e23 e24 e25 e26 dD0 dD1 dD2 dD3 dD4 dD5 dD6; obtain ⟨⟨⟨e0, e1, e2, e3, e4⟩, ⟨e5, e6, e7, e8⟩, ⟨e9, e10, -, -, e11, -, -, -, -⟩, ⟨e12, e13, e14, e15, e16, e17, e18, e19, e20, e21, e22⟩, ⟨e23, e24⟩, e25, e26⟩, ⟨dD0, dD1, dD2, dD3, dD4, dD5, dD6⟩⟩ := HQ.out _ HB.out))
    with_reducible exact HNo.out _ (HWW.out _ HB.out) _ _ h0 rfl rfl
  subst h0
  have HH := Lib.hid (HF.out.2.2 rfl)
  have C59 : Hid (∀ X, Below w.heap.size w X → Calls Tryz.prog 59 #[.agg #[.pointer (some ⟨t, 0, none⟩), .pointer (some ⟨tb, 0, none⟩), .int .i64 0, .int .i64 1, .slice ua un uc], .agg #[.int .i64 f.am, .int .i64 f.an]] X (WsP T f.an X)) := Lib.hid fun X hX => wstat_any (HC.out.1.below hX) ua un uc f.am f.an (HF.out.2.1.2 HH.out)
  go_upto_region 6 with (first | (go_at_call 59; (with_reducible refine (C59.out _ (HBW.out _ HB.out)).mono ?_); rintro e wn ⟨s, rfl, hs, hb⟩; have HS := Lib.hid hs; clear hs; replace HB := Lib.hid (HB.out.trans (hb.mono HB.out.size)); clear hb e0 e1 e2 e3 e4 e5 e6 e7 e8 e9 e10 e11 e12 e13 e14 e15 e16 e17 e18 e19 e20 e21 e22 e23 e24 e25 e26 dD0 dD1 dD2 dD3 dD4 dD5 dD6; obtain ⟨⟨⟨e0, e1, e2, e3, e4⟩, ⟨e5, e6, e7, e8⟩, ⟨e9, e10, -, -, e11, -, -, -, -⟩, ⟨e12, e13, e14, e15, e16, e17, e18, e19, e20, e21, e22⟩, ⟨e23, e24⟩, e25, e26⟩, ⟨dD0, dD1, dD2, dD3, dD4, dD5, dD6⟩⟩ := HQ.out _ HB.out; unfold Stt.val))
  refine box1g (fun W3 hbx hnx => ?_)
  have H12B := Lib.hid hbx
  have H12 := Lib.hid hnx
  clear hbx hnx
  obtain ⟨G, hG⟩ : ∃ G, wn.heap.size = G := ⟨_, rfl⟩
  rw [hG] at H12 ⊢
  have H12E : Hid (wn.heap.size = G) := Lib.hid (by omega)
  clear hG
  have HBB2 : Hid (Below W2.heap.size W2 W3) := Lib.hid (HB.out.trans (H12B.out.mono HB.out.size))
  clear e0 e1 e2 e3 e4 e5 e6 e7 e8 e9 e10 e11 e12 e13 e14 e15 e16 e17 e18 e19 e20 e21 e22 e23 e24 e25 e26 dD0 dD1 dD2 dD3 dD4 dD5 dD6
  replace HQ := Lib.hid fun (X : World) (hX : Below W3.heap.size W3 X) => And.intro (HQ.out X (HBB2.out.trans (hX.mono HBB2.out.size))) (H12.out.below hX).k7
  replace HBW : Hid (∀ X, Below W3.heap.size W3 X → Below w.heap.size w X) := Lib.hid fun X hX => HBW.out X (HBB2.out.trans (hX.mono HBB2.out.size))
  have HZG : Hid (W.heap.size ≤ G) := Lib.hid (by have h1 := (HWW.out _ HB.out).size; have h2 := H12E.out; omega)
  replace HWW : Hid (∀ X, Below W3.heap.size W3 X → Below W.heap.size W X) := Lib.hid fun X hX => HWW.out X (HBB2.out.trans (hX.mono HBB2.out.size))
  clear HB HBB2
  have HB : Hid (Below W3.heap.size W3 W3) := Lib.hid (Below.refl _ _)
  obtain ⟨⟨⟨⟨e0, e1, e2, e3, e4⟩, ⟨e5, e6, e7, e8⟩, ⟨e9, e10, -, -, e11, -, -, -, -⟩, ⟨e12, e13, e14, e15, e16, e17, e18, e19, e20, e21, e22⟩, ⟨e23, e24⟩, e25, e26⟩, ⟨dD0, dD1, dD2, dD3, dD4, dD5, dD6⟩⟩, ⟨dG0, dG1, dG2, dG3, dG4, dG5, dG6⟩⟩ := HQ.out _ HB.out
  have HWH : Hid (∀ X, Below W3.heap.size W3 X → Below W.heap.size W X) := HWW
  have HX := Lib.hid (fun (tm : Array Value) (h4 : tm.getD 6 undef = .pointer (some ⟨E, 0, none⟩)) (h5 : tm.getD 7 undef = .pointer (some ⟨F, 0, none⟩)) =>
      ask_fin (op := 14) (m := 0) (n := 0) (fn := Tryz.f42) (c := c + 3) (R := R) ⟨0, 0, s.node, s.kind, s.mode, s.uid, s.gid, s.links, s.size, [], []⟩ (.slice none 0 0) (.slice none 0 0) rfl ((TStep.same HC.out.1.tr (HBW.out _ HB.out)).mono (Nat.le_add_right c 3)) HC.out.2.1 (KK.refl T) (HEF.out.1.below (HWW.out _ HB.out)) (HEF.out.2.1.below (HWW.out _ HB.out)) HEF.out.2.2.1 HEF.out.2.2.2.1 HEF.out.2.2.2.2
        (.inl ⟨rfl, rfl, rfl, rfl⟩) (⟨off_nil _, off_nil _, off_nil _, off_nil _⟩) (fld_info HC.out.1 HS.out (HF.out.1.at_ HH.out).2.2) (fun h => by cases h) h4 h5)
  unfold res11 pl2 at HX
  dsimp only [Res.zero] at HX
  go_wp2_with fail
  with_reducible exact HX.out _ rfl rfl
set_option maxRecDepth 100000 in
set_option maxHeartbeats 8000000 in
theorem asks15 {S : Nat → Prop} {w : World} {t c : Nat} {bs : List Nat} {T : List (Option Nd)} {tb : Nat} {tv : Value} {l : List Mt} (hc : Ctx S w t c bs T tb tv l) (ua : Option Addr) (un uc : Nat) (cm cn : Int) (hcn : R64 cn) (cr : Cr) {R : Nat → Nat} (hi : TInv T R none) (q : Cl)  :
    Calls Tryz.prog 42 #[Wld t tb ua un uc, Who cm cn cr, .agg #[.int .i64 15, .string q.path, .string q.dest, .int .i64 q.fd, .int .i64 q.flags, .int .i64 q.mode, .int .i64 q.n, .int .i64 q.m, .slice q.da q.dl q.dc]] w (AskP S t (c + 3) R T 15 w) := by
  have HC := Lib.hid (And.intro hc (And.intro hi hcn))
  clear hc hi hcn
  unfold Wld Who
  go_enter Tryz.func42, Tryz.ntmps42
  go_upto_region 1 with fail
  refine box5g (fun W hbx hnx => ?_)
  have H1B := Lib.hid hbx
  have H1 := Lib.hid hnx
  clear hbx hnx
  generalize hF : w.heap.size + 1 + 1 + 1 + 1 = F at H1 ⊢
  generalize hE : w.heap.size + 1 + 1 + 1 = E at H1 ⊢
  generalize hC : w.heap.size + 1 + 1 = C at H1 ⊢
  generalize hB : w.heap.size + 1 = B at H1 ⊢
  obtain ⟨A, hA⟩ : ∃ A, w.heap.size = A := ⟨_, rfl⟩
  rw [hA] at H1 ⊢
  have H1E : Hid (w.heap.size = A ∧ w.heap.size + 1 = B ∧ w.heap.size + 2 = C ∧ w.heap.size + 3 = E ∧ w.heap.size + 4 = F) := Lib.hid (by omega)
  clear hA hB hC hE hF
  have HQ := Lib.hid fun (X : World) (hX : Below W.heap.size W X) => And.intro (H1.out.1.below hX).k5 (And.intro (H1.out.2.1.below hX).k4 (And.intro (H1.out.2.2.1.below hX).k9 (And.intro (H1.out.2.2.2.1.below hX).k11 (And.intro (H1.out.2.2.2.2.below hX).k2 (And.intro (H1.out.2.2.2.1.below hX).free ((H1.out.2.2.2.2.below hX).free))))))
  obtain ⟨⟨e0, e1, e2, e3, e4⟩, ⟨e5, e6, e7, e8⟩, ⟨e9, e10, -, -, -, e11, -, -, -⟩, ⟨e12, e13, e14, e15, e16, e17, e18, e19, e20, e21, e22⟩, ⟨e23, e24⟩, e25, e26⟩ := HQ.out _ (Below.refl _ _)
  have HB : Hid (Below W.heap.size W W) := Lib.hid (Below.refl _ _)
  have HBW : Hid (∀ X, Below W.heap.size W X → Below w.heap.size w X) := Lib.hid fun X hX => H1B.out.trans (hX.mono H1B.out.size)
  have HEF : Hid (Blk W E 40 rz ∧ Blk W F 75 #[.int .i64 0, .int .i64 0] ∧ w.heap.size ≤ E ∧ w.heap.size ≤ F ∧ E ≠ F) := Lib.hid ⟨H1.out.2.2.2.1, H1.out.2.2.2.2, by have := H1E.out; omega, by have := H1E.out; omega, by have := H1E.out; omega⟩
  have nFE : ¬ F = E := by have := H1E.out; omega
  have nEF : ¬ E = F := by have := H1E.out; omega
  have HBZ : Hid (∀ X, Below W.heap.size W X → Below w.heap.size w X) := HBW
  have HWW : Hid (∀ X, Below W.heap.size W X → Below W.heap.size W X) := Lib.hid fun X hX => hX
  have HNo : Hid (∀ X, Below W.heap.size W X → ∀ (tm : Array Value) (code : Int), code ≠ 0 → tm.getD 6 undef = .pointer (some ⟨E, 0, none⟩) → tm.getD 7 undef = .pointer (some ⟨F, 0, none⟩) → bodyPost Tryz.prog Tryz.f42 (AskP S t (c + 3) R T 15 w) .ret ⟨tm, []⟩ (pl2 (res11 X E (.int .i64 code) (.int .i64 0) (.slice none 0 0) (.slice none 0 0) (.int .i64 0) (.int .i64 0) (.int .i64 0) (.int .i64 0) (.int .i64 0) (.int .i64 0) (.int .i64 0)) F (.int .i64 0) (.int .i64 0))) := Lib.hid fun X hX tm code hcode h4 h5 =>
    ask_fin (Res.no code) (.slice none 0 0) (.slice none 0 0) rfl ((TStep.same HC.out.1.tr (HBZ.out X hX)).mono (Nat.le_add_right c 3)) HC.out.2.1 (KK.refl T) (HEF.out.1.below hX) (HEF.out.2.1.below hX) HEF.out.2.2.1 HEF.out.2.2.2.1 HEF.out.2.2.2.2 (.inl ⟨rfl, rfl, rfl, rfl⟩) ⟨off_nil _, off_nil _, off_nil _, off_nil _⟩ (fld_no (.inl hcode)) (fun _ h => absurd h hcode) h4 h5
  unfold res11 pl2 at HNo
  have C65 : Hid (∀ X, Below w.heap.size w X → ∀ fo : Bool, Calls Tryz.prog 65 #[.agg #[.pointer (some ⟨t, 0, none⟩), .pointer (some ⟨tb, 0, none⟩), .int .i64 0, .int .i64 1, .slice ua un uc], .agg #[.int .i64 cm, .int .i64 cn, .int .i64 cr.u, .int .i64 cr.g], .string q.path, .bool fo] X (WtP T X)) := Lib.hid fun X hX fo => there_any (HC.out.1.below hX) ua un uc cm cn HC.out.2.2 cr q.path fo
  go_upto_region 3 with (first | (go_at_call 65; (with_reducible refine (C65.out _ (HBW.out _ HB.out) _).mono ?_); rintro e wn ⟨f, code, rfl, hf, h0, hb⟩; have HF := Lib.hid (And.intro hf (And.intro (hf.r HC.out.1) h0)); clear hf h0; replace HB := Lib.hid (HB.out.trans (hb.mono HB.out.size)); clear hb e0 e1 e2 e3 e4 e5 e6 e7 e8 e9 e10 e11 e12 e13 e14 e15 e16 e17 e18 e19 e20 e21 e22 e23 e24 e25 e26; obtain ⟨⟨e0, e1, e2, e3, e4⟩, ⟨e5, e6, e7, e8⟩, ⟨e9, e10, -, -, -, e11, -, -, -⟩, ⟨e12, e13, e14, e15, e16, e17, e18, e19, e20, e21, e22⟩, ⟨e23, e24⟩, e25, e26⟩ := HQ.out _ HB.out; unfold Fnd.val))
  have C38 : Hid (∀ (n : Int) (X : World), Calls Tryz.prog 38 #[.int .i64 n] X fun e w' => e = .returned (.agg #[.int .i64 n, .int .i64 0, .slice none 0 0, .slice none 0 0, .int .i64 0, .int .i64 0, .int .i64 0, .int .i64 0, .int .i64 0, .int .i64 0, .int .i64 0]) ∧ Below X.heap.size X w') := Lib.hid no13_any
  refine box1g (fun W2 hbx hnx => ?_)
  have H11B := Lib.hid hbx
  have H11 := Lib.hid hnx
  clear hbx hnx
  obtain ⟨D, hD⟩ : ∃ D, wn.heap.size = D := ⟨_, rfl⟩
  rw [hD] at H11 ⊢
  have H11E : Hid (wn.heap.size = D) := Lib.hid (by omega)
  clear hD
  have HBB1 : Hid (Below W.heap.size W W2) := Lib.hid (HB.out.trans (H11B.out.mono HB.out.size))
  clear e0 e1 e2 e3 e4 e5 e6 e7 e8 e9 e10 e11 e12 e13 e14 e15 e16 e17 e18 e19 e20 e21 e22 e23 e24 e25 e26
  replace HQ := Lib.hid fun (X : World) (hX : Below W2.heap.size W2 X) => And.intro (HQ.out X (HBB1.out.trans (hX.mono HBB1.out.size))) (H11.out.below hX).k7
  replace HBW : Hid (∀ X, Below W2.heap.size W2 X → Below w.heap.size w X) := Lib.hid fun X hX => HBW.out X (HBB1.out.trans (hX.mono HBB1.out.size))
  have HZD : Hid (W.heap.size ≤ D) := Lib.hid (by have h1 := (HWW.out _ HB.out).size; have h2 := H11E.out; omega)
  replace HWW : Hid (∀ X, Below W2.heap.size W2 X → Below W.heap.size W X) := Lib.hid fun X hX => HWW.out X (HBB1.out.trans (hX.mono HBB1.out.size))
  clear HB HBB1
  have HB : Hid (Below W2.heap.size W2 W2) := Lib.hid (Below.refl _ _)
  obtain ⟨⟨⟨e0, e1, e2, e3, e4⟩, ⟨e5, e6, e7, e8⟩, ⟨e9, e10, -, -, -, e11, -, -, -⟩, ⟨e12, e13, e14, e15, e16, e17, e18, e19, e20, e21, e22⟩, ⟨e23, e24⟩, e25, e26⟩, ⟨dD0, dD1, dD2, dD3, dD4, dD5, dD6⟩⟩ := HQ.out _ HB.out
  by_cases h0 : code = 0
  case neg =>
    go_wp2_with (first | (go_at_call 38; (with_reducible refine (C38.out _ _).mono ?_); rintro e wn ⟨rfl, hb⟩; replace HB := Lib.hid (HB.out.trans (hb.mono HB.out.size)); clear hb e0 e1 e2 e3 e4 e5 e6 e7 e8 e9 e10 e11 e12 e13 e14 e15 e16 e17 e18 e19 e20 e21 e22 e23 e24 e25 e26 dD0 dD1 dD2 dD3 dD4 dD5 dD6; obtain ⟨⟨⟨e0, e1, e2, e3, e4⟩, ⟨e5, e6, e7, e8⟩, ⟨e9, e10, -, -, -, e11, -, -, -⟩, ⟨e12, e13, e14, e15, e16, e17, e18, e19, e20, e21, e22⟩, ⟨e23, e24⟩, e25, e26⟩, ⟨dD0, dD1, dD2, dD3, dD4, dD5, dD6⟩⟩ := HQ.out _ HB.out))
    with_reducible exact HNo.out _ (HWW.out _ HB.out) _ _ h0 rfl rfl
  subst h0
  have HH := Lib.hid (HF.out.2.2 rfl)
  have C59 : Hid (∀ X, Below w.heap.size w X → Calls Tryz.prog 59 #[.agg #[.pointer (some ⟨t, 0, none⟩), .pointer (some ⟨tb, 0, none⟩), .int .i64 0, .int .i64 1, .slice ua un uc], .agg #[.int .i64 f.am, .int .i64 f.an]] X (WsP T f.an X)) := Lib.hid fun X hX => wstat_any (HC.out.1.below hX) ua un uc f.am f.an (HF.out.2.1.2 HH.out)
  go_upto_region 6 with (first | (go_at_call 59; (with_reducible refine (C59.out _ (HBW.out _ HB.out)).mono ?_); rintro e wn ⟨s, rfl, hs, hb⟩; have HS := Lib.hid hs; clear hs; replace HB := Lib.hid (HB.out.trans (hb.mono HB.out.size)); clear hb e0 e1 e2 e3 e4 e5 e6 e7 e8 e9 e10 e11 e12 e13 e14 e15 e16 e17 e18 e19 e20 e21 e22 e23 e24 e25 e26 dD0 dD1 dD2 dD3 dD4 dD5 dD6; obtain ⟨⟨⟨e0, e1, e2, e3, e4⟩, ⟨e5, e6, e7, e8⟩, ⟨e9, e10, -, -, -, e11, -, -, -⟩, ⟨e12, e13, e14, e15, e16, e17, e18, e19, e20, e21, e22⟩, ⟨e23, e24⟩, e25, e26⟩, ⟨dD0, dD1, dD2, dD3, dD4, dD5, dD6⟩⟩ := HQ.out _ HB.out; unfold Stt.val))
  refine box1g (fun W3 hbx hnx => ?_)
  have H12B := Lib.hid hbx
  have H12 := Lib.hid hnx
  clear hbx hnx
  obtain ⟨G, hG⟩ : ∃ G, wn.heap.size = G := ⟨_, rfl⟩
  rw [hG] at H12 ⊢
  have H12E : Hid (wn.heap.size = G) := Lib.hid (by omega)
  clear hG
  have HBB2 : Hid (Below W2.heap.size W2 W3) := Lib.hid (HB.out.trans (H12B.out.mono HB.out.size))
  clear e0 e1 e2 e3 e4 e5 e6 e7 e8 e9 e10 e11 e12 e13 e14 e15 e16 e17 e18 e19 e20 e21 e22 e23 e24 e25 e26 dD0 dD1 dD2 dD3 dD4 dD5 dD6
  replace HQ := Lib.hid fun (X : World) (hX : Below W3.heap.size W3 X) => And.intro (HQ.out X (HBB2.out.trans (hX.mono HBB2.out.size))) (H12.out.below hX).k7
  replace HBW : Hid (∀ X, Below W3.heap.size W3 X → Below w.heap.size w X) := Lib.hid fun X hX => HBW.out X (HBB2.out.trans (hX.mono HBB2.out.size))
  have HZG : Hid (W.heap.size ≤ G) := Lib.hid (by have h1 := (HWW.out _ HB.out).size; have h2 := H12E.out; omega)
  replace HWW : Hid (∀ X, Below W3.heap.size W3 X → Below W.heap.size W X) := Lib.hid fun X hX => HWW.out X (HBB2.out.trans (hX.mono HBB2.out.size))
  clear HB HBB2
  have HB : Hid (Below W3.heap.size W3 W3) := Lib.hid (Below.refl _ _)
  obtain ⟨⟨⟨⟨e0, e1, e2, e3, e4⟩, ⟨e5, e6, e7, e8⟩, ⟨e9, e10, -, -, -, e11, -, -, -⟩, ⟨e12, e13, e14, e15, e16, e17, e18, e19, e20, e21, e22⟩, ⟨e23, e24⟩, e25, e26⟩, ⟨dD0, dD1, dD2, dD3, dD4, dD5, dD6⟩⟩, ⟨dG0, dG1, dG2, dG3, dG4, dG5, dG6⟩⟩ := HQ.out _ HB.out
  have HWH : Hid (∀ X, Below W3.heap.size W3 X → Below W.heap.size W X) := HWW
  have C72 : Hid (∀ X : World, Calls Tryz.prog 72 #[.agg #[.int .i64 cr.u, .int .i64 cr.g], .agg #[.int .i64 s.node, .int .i64 s.kind, .int .i64 s.mode, .int .i64 s.uid, .int .i64 s.gid, .int .i64 s.links, .int .i64 s.size]] X (SomeB X)) := Lib.hid (fun X => owns_any cr s X)
  have C73 : Hid (∀ X, Below w.heap.size w X → Calls Tryz.prog 73 #[.pointer (some ⟨t, 0, none⟩), .int .i64 f.an, .int .i64 q.mode] X fun e w' => ∃ code : Int, e = .returned (.int .i64 code) ∧ WOp S t (c + 3) R T X (.returned (.int .i64 code)) w') := Lib.hid fun X hX => ctx_setmode (HC.out.1.below hX) HC.out.2.1 f.an (HF.out.2.1.2 HH.out) q.mode
  go_wp2_with (first | (go_at_call 72; (with_reducible refine (C72.out _).mono ?_); rintro e wn ⟨⟨r, rfl⟩, hb⟩; replace HB := Lib.hid (HB.out.trans (hb.mono HB.out.size)); clear hb e0 e1 e2 e3 e4 e5 e6 e7 e8 e9 e10 e11 e12 e13 e14 e15 e16 e17 e18 e19 e20 e21 e22 e23 e24 e25 e26 dD0 dD1 dD2 dD3 dD4 dD5 dD6 dG0 dG1 dG2 dG3 dG4 dG5 dG6; obtain ⟨⟨⟨⟨e0, e1, e2, e3, e4⟩, ⟨e5, e6, e7, e8⟩, ⟨e9, e10, -, -, -, e11, -, -, -⟩, ⟨e12, e13, e14, e15, e16, e17, e18, e19, e20, e21, e22⟩, ⟨e23, e24⟩, e25, e26⟩, ⟨dD0, dD1, dD2, dD3, dD4, dD5, dD6⟩⟩, ⟨dG0, dG1, dG2, dG3, dG4, dG5, dG6⟩⟩ := HQ.out _ HB.out; cases r) | (go_at_call 73; (with_reducible refine (C73.out _ (HBW.out _ HB.out)).mono ?_); rintro e wn ⟨code2, rfl, hw⟩; have HM := Lib.hid hw; clear hw; have HBM := Lib.hid HB.out; clear HB e0 e1 e2 e3 e4 e5 e6 e7 e8 e9 e10 e11 e12 e13 e14 e15 e16 e17 e18 e19 e20 e21 e22 e23 e24 e25 e26 dD0 dD1 dD2 dD3 dD4 dD5 dD6 dG0 dG1 dG2 dG3 dG4 dG5 dG6) | (go_at_call 38; (with_reducible refine (C38.out _ _).mono ?_); rintro e wn ⟨rfl, hb⟩; replace HB := Lib.hid (HB.out.trans (hb.mono HB.out.size)); clear hb e0 e1 e2 e3 e4 e5 e6 e7 e8 e9 e10 e11 e12 e13 e14 e15 e16 e17 e18 e19 e20 e21 e22 e23 e24 e25 e26 dD0 dD1 dD2 dD3 dD4 dD5 dD6 dG0 dG1 dG2 dG3 dG4 dG5 dG6; obtain ⟨⟨⟨⟨e0, e1, e2, e3, e4⟩, ⟨e5, e6, e7, e8⟩, ⟨e9, e10, -, -, -, e11, -, -, -⟩, ⟨e12, e13, e14, e15, e16, e17, e18, e19, e20, e21, e22⟩, ⟨e23, e24⟩, e25, e26⟩, ⟨dD0, dD1, dD2, dD3, dD4, dD5, dD6⟩⟩, ⟨dG0, dG1, dG2, dG3, dG4, dG5, dG6⟩⟩ := HQ.out _ HB.out) | (go_at_call 38; (with_reducible refine (C38.out _ _).mono ?_); rintro e wm ⟨rfl, hb⟩; have HX := Lib.hid (ask_mut (op := 15) (fn := Tryz.f42) (a := 6) (b := 7) HC.out.1 (HBW.out _ HBM.out) rfl (HEF.out.1.below (HWW.out _ HBM.out)) (HEF.out.2.1.below (HWW.out _ HBM.out)) HEF.out.2.2.1 HEF.out.2.2.2.1 HEF.out.2.2.2.2 HM.out hb ⟨by decide, by decide⟩); clear hb; obtain ⟨r0, r1, r2, r3, r4, r5, r6, r7, r8, r9, r10, rf⟩ := rz_cells HX.out.1.1; obtain ⟨p0, p1, pf⟩ := p2_cells HX.out.1.2; replace HX := Lib.hid HX.out.2; unfold res11 pl2 at HX))
  all_goals
    first
      | with_reducible exact HNo.out _ (HWW.out _ HB.out) _ _ (by decide) rfl rfl
      | with_reducible exact HX.out _ rfl rfl
set_option maxRecDepth 100000 in
set_option maxHeartbeats 8000000 in
theorem asks16 {S : Nat → Prop} {w : World} {t c : Nat} {bs : List Nat} {T : List (Option Nd)} {tb : Nat} {tv : Value} {l : List Mt} (hc : Ctx S w t c bs T tb tv l) (ua : Option Addr) (un uc : Nat) (cm cn : Int) (hcn : R64 cn) (cr : Cr) {R : Nat → Nat} (hi : TInv T R none) (q : Cl)  :
    Calls Tryz.prog 42 #[Wld t tb ua un uc, Who cm cn cr, .agg #[.int .i64 16, .string q.path, .string q.dest, .int .i64 q.fd, .int .i64 q.flags, .int .i64 q.mode, .int .i64 q.n, .int .i64 q.m, .slice q.da q.dl q.dc]] w (AskP S t (c + 3) R T 16 w) := by
  have HC := Lib.hid (And.intro hc (And.intro hi hcn))
  clear hc hi hcn
  unfold Wld Who
  go_enter Tryz.func42, Tryz.ntmps42
  go_upto_region 1 with fail
  refine box5g (fun W hbx hnx => ?_)
  have H1B := Lib.hid hbx
  have H1 := Lib.hid hnx
  clear hbx hnx
  generalize hF : w.heap.size + 1 + 1 + 1 + 1 = F at H1 ⊢
  generalize hE : w.heap.size + 1 + 1 + 1 = E at H1 ⊢
  generalize hC : w.heap.size + 1 + 1 = C at H1 ⊢
  generalize hB : w.heap.size + 1 = B at H1 ⊢
  obtain ⟨A, hA⟩ : ∃ A, w.heap.size = A := ⟨_, rfl⟩
  rw [hA] at H1 ⊢
  have H1E : Hid (w.heap.size = A ∧ w.heap.size + 1 = B ∧ w.heap.size + 2 = C ∧ w.heap.size + 3 = E ∧ w.heap.size + 4 = F) := Lib.hid (by omega)
  clear hA hB hC hE hF
  have HQ := Lib.hid fun (X : World) (hX : Below W.heap.size W X) => And.intro (H1.out.1.below hX).k5 (And.intro (H1.out.2.1.below hX).k4 (And.intro (H1.out.2.2.1.below hX).k9 (And.intro (H1.out.2.2.2.1.below hX).k11 (And.intro (H1.out.2.2.2.2.below hX).k2 (And.intro (H1.out.2.2.2.1.below hX).free ((H1.out.2.2.2.2.below hX).free))))))
  obtain ⟨⟨e0, e1, e2, e3, e4⟩, ⟨e5, e6, e7, e8⟩, ⟨e9, e10, e11, e12, e13, e14, e15, e16, e17⟩, ⟨e18, e19, e20, e21, e22, e23, e24, e25, e26, e27, e28⟩, ⟨e29, e30⟩, e31, e32⟩ := HQ.out _ (Below.refl _ _)
  have HB : Hid (Below W.heap.size W W) := Lib.hid (Below.refl _ _)
  have HBW : Hid (∀ X, Below W.heap.size W X → Below w.heap.size w X) := Lib.hid fun X hX => H1B.out.trans (hX.mono H1B.out.size)
  have HEF : Hid (Blk W E 40 rz ∧ Blk W F 75 #[.int .i64 0, .int .i64 0] ∧ w.heap.size ≤ E ∧ w.heap.size ≤ F ∧ E ≠ F) := Lib.hid ⟨H1.out.2.2.2.1, H1.out.2.2.2.2, by have := H1E.out; omega, by have := H1E.out; omega, by have := H1E.out; omega⟩
  have nFE : ¬ F = E := by have := H1E.out; omega
  have nEF : ¬ E = F := by have := H1E.out; omega
  have HBZ : Hid (∀ X, Below W.heap.size W X → Below w.heap.size w X) := HBW
  have HWW : Hid (∀ X, Below W.heap.size W X → Below W.heap.size W X) := Lib.hid fun X hX => hX
  have HNo : Hid (∀ X, Below W.heap.size W X → ∀ (tm : Array Value) (code : Int), code ≠ 0 → tm.getD 6 undef = .pointer (some ⟨E, 0, none⟩) → tm.getD 7 undef = .pointer (some ⟨F, 0, none⟩) → bodyPost Tryz.prog Tryz.f42 (AskP S t (c + 3) R T 16 w) .ret ⟨tm, []⟩ (pl2 (res11 X E (.int .i64 code) (.int .i64 0) (.slice none 0 0) (.slice none 0 0) (.int .i64 0) (.int .i64 0) (.int .i64 0) (.int .i64 0) (.int .i64 0) (.int .i64 0) (.int .i64 0)) F (.int .i64 0) (.int .i64 0))) := Lib.hid fun X hX tm code hcode h4 h5 =>
    ask_fin (Res.no code) (.slice none 0 0) (.slice none 0 0) rfl ((TStep.same HC.out.1.tr (HBZ.out X hX)).mono (Nat.le_add_right c 3)) HC.out.2.1 (KK.refl T) (HEF.out.1.below hX) (HEF.out.2.1.below hX) HEF.out.2.2.1 HEF.out.2.2.2.1 HEF.out.2.2.2.2 (.inl ⟨rfl, rfl, rfl, rfl⟩) ⟨off_nil _, off_nil _, off_nil _, off_nil _⟩ (fld_no (.inl hcode)) (fun _ h => absurd h hcode) h4 h5
  unfold res11 pl2 at HNo
  have C65 : Hid (∀ X, Below w.heap.size w X → ∀ fo : Bool, Calls Tryz.prog 65 #[.agg #[.pointer (some ⟨t, 0, none⟩), .pointer (some ⟨tb, 0, none⟩), .int .i64 0, .int .i64 1, .slice ua un uc], .agg #[.int .i64 cm, .int .i64 cn, .int .i64 cr.u, .int .i64 cr.g], .string q.path, .bool fo] X (WtP T X)) := Lib.hid fun X hX fo => there_any (HC.out.1.below hX) ua un uc cm cn HC.out.2.2 cr q.path fo
  go_upto_region 3 with (first | (go_at_call 65; (with_reducible refine (C65.out _ (HBW.out _ HB.out) _).mono ?_); rintro e wn ⟨f, code, rfl, hf, h0, hb⟩; have HF := Lib.hid (And.intro hf (And.intro (hf.r HC.out.1) h0)); clear hf h0; replace HB := Lib.hid (HB.out.trans (hb.mono HB.out.size)); clear hb e0 e1 e2 e3 e4 e5 e6 e7 e8 e9 e10 e11 e12 e13 e14 e15 e16 e17 e18 e19 e20 e21 e22 e23 e24 e25 e26 e27 e28 e29 e30 e31 e32; obtain ⟨⟨e0, e1, e2, e3, e4⟩, ⟨e5, e6, e7, e8⟩, ⟨e9, e10, e11, e12, e13, e14, e15, e16, e17⟩, ⟨e18, e19, e20, e21, e22, e23, e24, e25, e26, e27, e28⟩, ⟨e29, e30⟩, e31, e32⟩ := HQ.out _ HB.out; unfold Fnd.val))
  have C38 : Hid (∀ (n : Int) (X : World), Calls Tryz.prog 38 #[.int .i64 n] X fun e w' => e = .returned (.agg #[.int .i64 n, .int .i64 0, .slice none 0 0, .slice none 0 0, .int .i64 0, .int .i64 0, .int .i64 0, .int .i64 0, .int .i64 0, .int .i64 0, .int .i64 0]) ∧ Below X.heap.size X w') := Lib.hid no13_any
  refine box1g (fun W2 hbx hnx => ?_)
  have H11B := Lib.hid hbx
  have H11 := Lib.hid hnx
  clear hbx hnx
  obtain ⟨D, hD⟩ : ∃ D, wn.heap.size = D := ⟨_, rfl⟩
  rw [hD] at H11 ⊢
  have H11E : Hid (wn.heap.size = D) := Lib.hid (by omega)
  clear hD
  have HBB1 : Hid (Below W.heap.size W W2) := Lib.hid (HB.out.trans (H11B.out.mono HB.out.size))
  clear e0 e1 e2 e3 e4 e5 e6 e7 e8 e9 e10 e11 e12 e13 e14 e15 e16 e17 e18 e19 e20 e21 e22 e23 e24 e25 e26 e27 e28 e29 e30 e31 e32
  replace HQ := Lib.hid fun (X : World) (hX : Below W2.heap.size W2 X) => And.intro (HQ.out X (HBB1.out.trans (hX.mono HBB1.out.size))) (H11.out.below hX).k7
  replace HBW : Hid (∀ X, Below W2.heap.size W2 X → Below w.heap.size w X) := Lib.hid fun X hX => HBW.out X (HBB1.out.trans (hX.mono HBB1.out.size))
  have HZD : Hid (W.heap.size ≤ D) := Lib.hid (by have h1 := (HWW.out _ HB.out).size; have h2 := H11E.out; omega)
  replace HWW : Hid (∀ X, Below W2.heap.size W2 X → Below W.heap.size W X) := Lib.hid fun X hX => HWW.out X (HBB1.out.trans (hX.mono HBB1.out.size))
  clear HB HBB1
  have HB : Hid (Below W2.heap.size W2 W2) := Lib.hid (Below.refl _ _)
  obtain ⟨⟨⟨e0, e1, e2, e3, e4⟩, ⟨e5, e6, e7, e8⟩, ⟨e9, e10, e11, e12, e13, e14, e15, e16, e17⟩, ⟨e18, e19, e20, e21, e22, e23, e24, e25, e26, e27, e28⟩, ⟨e29, e30⟩, e31, e32⟩, ⟨dD0, dD1, dD2, dD3, dD4, dD5, dD6⟩⟩ := HQ.out _ HB.out
  by_cases h0 : code = 0
  case neg =>
    go_wp2_with (first | (go_at_call 38; (with_reducible refine (C38.out _ _).mono ?_); rintro e wn ⟨rfl, hb⟩; replace HB := Lib.hid (HB.out.trans (hb.mono HB.out.size)); clear hb e0 e1 e2 e3 e4 e5 e6 e7 e8 e9 e10 e11 e12 e13 e14 e15 e16 e17 e18 e19 e20 e21 e22 e23 e24 e25 e26 e27 e28 e29 e30 e31 e32 dD0 dD1 dD2 dD3 dD4 dD5 dD6; obtain ⟨⟨⟨e0, e1, e2, e3, e4⟩, ⟨e5, e6, e7, e8⟩, ⟨e9, e10, e11, e12, e13, e14, e15, e16, e17⟩, ⟨e18, e19, e20, e21, e22, e23, e24, e25, e26, e27, e28⟩, ⟨e29, e30⟩, e31, e32⟩, ⟨dD0, dD1, dD2, dD3, dD4, dD5, dD6⟩⟩ := HQ.out _ HB.out))
    with_reducible exact HNo.out _ (HWW.out _ HB.out) _ _ h0 rfl rfl
  subst h0
  have HH := Lib.hid (HF.out.2.2 rfl)
  have C59 : Hid (∀ X, Below w.heap.size w X → Calls Tryz.prog 59 #[.agg #[.pointer (some ⟨t, 0, none⟩), .pointer (some ⟨tb, 0, none⟩), .int .i64 0, .int .i64 1, .slice ua un uc], .agg #[.int .i64 f.am, .int .i64 f.an]] X (WsP T f.an X)) := Lib.hid fun X hX => wstat_any (HC.out.1.below hX) ua un uc f.am f.an (HF.out.2.1.2 HH.out)
  go_upto_region 6 with (first | (go_at_call 59; (with_reducible refine (C59.out _ (HBW.out _ HB.out)).mono ?_); rintro e wn ⟨s, rfl, hs, hb⟩; have HS := Lib.hid hs; clear hs; replace HB := Lib.hid (HB.out.trans (hb.mono HB.out.size)); clear hb e0 e1 e2 e3 e4 e5 e6 e7 e8 e9 e10 e11 e12 e13 e14 e15 e16 e17 e18 e19 e20 e21 e22 e23 e24 e25 e26 e27 e28 e29 e30 e31 e32 dD0 dD1 dD2 dD3 dD4 dD5 dD6; obtain ⟨⟨⟨e0, e1, e2, e3, e4⟩, ⟨e5, e6, e7, e8⟩, ⟨e9, e10, e11, e12, e13, e14, e15, e16, e17⟩, ⟨e18, e19, e20, e21, e22, e23, e24, e25, e26, e27, e28⟩, ⟨e29, e30⟩, e31, e32⟩, ⟨dD0, dD1, dD2, dD3, dD4, dD5, dD6⟩⟩ := HQ.out _ HB.out; unfold Stt.val))
  refine box1g (fun W3 hbx hnx => ?_)
  have H12B := Lib.hid hbx
  have H12 := Lib.hid hnx
  clear hbx hnx
  obtain ⟨G, hG⟩ : ∃ G, wn.heap.size = G := ⟨_, rfl⟩
  rw [hG] at H12 ⊢
  have H12E : Hid (wn.heap.size = G) := Lib.hid (by omega)
  clear hG
  have HBB2 : Hid (Below W2.heap.size W2 W3) := Lib.hid (HB.out.trans (H12B.out.mono HB.out.size))
  clear e0 e1 e2 e3 e4 e5 e6 e7 e8 e9 e10 e11 e12 e13 e14 e15 e16 e17 e18 e19 e20 e21 e22 e23 e24 e25 e26 e27 e28 e29 e30 e31 e32 dD0 dD1 dD2 dD3 dD4 dD5 dD6
  replace HQ := Lib.hid fun (X : World) (hX : Below W3.heap.size W3 X) => And.intro (HQ.out X (HBB2.out.trans (hX.mono HBB2.out.size))) (H12.out.below hX).k7
  replace HBW : Hid (∀ X, Below W3.heap.size W3 X → Below w.heap.size w X) := Lib.hid fun X hX => HBW.out X (HBB2.out.trans (hX.mono HBB2.out.size))
  have HZG : Hid (W.heap.size ≤ G) := Lib.hid (by have h1 := (HWW.out _ HB.out).size; have h2 := H12E.out; omega)
  replace HWW : Hid (∀ X, Below W3.heap.size W3 X → Below W.heap.size W X) := Lib.hid fun X hX => HWW.out X (HBB2.out.trans (hX.mono HBB2.out.size))
  clear HB HBB2
  have HB : Hid (Below W3.heap.size W3 W3) := Lib.hid (Below.refl _ _)
  obtain ⟨⟨⟨⟨e0, e1, e2, e3, e4⟩, ⟨e5, e6, e7, e8⟩, ⟨e9, e10, e11, e12, e13, e14, e15, e16, e17⟩, ⟨e18, e19, e20, e21, e22, e23, e24, e25, e26, e27, e28⟩, ⟨e29, e30⟩, e31, e32⟩, ⟨dD0, dD1, dD2, dD3, dD4, dD5, dD6⟩⟩, ⟨dG0, dG1, dG2, dG3, dG4, dG5, dG6⟩⟩ := HQ.out _ HB.out
  have HWH : Hid (∀ X, Below W3.heap.size W3 X → Below W.heap.size W X) := HWW
  have C74 : Hid (∀ X, Below w.heap.size w X → Calls Tryz.prog 74 #[.agg #[.pointer (some ⟨t, 0, none⟩), .pointer (some ⟨tb, 0, none⟩), .int .i64 0, .int .i64 1, .slice ua un uc], .agg #[.int .i64 cm, .int .i64 cn, .int .i64 cr.u, .int .i64 cr.g], .agg #[.int .i64 16, .string q.path, .string q.dest, .int .i64 q.fd, .int .i64 q.flags, .int .i64 q.mode, .int .i64 q.n, .int .i64 q.m, .slice q.da q.dl q.dc], .agg #[.int .i64 s.node, .int .i64 s.kind, .int .i64 s.mode, .int .i64 s.uid, .int .i64 s.gid, .int .i64 s.links, .int .i64 s.size]] X fun e w' => ∃ code : Int, e = .returned (.int .i64 code) ∧ WOp S t (c + 3) R T X (.returned (.int .i64 code)) w') := Lib.hid fun X hX => (chown_any (HC.out.1.below hX) ua un uc cm cn HC.out.2.2 cr HC.out.2.1 ⟨16, q.path, q.dest, q.fd, q.flags, q.mode, q.n, q.m, q.da, q.dl, q.dc⟩ s (HS.out.r64 HC.out.1)).mono fun e w' hm => WOp.below (Below.refl _ _) hm
  go_wp2_with (first | (go_at_call 74; (with_reducible refine (C74.out _ (HBW.out _ HB.out)).mono ?_); rintro e wn ⟨code2, rfl, hw⟩; have HM := Lib.hid hw; clear hw; have HBM := Lib.hid HB.out; clear HB e0 e1 e2 e3 e4 e5 e6 e7 e8 e9 e10 e11 e12 e13 e14 e15 e16 e17 e18 e19 e20 e21 e22 e23 e24 e25 e26 e27 e28 e29 e30 e31 e32 dD0 dD1 dD2 dD3 dD4 dD5 dD6 dG0 dG1 dG2 dG3 dG4 dG5 dG6) | (go_at_call 38; (with_reducible refine (C38.out _ _).mono ?_); rintro e wn ⟨rfl, hb⟩; replace HB := Lib.hid (HB.out.trans (hb.mono HB.out.size)); clear hb e0 e1 e2 e3 e4 e5 e6 e7 e8 e9 e10 e11 e12 e13 e14 e15 e16 e17 e18 e19 e20 e21 e22 e23 e24 e25 e26 e27 e28 e29 e30 e31 e32 dD0 dD1 dD2 dD3 dD4 dD5 dD6 dG0 dG1 dG2 dG3 dG4 dG5 dG6; obtain ⟨⟨⟨⟨e0, e1, e2, e3, e4⟩, ⟨e5, e6, e7, e8⟩, ⟨e9, e10, e11, e12, e13, e14, e15, e16, e17⟩, ⟨e18, e19, e20, e21, e22, e23, e24, e25, e26, e27, e28⟩, ⟨e29, e30⟩, e31, e32⟩, ⟨dD0, dD1, dD2, dD3, dD4, dD5, dD6⟩⟩, ⟨dG0, dG1, dG2, dG3, dG4, dG5, dG6⟩⟩ := HQ.out _ HB.out) | (go_at_call 38; (with_reducible refine (C38.out _ _).mono ?_); rintro e wm ⟨rfl, hb⟩; have HX := Lib.hid (ask_mut (op := 16) (fn := Tryz.f42) (a := 6) (b := 7) HC.out.1 (HBW.out _ HBM.out) rfl (HEF.out.1.below (HWW.out _ HBM.out)) (HEF.out.2.1.below (HWW.out _ HBM.out)) HEF.out.2.2.1 HEF.out.2.2.2.1 HEF.out.2.2.2.2 HM.out hb ⟨by decide, by decide⟩); clear hb; obtain ⟨r0, r1, r2, r3, r4, r5, r6, r7, r8, r9, r10, rf⟩ := rz_cells HX.out.1.1; obtain ⟨p0, p1, pf⟩ := p2_cells HX.out.1.2; replace HX := Lib.hid HX.out.2; unfold res11 pl2 at HX))
  all_goals
    first
      | with_reducible exact HNo.out _ (HWW.out _ HB.out) _ _ (by decide) rfl rfl
      | with_reducible exact HX.out _ rfl rfl
set_option maxRecDepth 100000 in
set_option maxHeartbeats 8000000 in
theorem asks8 {S : Nat → Prop} {w : World} {t c : Nat} {bs : List Nat} {T : List (Option Nd)} {tb : Nat} {tv : Value} {l : List Mt} (hc : Ctx S w t c bs T tb tv l) (ua : Option Addr) (un uc : Nat) (cm cn : Int) (hcn : R64 cn) (cr : Cr) {R : Nat → Nat} (hi : TInv T R none) (q : Cl)  :
    Calls Tryz.prog 42 #[Wld t tb ua un uc, Who cm cn cr, .agg #[.int .i64 8, .string q.path, .string q.dest, .int .i64 q.fd, .int .i64 q.flags, .int .i64 q.mode, .int .i64 q.n, .int .i64 q.m, .slice q.da q.dl q.dc]] w (AskP S t (c + 3) R T 8 w) := by
  have HC := Lib.hid (And.intro hc (And.intro hi hcn))
  clear hc hi hcn
  unfold Wld Who
  go_enter Tryz.func42, Tryz.ntmps42
  go_upto_region 1 with fail
  refine box5g (fun W hbx hnx => ?_)
  have H1B := Lib.hid hbx
  have H1 := Lib.hid hnx
  clear hbx hnx
  generalize hF : w.heap.size + 1 + 1 + 1 + 1 = F at H1 ⊢
  generalize hE : w.heap.size + 1 + 1 + 1 = E at H1 ⊢
  generalize hC : w.heap.size + 1 + 1 = C at H1 ⊢
  generalize hB : w.heap.size + 1 = B at H1 ⊢
  obtain ⟨A, hA⟩ : ∃ A, w.heap.size = A := ⟨_, rfl⟩
  rw [hA] at H1 ⊢
  have H1E : Hid (w.heap.size = A ∧ w.heap.size + 1 = B ∧ w.heap.size + 2 = C ∧ w.heap.size + 3 = E ∧ w.heap.size + 4 = F) := Lib.hid (by omega)
  clear hA hB hC hE hF
  have HQ := Lib.hid fun (X : World) (hX : Below W.heap.size W X) => And.intro (H1.out.1.below hX).k5 (And.intro (H1.out.2.1.below hX).k4 (And.intro (H1.out.2.2.1.below hX).k9 (And.intro (H1.out.2.2.2.1.below hX).k11 (And.intro (H1.out.2.2.2.2.below hX).k2 (And.intro (H1.out.2.2.2.1.below hX).free ((H1.out.2.2.2.2.below hX).free))))))
  obtain ⟨⟨e0, e1, e2, e3, e4⟩, ⟨e5, e6, e7, e8⟩, ⟨e9, e10, -, -, -, -, e11, -, -⟩, ⟨e12, e13, e14, e15, e16, e17, e18, e19, e20, e21, e22⟩, ⟨e23, e24⟩, e25, e26⟩ := HQ.out _ (Below.refl _ _)
  have HB : Hid (Below W.heap.size W W) := Lib.hid (Below.refl _ _)
  have HBW : Hid (∀ X, Below W.heap.size W X → Below w.heap.size w X) := Lib.hid fun X hX => H1B.out.trans (hX.mono H1B.out.size)
  have HEF : Hid (Blk W E 40 rz ∧ Blk W F 75 #[.int .i64 0, .int .i64 0] ∧ w.heap.size ≤ E ∧ w.heap.size ≤ F ∧ E ≠ F) := Lib.hid ⟨H1.out.2.2.2.1, H1.out.2.2.2.2, by have := H1E.out; omega, by have := H1E.out; omega, by have := H1E.out; omega⟩
  have nFE : ¬ F = E := by have := H1E.out; omega
  have nEF : ¬ E = F := by have := H1E.out; omega
  have HBZ : Hid (∀ X, Below W.heap.size W X → Below w.heap.size w X) := HBW
  have HWW : Hid (∀ X, Below W.heap.size W X → Below W.heap.size W X) := Lib.hid fun X hX => hX
  have HNo : Hid (∀ X, Below W.heap.size W X → ∀ (tm : Array Value) (code : Int), code ≠ 0 → tm.getD 6 undef = .pointer (some ⟨E, 0, none⟩) → tm.getD 7 undef = .pointer (some ⟨F, 0, none⟩) → bodyPost Tryz.prog Tryz.f42 (AskP S t (c + 3) R T 8 w) .ret ⟨tm, []⟩ (pl2 (res11 X E (.int .i64 code) (.int .i64 0) (.slice none 0 0) (.slice none 0 0) (.int .i64 0) (.int .i64 0) (.int .i64 0) (.int .i64 0) (.int .i64 0) (.int .i64 0) (.int .i64 0)) F (.int .i64 0) (.int .i64 0))) := Lib.hid fun X hX tm code hcode h4 h5 =>
    ask_fin (Res.no code) (.slice none 0 0) (.slice none 0 0) rfl ((TStep.same HC.out.1.tr (HBZ.out X hX)).mono (Nat.le_add_right c 3)) HC.out.2.1 (KK.refl T) (HEF.out.1.below hX) (HEF.out.2.1.below hX) HEF.out.2.2.1 HEF.out.2.2.2.1 HEF.out.2.2.2.2 (.inl ⟨rfl, rfl, rfl, rfl⟩) ⟨off_nil _, off_nil _, off_nil _, off_nil _⟩ (fld_no (.inl hcode)) (fun _ h => absurd h hcode) h4 h5
  unfold res11 pl2 at HNo
  have C65 : Hid (∀ X, Below w.heap.size w X → ∀ fo : Bool, Calls Tryz.prog 65 #[.agg #[.pointer (some ⟨t, 0, none⟩), .pointer (some ⟨tb, 0, none⟩), .int .i64 0, .int .i64 1, .slice ua un uc], .agg #[.int .i64 cm, .int .i64 cn, .int .i64 cr.u, .int .i64 cr.g], .string q.path, .bool fo] X (WtP T X)) := Lib.hid fun X hX fo => there_any (HC.out.1.below hX) ua un uc cm cn HC.out.2.2 cr q.path fo
  go_upto_region 3 with (first | (go_at_call 65; (with_reducible refine (C65.out _ (HBW.out _ HB.out) _).mono ?_); rintro e wn ⟨f, code, rfl, hf, h0, hb⟩; have HF := Lib.hid (And.intro hf (And.intro (hf.r HC.out.1) h0)); clear hf h0; replace HB := Lib.hid (HB.out.trans (hb.mono HB.out.size)); clear hb e0 e1 e2 e3 e4 e5 e6 e7 e8 e9 e10 e11 e12 e13 e14 e15 e16 e17 e18 e19 e20 e21 e22 e23 e24 e25 e26; obtain ⟨⟨e0, e1, e2, e3, e4⟩, ⟨e5, e6, e7, e8⟩, ⟨e9, e10, -, -, -, -, e11, -, -⟩, ⟨e12, e13, e14, e15, e16, e17, e18, e19, e20, e21, e22⟩, ⟨e23, e24⟩, e25, e26⟩ := HQ.out _ HB.out; unfold Fnd.val))
  have C38 : Hid (∀ (n : Int) (X : World), Calls Tryz.prog 38 #[.int .i64 n] X fun e w' => e = .returned (.agg #[.int .i64 n, .int .i64 0, .slice none 0 0, .slice none 0 0, .int .i64 0, .int .i64 0, .int .i64 0, .int .i64 0, .int .i64 0, .int .i64 0, .int .i64 0]) ∧ Below X.heap.size X w') := Lib.hid no13_any
  refine box1g (fun W2 hbx hnx => ?_)
  have H11B := Lib.hid hbx
  have H11 := Lib.hid hnx
  clear hbx hnx
  obtain ⟨D, hD⟩ : ∃ D, wn.heap.size = D := ⟨_, rfl⟩
  rw [hD] at H11 ⊢
  have H11E : Hid (wn.heap.size = D) := Lib.hid (by omega)
  clear hD
  have HBB1 : Hid (Below W.heap.size W W2) := Lib.hid (HB.out.trans (H11B.out.mono HB.out.size))
  clear e0 e1 e2 e3 e4 e5 e6 e7 e8 e9 e10 e11 e12 e13 e14 e15 e16 e17 e18 e19 e20 e21 e22 e23 e24 e25 e26
  replace HQ := Lib.hid fun (X : World) (hX : Below W2.heap.size W2 X) => And.intro (HQ.out X (HBB1.out.trans (hX.mono HBB1.out.size))) (H11.out.below hX).k7
  replace HBW : Hid (∀ X, Below W2.heap.size W2 X → Below w.heap.size w X) := Lib.hid fun X hX => HBW.out X (HBB1.out.trans (hX.mono HBB1.out.size))
  have HZD : Hid (W.heap.size ≤ D) := Lib.hid (by have h1 := (HWW.out _ HB.out).size; have h2 := H11E.out; omega)
  replace HWW : Hid (∀ X, Below W2.heap.size W2 X → Below W.heap.size W X) := Lib.hid fun X hX => HWW.out X (HBB1.out.trans (hX.mono HBB1.out.size))
  clear HB HBB1
  have HB : Hid (Below W2.heap.size W2 W2) := Lib.hid (Below.refl _ _)
  obtain ⟨⟨⟨e0, e1, e2, e3, e4⟩, ⟨e5, e6, e7, e8⟩, ⟨e9, e10, -, -, -, -, e11, -, -⟩, ⟨e12, e13, e14, e15, e16, e17, e18, e19, e20, e21, e22⟩, ⟨e23, e24⟩, e25, e26⟩, ⟨dD0, dD1, dD2, dD3, dD4, dD5, dD6⟩⟩ := HQ.out _ HB.out
  by_cases h0 : code = 0
  case neg =>
    go_wp2_with (first | (go_at_call 38; (with_reducible refine (C38.out _ _).mono ?_); rintro e wn ⟨rfl, hb⟩; replace HB := Lib.hid (HB.out.trans (hb.mono HB.out.size)); clear hb e0 e1 e2 e3 e4 e5 e6 e7 e8 e9 e10 e11 e12 e13 e14 e15 e16 e17 e18 e19 e20 e21 e22 e23 e24 e25 e26 dD0 dD1 dD2 dD3 dD4 dD5 dD6; obtain ⟨⟨⟨e0, e1, e2, e3, e4⟩, ⟨e5, e6, e7, e8⟩, ⟨e9, e10, -, -, -, -, e11, -, -⟩, ⟨e12, e13, e14, e15, e16, e17, e18, e19, e20, e21, e22⟩, ⟨e23, e24⟩, e25, e26⟩, ⟨dD0, dD1, dD2, dD3, dD4, dD5, dD6⟩⟩ := HQ.out _ HB.out))
    with_reducible exact HNo.out _ (HWW.out _ HB.out) _ _ h0 rfl rfl
  subst h0
  have HH := Lib.hid (HF.out.2.2 rfl)
  have C59 : Hid (∀ X, Below w.heap.size w X → Calls Tryz.prog 59 #[.agg #[.pointer (some ⟨t, 0, none⟩), .pointer (some ⟨tb, 0, none⟩), .int .i64 0, .int .i64 1, .slice ua un uc], .agg #[.int .i64 f.am, .int .i64 f.an]] X (WsP T f.an X)) := Lib.hid fun X hX => wstat_any (HC.out.1.below hX) ua un uc f.am f.an (HF.out.2.1.2 HH.out)
  go_upto_region 6 with (first | (go_at_call 59; (with_reducible refine (C59.out _ (HBW.out _ HB.out)).mono ?_); rintro e wn ⟨s, rfl, hs, hb⟩; have HS := Lib.hid hs; clear hs; replace HB := Lib.hid (HB.out.trans (hb.mono HB.out.size)); clear hb e0 e1 e2 e3 e4 e5 e6 e7 e8 e9 e10 e11 e12 e13 e14 e15 e16 e17 e18 e19 e20 e21 e22 e23 e24 e25 e26 dD0 dD1 dD2 dD3 dD4 dD5 dD6; obtain ⟨⟨⟨e0, e1, e2, e3, e4⟩, ⟨e5, e6, e7, e8⟩, ⟨e9, e10, -, -, -, -, e11, -, -⟩, ⟨e12, e13, e14, e15, e16, e17, e18, e19, e20, e21, e22⟩, ⟨e23, e24⟩, e25, e26⟩, ⟨dD0, dD1, dD2, dD3, dD4, dD5, dD6⟩⟩ := HQ.out _ HB.out; unfold Stt.val))
  refine box1g (fun W3 hbx hnx => ?_)
  have H12B := Lib.hid hbx
  have H12 := Lib.hid hnx
  clear hbx hnx
  obtain ⟨G, hG⟩ : ∃ G, wn.heap.size = G := ⟨_, rfl⟩
  rw [hG] at H12 ⊢
  have H12E : Hid (wn.heap.size = G) := Lib.hid (by omega)
  clear hG
  have HBB2 : Hid (Below W2.heap.size W2 W3) := Lib.hid (HB.out.trans (H12B.out.mono HB.out.size))
  clear e0 e1 e2 e3 e4 e5 e6 e7 e8 e9 e10 e11 e12 e13 e14 e15 e16 e17 e18 e19 e20 e21 e22 e23 e24 e25 e26 dD0 dD1 dD2 dD3 dD4 dD5 dD6
  replace HQ := Lib.hid fun (X : World) (hX : Below W3.heap.size W3 X) => And.intro (HQ.out X (HBB2.out.trans (hX.mono HBB2.out.size))) (H12.out.below hX).k7
  replace HBW : Hid (∀ X, Below W3.heap.size W3 X → Below w.heap.size w X) := Lib.hid fun X hX => HBW.out X (HBB2.out.trans (hX.mono HBB2.out.size))
  have HZG : Hid (W.heap.size ≤ G) := Lib.hid (by have h1 := (HWW.out _ HB.out).size; have h2 := H12E.out; omega)
  replace HWW : Hid (∀ X, Below W3.heap.size W3 X → Below W.heap.size W X) := Lib.hid fun X hX => HWW.out X (HBB2.out.trans (hX.mono HBB2.out.size))
  clear HB HBB2
  have HB : Hid (Below W3.heap.size W3 W3) := Lib.hid (Below.refl _ _)
  obtain ⟨⟨⟨⟨e0, e1, e2, e3, e4⟩, ⟨e5, e6, e7, e8⟩, ⟨e9, e10, -, -, -, -, e11, -, -⟩, ⟨e12, e13, e14, e15, e16, e17, e18, e19, e20, e21, e22⟩, ⟨e23, e24⟩, e25, e26⟩, ⟨dD0, dD1, dD2, dD3, dD4, dD5, dD6⟩⟩, ⟨dG0, dG1, dG2, dG3, dG4, dG5, dG6⟩⟩ := HQ.out _ HB.out
  have HWH : Hid (∀ X, Below W3.heap.size W3 X → Below W.heap.size W X) := HWW
  have C75 : Hid (∀ X : World, Calls Tryz.prog 75 #[.agg #[.int .i64 cr.u, .int .i64 cr.g], .agg #[.int .i64 s.node, .int .i64 s.kind, .int .i64 s.mode, .int .i64 s.uid, .int .i64 s.gid, .int .i64 s.links, .int .i64 s.size], .int .i64 2] X (SomeB X)) := Lib.hid (fun X => may_any cr s 2 X)
  have C76 : Hid (∀ X, Below w.heap.size w X → Calls Tryz.prog 76 #[.pointer (some ⟨t, 0, none⟩), .int .i64 f.an, .int .i64 q.n] X fun e w' => ∃ code : Int, e = .returned (.int .i64 code) ∧ WOp S t (c + 3) R T X (.returned (.int .i64 code)) w') := Lib.hid fun X hX => ctx_cut (HC.out.1.below hX) HC.out.2.1 f.an (HF.out.2.1.2 HH.out) q.n
  go_wp2_with (first | (go_at_call 75; (with_reducible refine (C75.out _).mono ?_); rintro e wn ⟨⟨r, rfl⟩, hb⟩; replace HB := Lib.hid (HB.out.trans (hb.mono HB.out.size)); clear hb e0 e1 e2 e3 e4 e5 e6 e7 e8 e9 e10 e11 e12 e13 e14 e15 e16 e17 e18 e19 e20 e21 e22 e23 e24 e25 e26 dD0 dD1 dD2 dD3 dD4 dD5 dD6 dG0 dG1 dG2 dG3 dG4 dG5 dG6; obtain ⟨⟨⟨⟨e0, e1, e2, e3, e4⟩, ⟨e5, e6, e7, e8⟩, ⟨e9, e10, -, -, -, -, e11, -, -⟩, ⟨e12, e13, e14, e15, e16, e17, e18, e19, e20, e21, e22⟩, ⟨e23, e24⟩, e25, e26⟩, ⟨dD0, dD1, dD2, dD3, dD4, dD5, dD6⟩⟩, ⟨dG0, dG1, dG2, dG3, dG4, dG5, dG6⟩⟩ := HQ.out _ HB.out; cases r) | (go_at_call 76; (with_reducible refine (C76.out _ (HBW.out _ HB.out)).mono ?_); rintro e wn ⟨code2, rfl, hw⟩; have HM := Lib.hid hw; clear hw; have HBM := Lib.hid HB.out; clear HB e0 e1 e2 e3 e4 e5 e6 e7 e8 e9 e10 e11 e12 e13 e14 e15 e16 e17 e18 e19 e20 e21 e22 e23 e24 e25 e26 dD0 dD1 dD2 dD3 dD4 dD5 dD6 dG0 dG1 dG2 dG3 dG4 dG5 dG6) | (go_at_call 38; (with_reducible refine (C38.out _ _).mono ?_); rintro e wn ⟨rfl, hb⟩; replace HB := Lib.hid (HB.out.trans (hb.mono HB.out.size)); clear hb e0 e1 e2 e3 e4 e5 e6 e7 e8 e9 e10 e11 e12 e13 e14 e15 e16 e17 e18 e19 e20 e21 e22 e23 e24 e25 e26 dD0 dD1 dD2 dD3 dD4 dD5 dD6 dG0 dG1 dG2 dG3 dG4 dG5 dG6; obtain ⟨⟨⟨⟨e0, e1, e2, e3, e4⟩, ⟨e5, e6, e7, e8⟩, ⟨e9, e10, -, -, -, -, e11, -, -⟩, ⟨e12, e13, e14, e15, e16, e17, e18, e19, e20, e21, e22⟩, ⟨e23, e24⟩, e25, e26⟩, ⟨dD0, dD1, dD2, dD3, dD4, dD5, dD6⟩⟩, ⟨dG0, dG1, dG2, dG3, dG4, dG5, dG6⟩⟩ := HQ.out _ HB.out) | (go_at_call 38; (with_reducible refine (C38.out _ _).mono ?_); rintro e wm ⟨rfl, hb⟩; have HX := Lib.hid (ask_mut (op := 8) (fn := Tryz.f42) (a := 6) (b := 7) HC.out.1 (HBW.out _ HBM.out) rfl (HEF.out.1.below (HWW.out _ HBM.out)) (HEF.out.2.1.below (HWW.out _ HBM.out)) HEF.out.2.2.1 HEF.out.2.2.2.1 HEF.out.2.2.2.2 HM.out hb ⟨by decide, by decide⟩); clear hb; obtain ⟨r0, r1, r2, r3, r4, r5, r6, r7, r8, r9, r10, rf⟩ := rz_cells HX.out.1.1; obtain ⟨p0, p1, pf⟩ := p2_cells HX.out.1.2; replace HX := Lib.hid HX.out.2; unfold res11 pl2 at HX))
  all_goals
    first
      | with_reducible exact HNo.out _ (HWW.out _ HB.out) _ _ (by decide) rfl rfl
      | with_reducible exact HX.out _ rfl rfl
end Go.Proofs.YtfjghemojnhmbaaGreat
