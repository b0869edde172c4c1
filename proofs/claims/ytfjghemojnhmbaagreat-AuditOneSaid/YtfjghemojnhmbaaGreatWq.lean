/- The world of chapter 13: Mkdir, Rmdir, Unlink. -/
import Derived.Test.YtfjghemojnhmbaaGreatTrP
import Derived.Test.YtfjghemojnhmbaaGreatWo
namespace Go.Proofs.YtfjghemojnhmbaaGreat
open Go.RowKit

/-- A call. -/
structure Cl where
  op : Int
  path : ByteArray
  dest : ByteArray
  fd : Int
  flags : Int
  mode : Int
  n : Int
  m : Int
  da : Option Addr
  dl : Nat
  dc : Nat
def Cl.val (q : Cl) : Value := .agg #[.int .i64 q.op, .string q.path, .string q.dest, .int .i64 q.fd, .int .i64 q.flags, .int .i64 q.mode, .int .i64 q.n, .int .i64 q.m, .slice q.da q.dl q.dc]
/-- What a call on names does to the tree. -/
def WOp (S : Nat → Prop) (t c : Nat) (R : Nat → Nat) (T : List (Option Nd)) (w : World) (e : Ending) (w' : World) : Prop := ∃ (code : Int) (S' : Nat → Prop) (bs' : List Nat) (T' : List (Option Nd)), e = .returned (.int .i64 code) ∧ TStep S S' t c bs' w w' T' ∧ TInv T' R none ∧ KK T T'
theorem WOp.same {S : Nat → Prop} {t c c' : Nat} {R : Nat → Nat} {w w' : World} {bs : List Nat} {T : List (Option Nd)} {tb : Nat} {tv : Value} {l : List Mt} (h : Ctx S w t c bs T tb tv l) (hi : TInv T R none) (hc : c ≤ c') (hb : Below w.heap.size w w') (code : Int) : WOp S t c' R T w (.returned (.int .i64 code)) w' :=
  ⟨code, S, bs, T, rfl, (TStep.same h.tr hb).mono hc, hi, KK.refl T⟩
theorem WOp.tree {S : Nat → Prop} {t c c' : Nat} {R : Nat → Nat} {w w1 w' : World} {T : List (Option Nd)} {e : Ending} (hb : Below w.heap.size w w1) (h : TreeP S t c R T w1 e w') (hc : c ≤ c') : ∃ code : Int, e = .returned (.int .i64 code) ∧ WOp S t c' R T w (.returned (.int .i64 code)) w' := by
  obtain ⟨code, S', bs', T', rfl, _, _, h1, h2, h3⟩ := h
  exact ⟨code, rfl, code, S', bs', T', rfl, (h1.below hb).mono hc, h2, h3⟩
theorem WOp.make {S : Nat → Prop} {t c c' : Nat} {R : Nat → Nat} {w w1 w' : World} {T : List (Option Nd)} {e : Ending} (hb : Below w.heap.size w w1) (h : MakeP S t c R T w1 e w') (hc : c ≤ c') : ∃ r code : Int, e = .returned (.tuple #[.int .i64 r, .int .i64 code]) ∧ WOp S t c' R T w (.returned (.int .i64 code)) w' := by
  obtain ⟨r, code, S', bs', T', rfl, _, _, _, _, h1, h2, h3, _⟩ := h
  exact ⟨r, code, rfl, code, S', bs', T', rfl, (h1.below hb).mono hc, h2, h3⟩
theorem FndOk.r {S : Nat → Prop} {w : World} {t c : Nat} {bs : List Nat} {T : List (Option Nd)} {tb : Nat} {tv : Value} {l : List Mt} (hc : Ctx S w t c bs T tb tv l) {f : Fnd} (h : FndOk T f) : R64 f.dn ∧ (f.has = true → R64 f.an) :=
  ⟨⟨by have := h.dir; omega, by have := h.dir; omega⟩, fun q => (h.at_ q).r64 hc⟩
theorem run_field38 (a b c d e f g : Value) (w : World) : (Instr.field 38 (.agg #[a, b, c, d, e, f, g]) 1).run Tryz.prog w = .ok b w := by
  unfold Instr.field
  simp [go_sem, Sem.run_bind, run_underlying Tryz.underlying38, asAgg]
theorem run_field38s (a b c d e f g : Value) (w : World) : (Instr.field 38 (.agg #[a, b, c, d, e, f, g]) 6).run Tryz.prog w = .ok g w := by
  unfold Instr.field
  simp [go_sem, Sem.run_bind, run_underlying Tryz.underlying38, asAgg]
attribute [local go_sem ↓] run_field38 run_field38s
theorem int_ret {fn : Func} {tmps : Array Value} {w : World} {a : Nat} {n : Int} {K : Ending → World → Prop} (hr : fn.results = #[.tmp a]) (h : tmps.getD a undef = .int .i64 n) (hk : K (.returned (.int .i64 n)) w) : bodyPost Tryz.prog fn K .ret ⟨tmps, []⟩ w := by
  refine bodyPost_ret ?_ rfl hk
  unfold results
  rw [hr]
  have h' : tmps[a]?.getD undef = .int .i64 n := by rw [← h]; simp
  simp [h', go_sem]
set_option maxRecDepth 100000 in
set_option maxHeartbeats 4000000 in
theorem one_any {S : Nat → Prop} {w : World} {t c : Nat} {bs : List Nat} {T : List (Option Nd)} {tb : Nat} {tv : Value} {l : List Mt} (hc : Ctx S w t c bs T tb tv l) (ua : Option Addr) (un uc : Nat) (cm cn : Int) (hcn : R64 cn) (cr : Cr) {R : Nat → Nat} (hi : TInv T R none) (q : Cl) :
    Calls Tryz.prog 41 #[Wld t tb ua un uc, Who cm cn cr, q.val] w (WOp S t (c + 3) R T w) := by
  have C58 := Lib.hid (fun X hX => wwalk_any (hc.below (w' := X) hX) ua un uc cm cn hcn cr q.path false)
  have HC := Lib.hid (And.intro hc (And.intro hi hcn))
  clear hc hi hcn
  unfold Wld Who at C58 ⊢
  unfold Cl.val
  go_enter Tryz.func41, Tryz.ntmps41
  go_upto_region 1 with fail
  refine box3g (fun W hbx hnx => ?_)
  have H1B := Lib.hid hbx
  have H1 := Lib.hid hnx
  clear hbx hnx
  generalize hC : w.heap.size + 1 + 1 = C at H1 ⊢
  generalize hB : w.heap.size + 1 = B at H1 ⊢
  obtain ⟨A, hA⟩ : ∃ A, w.heap.size = A := ⟨_, rfl⟩
  rw [hA] at H1 ⊢
  have H1E : Hid (w.heap.size = A ∧ w.heap.size + 1 = B ∧ w.heap.size + 2 = C) := Lib.hid (by omega)
  clear hA hB hC
  have C1 := C58.out W H1B.out
  have a0 : W.cell? ⟨A, 0, none⟩ = some (.pointer (some ⟨t, 0, none⟩)) := H1.out.1.cell 0
  have a1 : W.cell? ⟨A, 1, none⟩ = some (.pointer (some ⟨tb, 0, none⟩)) := H1.out.1.cell 1
  have a2 : W.cell? ⟨A, 2, none⟩ = some (.int .i64 0) := H1.out.1.cell 2
  have a3 : W.cell? ⟨A, 3, none⟩ = some (.int .i64 1) := H1.out.1.cell 3
  have a4 : W.cell? ⟨A, 4, none⟩ = some (.slice ua un uc) := H1.out.1.cell 4
  have b0 : W.cell? ⟨B, 0, none⟩ = some (.int .i64 cm) := H1.out.2.1.cell 0
  have b1 : W.cell? ⟨B, 1, none⟩ = some (.int .i64 cn) := H1.out.2.1.cell 1
  have b2 : W.cell? ⟨B, 2, none⟩ = some (.int .i64 cr.u) := H1.out.2.1.cell 2
  have b3 : W.cell? ⟨B, 3, none⟩ = some (.int .i64 cr.g) := H1.out.2.1.cell 3
  have c1 : W.cell? ⟨C, 1, none⟩ = some (.string q.path) := H1.out.2.2.cell 1
  go_upto_region 2 with (first | (go_at_call 58; (with_reducible refine C1.mono ?_); rintro e w2 ⟨f, code, rfl, hf, hb⟩; have H2 := Lib.hid (And.intro hf hb); clear hf hb; unfold Fnd.val))
  have H3 := Lib.hid (And.intro (H1B.out.trans (H2.out.2.mono H1B.out.size)) H2.out.2)
  clear C1 a0 a1 a2 a3 a4 b0 b1 b2 b3 c1 C58
  refine box1g (fun W3 hbx hnx => ?_)
  have H4B := Lib.hid hbx
  have H4 := Lib.hid hnx
  clear hbx hnx
  obtain ⟨D, hD⟩ : ∃ D, w2.heap.size = D := ⟨_, rfl⟩
  rw [hD] at H4 ⊢
  have H4E : Hid (w2.heap.size = D) := Lib.hid (by omega)
  clear hD
  have HB3 := Lib.hid (H3.out.1.trans (H4B.out.mono H3.out.1.size))
  have H1W := Lib.hid (And.intro (H1.out.1.below (H3.out.2.trans (H4B.out.mono H3.out.2.size))) (And.intro (H1.out.2.1.below (H3.out.2.trans (H4B.out.mono H3.out.2.size))) (H1.out.2.2.below (H3.out.2.trans (H4B.out.mono H3.out.2.size)))))
  have HF := Lib.hid (And.intro H2.out.1 (H2.out.1.r HC.out.1))
  clear H1 H2 H3 H1B H4B H1E H4E
  obtain ⟨dm, dn, last, am, an, has, slash⟩ := f
  dsimp only at H4 HF ⊢
  have HQ : Hid (∀ X, Below W3.heap.size W3 X → X.cell? ⟨A, 0, none⟩ = some (.pointer (some ⟨t, 0, none⟩)) ∧ X.cell? ⟨A, 1, none⟩ = some (.pointer (some ⟨tb, 0, none⟩)) ∧ X.cell? ⟨A, 2, none⟩ = some (.int .i64 0) ∧ X.cell? ⟨A, 3, none⟩ = some (.int .i64 1) ∧ X.cell? ⟨A, 4, none⟩ = some (.slice ua un uc) ∧ X.cell? ⟨B, 0, none⟩ = some (.int .i64 cm) ∧ X.cell? ⟨B, 1, none⟩ = some (.int .i64 cn) ∧ X.cell? ⟨B, 2, none⟩ = some (.int .i64 cr.u) ∧ X.cell? ⟨B, 3, none⟩ = some (.int .i64 cr.g) ∧ X.cell? ⟨C, 0, none⟩ = some (.int .i64 q.op) ∧ X.cell? ⟨C, 5, none⟩ = some (.int .i64 q.mode) ∧ X.cell? ⟨D, 0, none⟩ = some (.int .i64 dm) ∧ X.cell? ⟨D, 1, none⟩ = some (.int .i64 dn) ∧ X.cell? ⟨D, 2, none⟩ = some (.string last) ∧ X.cell? ⟨D, 3, none⟩ = some (.int .i64 am) ∧ X.cell? ⟨D, 4, none⟩ = some (.int .i64 an) ∧ X.cell? ⟨D, 5, none⟩ = some (.bool has) ∧ X.cell? ⟨D, 6, none⟩ = some (.bool slash)) := Lib.hid fun X hX => ⟨(H1W.out.1.below hX).cell 0, (H1W.out.1.below hX).cell 1, (H1W.out.1.below hX).cell 2, (H1W.out.1.below hX).cell 3, (H1W.out.1.below hX).cell 4, (H1W.out.2.1.below hX).cell 0, (H1W.out.2.1.below hX).cell 1, (H1W.out.2.1.below hX).cell 2, (H1W.out.2.1.below hX).cell 3, (H1W.out.2.2.below hX).cell 0, (H1W.out.2.2.below hX).cell 5, (H4.out.below hX).cell 0, (H4.out.below hX).cell 1, (H4.out.below hX).cell 2, (H4.out.below hX).cell 3, (H4.out.below hX).cell 4, (H4.out.below hX).cell 5, (H4.out.below hX).cell 6⟩
  obtain ⟨e0, e1, e2, e3, e4, e5, e6, e7, e8, e9, e10, e11, e12, e13, e14, e15, e16, e17⟩ := HQ.out _ (Below.refl _ _)
  have HB : Hid (Below W3.heap.size W3 W3) := Lib.hid (Below.refl _ _)
  have C61 : Hid (∀ X, Below W3.heap.size W3 X → Calls Tryz.prog 61 #[.agg #[.pointer (some ⟨t, 0, none⟩), .pointer (some ⟨tb, 0, none⟩), .int .i64 0, .int .i64 1, .slice ua un uc], .agg #[.int .i64 cm, .int .i64 cn, .int .i64 cr.u, .int .i64 cr.g], .agg #[.int .i64 dm, .int .i64 dn]] X (SomeB X)) := Lib.hid fun X hX => win_any (HC.out.1.below (HB3.out.trans (hX.mono HB3.out.size))) ua un uc cm cn cr dm dn HF.out.2.1
  have C63 : Hid (∀ X, Below W3.heap.size W3 X → ∀ m : Int, Calls Tryz.prog 63 #[.pointer (some ⟨t, 0, none⟩), .int .i64 dn, .string last, .agg #[.int .i64 0, .int .i64 1, .int .i64 m, .int .i64 cr.u, .int .i64 cr.g, .int .i64 0, .int .i64 0], .string ⟨#[]⟩] X (MakeP S t (c + 3) R T X)) := Lib.hid fun X hX m => tmake_any (HC.out.1.below (HB3.out.trans (hX.mono HB3.out.size))).tr HC.out.2.1 (by have := HC.out.1.cc; omega) dn HF.out.2.1 last HF.out.1.last ⟨0, 1, m, cr.u, cr.g, 0, 0⟩ ⟨#[]⟩ (by decide)
  have C70 : Hid (∀ X, Below W3.heap.size W3 X → Calls Tryz.prog 70 #[.pointer (some ⟨t, 0, none⟩), .int .i64 dn, .string last] X (TreeP S t c R T X)) := Lib.hid fun X hX => part_any (HC.out.1.below (HB3.out.trans (hX.mono HB3.out.size))).tr HC.out.2.1 (by have := HC.out.1.cc; omega) dn HF.out.2.1 last
  have HS : Hid (∀ X, Below W3.heap.size W3 X → ∀ code : Int, WOp S t (c + 3) R T w (.returned (.int .i64 code)) X) := Lib.hid fun X hX code => WOp.same HC.out.1 HC.out.2.1 (Nat.le_add_right _ _) (HB3.out.trans (hX.mono HB3.out.size)) code
  have HBW : Hid (∀ X, Below W3.heap.size W3 X → Below w.heap.size w X) := Lib.hid fun X hX => HB3.out.trans (hX.mono HB3.out.size)
  have C59 : Hid (has = true → ∀ X, Below W3.heap.size W3 X → Calls Tryz.prog 59 #[.agg #[.pointer (some ⟨t, 0, none⟩), .pointer (some ⟨tb, 0, none⟩), .int .i64 0, .int .i64 1, .slice ua un uc], .agg #[.int .i64 am, .int .i64 an]] X (WsP T an X)) := Lib.hid fun hh X hX => wstat_any (HC.out.1.below (HB3.out.trans (hX.mono HB3.out.size))) ua un uc am an (HF.out.2.2 hh)
  have C68 : Hid (∀ X, Below W3.heap.size W3 X → Calls Tryz.prog 68 #[.agg #[.pointer (some ⟨t, 0, none⟩), .pointer (some ⟨tb, 0, none⟩), .int .i64 0, .int .i64 1, .slice ua un uc], .agg #[.int .i64 dm, .int .i64 dn, .string last, .int .i64 am, .int .i64 an, .bool has, .bool slash]] X (SomeB X)) := Lib.hid fun X hX => busy_any (HC.out.1.below (HB3.out.trans (hX.mono HB3.out.size))) ua un uc ⟨dm, dn, last, am, an, has, slash⟩
  have C69 : Hid (has = true → ∀ X, Below W3.heap.size W3 X → Calls Tryz.prog 69 #[.agg #[.pointer (some ⟨t, 0, none⟩), .pointer (some ⟨tb, 0, none⟩), .int .i64 0, .int .i64 1, .slice ua un uc], .agg #[.int .i64 cm, .int .i64 cn, .int .i64 cr.u, .int .i64 cr.g], .agg #[.int .i64 dm, .int .i64 dn, .string last, .int .i64 am, .int .i64 an, .bool has, .bool slash]] X (SomeB X)) := Lib.hid fun hh X hX => wsticky_any (HC.out.1.below (HB3.out.trans (hX.mono HB3.out.size))) ua un uc cm cn cr ⟨dm, dn, last, am, an, has, slash⟩ HF.out.2.1 (HF.out.2.2 hh)
  cases has
  case false =>
    clear C59 C69
    go_wp2_with (first | (go_at_call 61; (with_reducible refine (C61.out _ HB.out).mono ?_); rintro e wn ⟨⟨r, rfl⟩, hb⟩; replace HB := Lib.hid (HB.out.trans (hb.mono HB.out.size)); clear hb e0 e1 e2 e3 e4 e5 e6 e7 e8 e9 e10 e11 e12 e13 e14 e15 e16 e17; obtain ⟨e0, e1, e2, e3, e4, e5, e6, e7, e8, e9, e10, e11, e12, e13, e14, e15, e16, e17⟩ := HQ.out _ HB.out; cases r) | (go_at_call 63; (with_reducible refine (C63.out _ HB.out _).mono ?_); rintro e wn hm; obtain ⟨r2, code2, rfl, hw⟩ := WOp.make (HBW.out _ HB.out) hm (Nat.le_refl _); clear hm; have HW := Lib.hid hw; clear hw))
    all_goals
      refine int_ret rfl rfl ?_
      first
        | with_reducible exact HS.out _ HB.out _
        | with_reducible exact HW.out
  case true =>
    replace C59 := Lib.hid (C59.out rfl)
    replace C69 := Lib.hid (C69.out rfl)
    go_wp2_with (first | (go_at_call 61; (with_reducible refine (C61.out _ HB.out).mono ?_); rintro e wn ⟨⟨r, rfl⟩, hb⟩; replace HB := Lib.hid (HB.out.trans (hb.mono HB.out.size)); clear hb e0 e1 e2 e3 e4 e5 e6 e7 e8 e9 e10 e11 e12 e13 e14 e15 e16 e17; obtain ⟨e0, e1, e2, e3, e4, e5, e6, e7, e8, e9, e10, e11, e12, e13, e14, e15, e16, e17⟩ := HQ.out _ HB.out; cases r) | (go_at_call 59; (with_reducible refine (C59.out _ HB.out).mono ?_); rintro e wn ⟨s, rfl, hs, hb⟩; replace HB := Lib.hid (HB.out.trans (hb.mono HB.out.size)); clear hb e0 e1 e2 e3 e4 e5 e6 e7 e8 e9 e10 e11 e12 e13 e14 e15 e16 e17; obtain ⟨e0, e1, e2, e3, e4, e5, e6, e7, e8, e9, e10, e11, e12, e13, e14, e15, e16, e17⟩ := HQ.out _ HB.out; clear hs; unfold Stt.val) | (go_at_call 68; (with_reducible refine (C68.out _ HB.out).mono ?_); rintro e wn ⟨⟨r, rfl⟩, hb⟩; replace HB := Lib.hid (HB.out.trans (hb.mono HB.out.size)); clear hb e0 e1 e2 e3 e4 e5 e6 e7 e8 e9 e10 e11 e12 e13 e14 e15 e16 e17; obtain ⟨e0, e1, e2, e3, e4, e5, e6, e7, e8, e9, e10, e11, e12, e13, e14, e15, e16, e17⟩ := HQ.out _ HB.out; cases r) | (go_at_call 69; (with_reducible refine (C69.out _ HB.out).mono ?_); rintro e wn ⟨⟨r, rfl⟩, hb⟩; replace HB := Lib.hid (HB.out.trans (hb.mono HB.out.size)); clear hb e0 e1 e2 e3 e4 e5 e6 e7 e8 e9 e10 e11 e12 e13 e14 e15 e16 e17; obtain ⟨e0, e1, e2, e3, e4, e5, e6, e7, e8, e9, e10, e11, e12, e13, e14, e15, e16, e17⟩ := HQ.out _ HB.out; cases r) | (go_at_call 70; (with_reducible refine (C70.out _ HB.out).mono ?_); rintro e wn hm; obtain ⟨code2, rfl, hw⟩ := WOp.tree (HBW.out _ HB.out) hm (Nat.le_add_right _ 3); clear hm; have HW := Lib.hid hw; clear hw))
    all_goals
      refine int_ret rfl rfl ?_
      first
        | with_reducible exact HS.out _ HB.out _
        | with_reducible exact HW.out
end Go.Proofs.YtfjghemojnhmbaaGreat
