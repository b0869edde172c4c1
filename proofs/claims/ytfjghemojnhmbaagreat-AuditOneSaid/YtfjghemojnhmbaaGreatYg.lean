/- The document's model: a new file; may what is there be opened? -/
import Derived.Test.YtfjghemojnhmbaaGreatYd
namespace Go.Proofs.YtfjghemojnhmbaaGreat
open Go.RowKit

attribute [local go_sem ↓] run_field38 run_field38s
/-- The model's tree turns, the rest stays. -/
structure MTS (S S' : Nat → Prop) (g : MG) (c : Nat) (bs : List Nat) (T T' : List (Option Nd)) (tv : Value) (l : List Mt) (fl : Nat → Nat → Fl) (cw : Nat → Int × Int) (w w' : World) : Prop where
  sub : ∀ k, S k → S' k
  sup : ∀ k, S' k → S k ∨ w.heap.size ≤ k
  fr : Fr S TT w w'
  at_ : MA S' w' g c bs T' tv l fl cw
  kk : KK T T'
theorem MTS.ms {S S' : Nat → Prop} {g : MG} {c : Nat} {bs : List Nat} {T T' : List (Option Nd)} {tv : Value} {l : List Mt} {fl : Nat → Nat → Fl} {cw : Nat → Int × Int} {w w' : World} (h : MTS S S' g c bs T T' tv l fl cw w w') : MS S S' g c w w' :=
  ⟨h.sub, h.sup, h.fr.mono (fun _ h => .inl h) TT_TD, _, _, _, _, _, _, h.at_⟩
theorem MTS.same {S : Nat → Prop} {w w' : World} {g : MG} {c c' : Nat} {bs : List Nat} {T : List (Option Nd)} {tv : Value} {l : List Mt} {fl : Nat → Nat → Fl} {cw : Nat → Int × Int} (h : MA S w g c bs T tv l fl cw) (hb : Below w.heap.size w w') (hc : c ≤ c') (hc' : c' ≤ 99000) : MTS S S g c' bs T T tv l fl cw w w' :=
  ⟨fun _ h => h, fun _ h => .inl h, Fr.of_below hb, (h.below hb).mono hc hc', KK.refl T⟩
theorem MTS.below {S S' : Nat → Prop} {g : MG} {c : Nat} {bs : List Nat} {T T' : List (Option Nd)} {tv : Value} {l : List Mt} {fl : Nat → Nat → Fl} {cw : Nat → Int × Int} {w w1 w' : World} (hb : Below w.heap.size w w1) (h : MTS S S' g c bs T T' tv l fl cw w1 w') : MTS S S' g c bs T T' tv l fl cw w w' := by
  refine ⟨h.sub, fun k hk => ?_, (Fr.of_below (S := S) hb).trans h.fr (fun _ h => .inl h), h.at_, h.kk⟩
  have := hb.size
  rcases h.sup k hk with q | q
  · exact .inl q
  · exact .inr (by omega)
theorem MTS.tree {S S' : Nat → Prop} {w w' : World} {g : MG} {c c' : Nat} {bs bs' : List Nat} {T T' : List (Option Nd)} {tv : Value} {l : List Mt} {fl : Nat → Nat → Fl} {cw : Nat → Int × Int} (h : MA S w g c bs T tv l fl cw) (hs : TStep S S' g.t c' bs' w w' T') (hi : TInv T' (fun k => mrefs l k + (frefs fl k + crefs cw k)) none) (hk : KK T T') (hc : c ≤ c') (hc' : c' ≤ 99000) : MTS S S' g c' bs' T T' tv l fl cw w w' :=
  ⟨hs.sub, hs.sup, hs.fr, h.world (WStep.tree hs h.wi.tab) hi h.wi.mi (h.wi.ml.kept hi hk (fun _ _ h _ => h) h.wi.m0) h.wi.m0 (Nat.le_trans h.wi.ll hc) hc' hc, hk⟩
/-- What 'make' does. -/
def Mk15P (S : Nat → Prop) (g : MG) (c : Nat) (T : List (Option Nd)) (tv : Value) (l : List Mt) (fl : Nat → Nat → Fl) (cw : Nat → Int × Int) (w : World) (e : Ending) (w' : World) : Prop := ∃ (n code : Int) (S' : Nat → Prop) (bs' : List Nat) (T' : List (Option Nd)), e = .returned (.tuple #[.int .i64 n, .int .i64 code]) ∧ MTS S S' g c bs' T T' tv l fl cw w w' ∧ (code = 0 → Liv T' n)
theorem who_at {w : World} {wb wo wc : Nat} (h : Win w 0 56 2 (.slice (some ⟨wb, wo, none⟩) 2 wc) 2 whocells) {i : Nat} (hi : i < 2) : w.cell? ⟨wb, wo + i * 2, none⟩ = some (.int .i64 (crOf i).u) ∧ w.cell? ⟨wb, wo + i * 2 + 1, none⟩ = some (.int .i64 (crOf i).g) := by
  match i, hi with
  | 0, _ => exact ⟨h.cells 0 (by omega), h.cells 1 (by omega)⟩
  | 1, _ => exact ⟨h.cells 2 (by omega), h.cells 3 (by omega)⟩
theorem two_ret {fn : Func} {tmps : Array Value} {w : World} {a b : Nat} {n m : Int} {K : Ending → World → Prop} (hr : fn.results = #[.tmp a, .tmp b]) (h : tmps.getD a undef = .int .i64 n) (h2 : tmps.getD b undef = .int .i64 m) (hk : K (.returned (.tuple #[.int .i64 n, .int .i64 m])) w) : bodyPost Tryz.prog fn K .ret ⟨tmps, []⟩ w := by
  refine bodyPost_ret ?_ rfl hk
  unfold results
  rw [hr]
  have h' : tmps[a]?.getD undef = .int .i64 n := by rw [← h]; simp
  have h2' : tmps[b]?.getD undef = .int .i64 m := by rw [← h2]; simp
  simp [h', h2', go_sem]
set_option maxRecDepth 100000 in
set_option maxHeartbeats 4000000 in
theorem make15_any {S : Nat → Prop} {w : World} {g : MG} {c : Nat} {bs : List Nat} {T : List (Option Nd)} {tv : Value} {l : List Mt} {fl : Nat → Nat → Fl} {cw : Nat → Int × Int} (hm : MA S w g c bs T tv l fl cw) (p : Nat) (hp : p < 2) (q : Cl) (f : Fnd) (hf : FndOk T f) (hcc : c + 3 ≤ 99000) : Calls Tryz.prog 49 #[.pointer (some ⟨g.m, 0, none⟩), .int .i64 (p : Int), q.val, f.val] w (Mk15P S g (c + 3) T tv l fl cw w) := by
  have HC := Lib.hid (And.intro hm (And.intro hp (And.intro hf (And.intro (hf.r hm.wi.ctx) hcc))))
  have k0 : (0 : Int) ≤ (p : Int) := by omega
  have k1 : (p : Int) < (2 : Int) := by omega
  clear hm hf hcc hp
  have HS : Hid (∀ X, Below w.heap.size w X → ∀ n code : Int, code ≠ 0 → Mk15P S g (c + 3) T tv l fl cw w (.returned (.tuple #[.int .i64 n, .int .i64 code])) X) := Lib.hid fun X hX n code h => ⟨n, code, S, bs, T, rfl, MTS.same HC.out.1 hX (Nat.le_add_right c 3) HC.out.2.2.2.2, fun e => absurd e h⟩
  unfold Cl.val Fnd.val
  obtain ⟨fdm, fdn, fl', fam, fan, fh, fs⟩ := f
  dsimp only at HC ⊢
  go_enter Tryz.func49, Tryz.ntmps49
  go_upto_region 1 with fail
  refine box2g (fun W hbx hnx => ?_)
  have H1B := Lib.hid hbx
  have H1 := Lib.hid hnx
  clear hbx hnx
  generalize hD : w.heap.size + 1 = D at H1 ⊢
  obtain ⟨C, hC⟩ : ∃ C, w.heap.size = C := ⟨_, rfl⟩
  rw [hC] at H1 ⊢
  have H1E : Hid (w.heap.size = C ∧ w.heap.size + 1 = D) := Lib.hid (by omega)
  clear hC hD
  have HM := Lib.hid (HC.out.1.below H1B.out)
  have HQ : Hid (∀ X, Below W.heap.size W X → X.cell? ⟨g.m, 3, none⟩ = some (.slice (some ⟨g.wb, g.wo, none⟩) 2 g.wc) ∧ X.cell? ⟨g.m, 4, none⟩ = some (.pointer (some ⟨g.t, 0, none⟩)) ∧ X.cell? ⟨g.wb, g.wo + p * 2, none⟩ = some (.int .i64 (crOf p).u) ∧ X.cell? ⟨g.wb, g.wo + p * 2 + 1, none⟩ = some (.int .i64 (crOf p).g) ∧ X.cell? ⟨C, 4, none⟩ = some (.int .i64 q.flags) ∧ X.cell? ⟨C, 5, none⟩ = some (.int .i64 q.mode) ∧ X.cell? ⟨D, 1, none⟩ = some (.int .i64 fdn) ∧ X.cell? ⟨D, 2, none⟩ = some (.string fl') ∧ X.cell? ⟨D, 6, none⟩ = some (.bool fs)) := Lib.hid fun X hX => ⟨(HM.out.below hX).blk.cell 3, (HM.out.below hX).blk.cell 4, ((HM.out.below hX).whocell HC.out.2.1).1, ((HM.out.below hX).whocell HC.out.2.1).2, (H1.out.1.below hX).cell 4, (H1.out.1.below hX).cell 5, (H1.out.2.below hX).cell 1, (H1.out.2.below hX).cell 2, (H1.out.2.below hX).cell 6⟩
  obtain ⟨q0, q1, q2, q3, q4, q5, q6, q7, q8⟩ := HQ.out _ (Below.refl _ _)
  have C53 : Hid (∀ X, Below W.heap.size W X → Calls Tryz.prog 53 #[.pointer (some ⟨g.m, 0, none⟩), .int .i64 fdn] X (WsP T fdn X)) := Lib.hid fun X hX => mstat_any (HM.out.below hX) fdn HC.out.2.2.2.1.1
  have C75 : Hid (∀ (s : Stt) (X : World), Calls Tryz.prog 75 #[.agg #[.int .i64 (crOf p).u, .int .i64 (crOf p).g], .agg #[.int .i64 s.node, .int .i64 s.kind, .int .i64 s.mode, .int .i64 s.uid, .int .i64 s.gid, .int .i64 s.links, .int .i64 s.size], .int .i64 2] X (SomeB X)) := Lib.hid (fun s X => may_any (crOf p) s 2 X)
  have C63 : Hid (∀ X, Below W.heap.size W X → ∀ m : Int, Calls Tryz.prog 63 #[.pointer (some ⟨g.t, 0, none⟩), .int .i64 fdn, .string fl', .agg #[.int .i64 0, .int .i64 2, .int .i64 m, .int .i64 (crOf p).u, .int .i64 (crOf p).g, .int .i64 0, .int .i64 0], .string ⟨#[]⟩] X (MakeP S g.t (c + 3) (fun k => mrefs l k + (frefs fl k + crefs cw k)) T X)) := Lib.hid fun X hX m => tmake_any (HM.out.below hX).wi.tr HC.out.1.wi.inv (by have := HC.out.2.2.2.2; omega) fdn HC.out.2.2.2.1.1 fl' HC.out.2.2.1.last ⟨0, 2, m, (crOf p).u, (crOf p).g, 0, 0⟩ ⟨#[]⟩ (by decide)
  have HBW : Hid (∀ X, Below W.heap.size W X → Below w.heap.size w X) := Lib.hid fun X hX => H1B.out.trans (hX.mono H1B.out.size)
  obtain ⟨b4, h4⟩ : ∃ b4, (bits .and .i64 q.flags 4 == 0) = b4 := ⟨_, rfl⟩
  cases b4
  case true =>
    go_wp2_with fail
    refine two_ret rfl rfl rfl ?_
    exact HS.out _ H1B.out _ _ (by decide)
  cases fs
  case true =>
    go_wp2_with fail
    refine two_ret rfl rfl rfl ?_
    exact HS.out _ H1B.out _ _ (by decide)
  go_upto_region 5 with fail
  have HBd : Hid (Below W.heap.size W W.drew) := Lib.hid (Below.refl _ _).drew
  have C1 := C53.out _ HBd.out
  go_region_held3 (fun X => X.cell? ⟨g.m, 3, none⟩ = some (.slice (some ⟨g.wb, g.wo, none⟩) 2 g.wc) ∧ X.cell? ⟨g.m, 4, none⟩ = some (.pointer (some ⟨g.t, 0, none⟩)) ∧ X.cell? ⟨g.wb, g.wo + p * 2, none⟩ = some (.int .i64 (crOf p).u) ∧ X.cell? ⟨g.wb, g.wo + p * 2 + 1, none⟩ = some (.int .i64 (crOf p).g) ∧ X.cell? ⟨C, 4, none⟩ = some (.int .i64 q.flags) ∧ X.cell? ⟨C, 5, none⟩ = some (.int .i64 q.mode) ∧ X.cell? ⟨D, 1, none⟩ = some (.int .i64 fdn) ∧ X.cell? ⟨D, 2, none⟩ = some (.string fl') ∧ X.cell? ⟨D, 6, none⟩ = some (.bool false)) (first | (refine HQ.out _ ?_; first | (with_reducible exact HBd.out) | (with_reducible exact HB2.out) | (with_reducible exact HB3.out))) (first | (go_at_call 53; (with_reducible refine C1.mono ?_); rintro e w2 ⟨s, rfl, hs, hb⟩; have HB2 : Hid (Below W.heap.size W w2) := Lib.hid (HBd.out.trans (hb.mono HBd.out.size)); clear hs hb; have C2 := C75.out s w2; unfold Stt.val) | (go_at_call 75; (with_reducible refine C2.mono ?_); rintro e w3 ⟨⟨r, rfl⟩, hb⟩; have HB3 : Hid (Below W.heap.size W w3) := Lib.hid (HB2.out.trans (hb.mono HB2.out.size)); clear hb))
  clear q0 q1 q2 q3 q4 q5 q6 q7 q8 C1
  obtain ⟨q0, q1, q2, q3, q4, q5, q6, q7, q8⟩ := HQ.out _ HB3.out
  cases r
  case false =>
    go_wp2_with fail
    refine two_ret rfl rfl rfl ?_
    exact HS.out _ (HBW.out _ HB3.out) _ _ (by decide)
  have HBe := Lib.hid HB3.out.drew
  go_upto_region 7 with fail
  have C3 := C63.out _ HBe.out
  have HQF : Hid (∀ X S0, Fr S0 TT w3.drew X → X.cell? ⟨g.m, 3, none⟩ = some (.slice (some ⟨g.wb, g.wo, none⟩) 2 g.wc) ∧ X.cell? ⟨g.m, 4, none⟩ = some (.pointer (some ⟨g.t, 0, none⟩)) ∧ X.cell? ⟨g.wb, g.wo + p * 2, none⟩ = some (.int .i64 (crOf p).u) ∧ X.cell? ⟨g.wb, g.wo + p * 2 + 1, none⟩ = some (.int .i64 (crOf p).g) ∧ X.cell? ⟨C, 4, none⟩ = some (.int .i64 q.flags) ∧ X.cell? ⟨C, 5, none⟩ = some (.int .i64 q.mode) ∧ X.cell? ⟨D, 1, none⟩ = some (.int .i64 fdn) ∧ X.cell? ⟨D, 2, none⟩ = some (.string fl') ∧ X.cell? ⟨D, 6, none⟩ = some (.bool false)) := Lib.hid fun X S0 hX => ⟨((HM.out.below HBe.out).blk.fr hX (by decide)).cell 3, ((HM.out.below HBe.out).blk.fr hX (by decide)).cell 4, (who_at ((HM.out.below HBe.out).who.frT hX (by decide)) HC.out.2.1).1, (who_at ((HM.out.below HBe.out).who.frT hX (by decide)) HC.out.2.1).2, ((H1.out.1.below HBe.out).fr hX (by decide)).cell 4, ((H1.out.1.below HBe.out).fr hX (by decide)).cell 5, ((H1.out.2.below HBe.out).fr hX (by decide)).cell 1, ((H1.out.2.below HBe.out).fr hX (by decide)).cell 2, ((H1.out.2.below HBe.out).fr hX (by decide)).cell 6⟩
  go_region_held3 (fun X => X.cell? ⟨g.m, 3, none⟩ = some (.slice (some ⟨g.wb, g.wo, none⟩) 2 g.wc) ∧ X.cell? ⟨g.m, 4, none⟩ = some (.pointer (some ⟨g.t, 0, none⟩)) ∧ X.cell? ⟨g.wb, g.wo + p * 2, none⟩ = some (.int .i64 (crOf p).u) ∧ X.cell? ⟨g.wb, g.wo + p * 2 + 1, none⟩ = some (.int .i64 (crOf p).g) ∧ X.cell? ⟨C, 4, none⟩ = some (.int .i64 q.flags) ∧ X.cell? ⟨C, 5, none⟩ = some (.int .i64 q.mode) ∧ X.cell? ⟨D, 1, none⟩ = some (.int .i64 fdn) ∧ X.cell? ⟨D, 2, none⟩ = some (.string fl') ∧ X.cell? ⟨D, 6, none⟩ = some (.bool false)) (first | (refine HQ.out _ ?_; (with_reducible exact HBe.out)) | (with_reducible exact HQF.out _ _ HF5.out)) (first | (go_at_call 63; (with_reducible refine (C3 _).mono ?_); rintro e w5 ⟨r, code, S5, bs5, T5, rfl, _, _, _, _, hs5, hi5, hk5, hl5⟩; have HF5 := Lib.hid hs5.fr; have HR : Hid (Mk15P S g (c + 3) T tv l fl cw w (.returned (.tuple #[.int .i64 r, .int .i64 code])) w5) := Lib.hid ⟨r, code, S5, bs5, T5, rfl, MTS.below (HBW.out _ HBe.out) (MTS.tree (HM.out.below HBe.out) hs5 hi5 hk5 (Nat.le_add_right c 3) HC.out.2.2.2.2), hl5⟩; clear hs5 hi5 hk5 hl5))
  go_wp2_with fail
  refine two_ret rfl rfl rfl ?_
  with_reducible exact HR.out
end Go.Proofs.YtfjghemojnhmbaaGreat
/- Regions by hand. -/
namespace Go.Proofs.YtfjghemojnhmbaaGreat
open Go.RowKit

/-- The i-th operation, for 'rfl'. -/
def opAt : List Oper → Nat → Option Oper
  | [], _ => none
  | x :: _, 0 => some x
  | _ :: l, i + 1 => opAt l i
theorem opAt_get : ∀ (l : List Oper) (i : Nat), opAt l i = l[i]?
  | [], _ => rfl
  | _ :: _, 0 => rfl
  | _ :: l, i + 1 => by rw [opAt, opAt_get l i, List.getElem?_cons_succ]
section
variable {P : Program} {ops : List Oper} {Q : Exit → Act → World → Prop} {md : Region.Mode} {S : World → Prop} {fuel : Nat} {listed : Array Bool} {a : Act} {w : World}
theorem take_on (i : Nat) {oi : Oper} {v : Value} (hi : opAt ops i = some oi) (hs : Region.noSelect ops.toArray = true) (hf : Region.free md ops.toArray listed i = true) (hr : (Region.ready md ops.toArray listed).contains i = true) (hw : Region.wanted oi (yielded ops.toArray a.tmps) = true) (hS : S w) (hQ : ∀ c a w, Q (.panic c) (a.put oi.dst v) w → Q (.panic c) a w) (hy : ∀ w, S w → (execOp a.eval oi).run P w = .ok (.value v) w) (h : wpAnyH P md ops.toArray Q S fuel (listed.setIfInBounds i true) (a.put oi.dst v) w) : wpAnyH P md ops.toArray Q S (fuel + 1) listed a w :=
  wpAnyH_take (by rw [List.getElem?_toArray, ← opAt_get, hi]) hs hf hr hQ (Or.inl ⟨hw, hy⟩) hS h
theorem take_off (i : Nat) {oi : Oper} (hi : opAt ops i = some oi) (hs : Region.noSelect ops.toArray = true) (hf : Region.free md ops.toArray listed i = true) (hr : (Region.ready md ops.toArray listed).contains i = true) (hw : Region.wanted oi (yielded ops.toArray a.tmps) = false) (hS : S w) (hQ : ∀ c a w, Q (.panic c) (a.put oi.dst undef) w → Q (.panic c) a w) (h : wpAnyH P md ops.toArray Q S fuel (listed.setIfInBounds i true) (a.put oi.dst undef) w) : wpAnyH P md ops.toArray Q S (fuel + 1) listed a w :=
  wpAnyH_take (by rw [List.getElem?_toArray, ← opAt_get, hi]) hs hf hr hQ (Or.inr ⟨hw, rfl⟩) hS h
theorem step_on (i : Nat) {oi : Oper} {rs : List Nat} (hi : opAt ops i = some oi) (hw : Region.wanted oi (yielded ops.toArray a.tmps) = true) (h : ∀ K' : Act → World → Prop, Shut (∀ a w, S w → (S w → wpAnyH P md ops.toArray Q S fuel (listed.setIfInBounds i true) a w) → K' a w) → Oper.wp P oi a w K' Q)
    (hs : AllReadyH P md ops.toArray Q S fuel listed a w rs) : AllReadyH P md ops.toArray Q S fuel listed a w (i :: rs) :=
  AllReadyH.cons (by rw [List.getElem?_toArray, ← opAt_get, hi]) (fun K' hK => by rw [if_pos hw]; exact h K' hK) hs
theorem hand_start (n : Nat) {id : Nat} (hm : P.follows .mixedOrders = true) (hn : ops.length = n) (hS : S w.drew) (h : S w.drew → wpAnyH P .any ops.toArray Q S n (List.replicate n false).toArray a w.drew) : (Code.region id ops.toArray true).wp P Q a w :=
  wp_region_held_drew hm hS (fun hs => by have := h hs; rw [← hn] at this; simpa using this)
theorem seq_on (n : Nat) {oi : Oper} {v : Value} (hi : opAt ops (n - fuel) = some oi) (hs : Region.noSelect ops.toArray = true) (hf : Region.free md ops.toArray listed (n - fuel) = true) (hr : (Region.ready md ops.toArray listed).contains (n - fuel) = true) (hw : Region.wanted oi (yielded ops.toArray a.tmps) = true) (hS : S w) (hQ : ∀ c a w, Q (.panic c) (a.put oi.dst v) w → Q (.panic c) a w) (hy : ∀ w, S w → (execOp a.eval oi).run P w = .ok (.value v) w) (h : wpAnyH P md ops.toArray Q S fuel (listed.setIfInBounds (n - fuel) true) (a.put oi.dst v) w) : wpAnyH P md ops.toArray Q S (fuel + 1) listed a w := take_on _ hi hs hf hr hw hS hQ hy h
theorem seq_off (n : Nat) {oi : Oper} (hi : opAt ops (n - fuel) = some oi) (hs : Region.noSelect ops.toArray = true) (hf : Region.free md ops.toArray listed (n - fuel) = true) (hr : (Region.ready md ops.toArray listed).contains (n - fuel) = true) (hw : Region.wanted oi (yielded ops.toArray a.tmps) = false) (hS : S w) (hQ : ∀ c a w, Q (.panic c) (a.put oi.dst undef) w → Q (.panic c) a w) (h : wpAnyH P md ops.toArray Q S fuel (listed.setIfInBounds (n - fuel) true) (a.put oi.dst undef) w) : wpAnyH P md ops.toArray Q S (fuel + 1) listed a w := take_off _ hi hs hf hr hw hS hQ h
end
end Go.Proofs.YtfjghemojnhmbaaGreat
/- The document's model: Open, what is below it. -/
namespace Go.Proofs.YtfjghemojnhmbaaGreat
open Go.RowKit

theorem TInv.less {T : List (Option Nd)} {R R' : Nat → Nat} {ex : Option Nat} (h : TInv T R ex) (e : ∀ k, R' k ≤ R k) : TInv T R' ex :=
  ⟨h.root, h.el, h.ns, h.fd, h.na, h.ne, h.up, h.ends, fun k hk => by
    obtain ⟨i, x, h1, h2, h3⟩ := h.refs k (Nat.lt_of_lt_of_le hk (e k))
    exact ⟨i, x, h1, h2, Nat.le_trans (e k) h3⟩⟩
/-- A file was opened, its node held. -/
theorem MA.opened {S : Nat → Prop} {w w6 w7 : World} {g : MG} {c : Nat} {bs : List Nat} {T T2 : List (Option Nd)} {tv : Value} {l : List Mt} {fl fl2 : Nat → Nat → Fl} {cw : Nat → Int × Int} {an : Int} (h : MA S w g c bs T tv l fl cw) (hf : Fr S [121] w w6) (ht : FtAt S w6 g.fb fl2) (hr : ∀ j, frefs fl2 j ≤ frefs fl j + if an = (j : Int) then 1 else 0) (hps : ∀ p k, p < 8 → k < 8 → (fl2 p k).pos ≤ 4294967296 + 1024 * (c : Int))
    (hs : TStep S S g.t (c + 1) bs w6 w7 T2) (hi : TInv T2 (fun j => (mrefs l j + (frefs fl j + crefs cw j)) + if an = (j : Int) then 1 else 0) none) (hk : KK T T2) (hc : c + 1 ≤ 99000) : MA S w7 g (c + 1) bs T2 tv l fl2 cw := by
  have hi2 : TInv T2 (fun j => mrefs l j + (frefs fl2 j + crefs cw j)) none := hi.less fun j => by have := hr j; omega
  have hi3 : TInv T2 (fun j => mrefs l j + (frefs fl j + crefs cw j)) none := hi.less fun j => by simp
  exact ⟨(h.blk.fr hf (by decide)).fr hs.fr (by decide), (h.who.frT hf (by decide)).frT hs.fr (by decide), (h.cwd.frT hf (by decide)).frT hs.fr (by decide), h.cwS, ht.fr (fun _ h => h) hs.fr (by decide), ⟨hs.tr, hi2, (h.wi.tab.fr (fun _ h => h) hf (by decide) (by decide)).fr (fun _ h => h) hs.fr (by decide) (by decide), h.wi.mi, h.wi.ml.kept hi3 hk (fun _ _ h _ => h) h.wi.m0, h.wi.m0, Nat.le_succ_of_le h.wi.ll, hc⟩, h.cr, fun p k hp hk => by have := hps p k hp hk; omega⟩
theorem MA.cwcell2 {S : Nat → Prop} {w : World} {g : MG} {c : Nat} {bs : List Nat} {T : List (Option Nd)} {tv : Value} {l : List Mt} {fl : Nat → Nat → Fl} {cw : Nat → Int × Int} (h : MA S w g c bs T tv l fl cw) {p : Nat} (hp : p < 2) : (w.cell? ⟨g.m, 3, none⟩ = some (.slice (some ⟨g.wb, g.wo, none⟩) 2 g.wc) ∧ w.cell? ⟨g.m, 4, none⟩ = some (.pointer (some ⟨g.t, 0, none⟩)) ∧ w.cell? ⟨g.m, 5, none⟩ = some (.pointer (some ⟨g.tb, 0, none⟩)) ∧ w.cell? ⟨g.m, 6, none⟩ = some (.pointer (some ⟨g.fb, 0, none⟩)) ∧ w.cell? ⟨g.m, 7, none⟩ = some (.slice (some ⟨g.cb, g.co, none⟩) 2 g.cc)) ∧ (w.cell? ⟨g.wb, g.wo + p * 2, none⟩ = some (.int .i64 (crOf p).u) ∧ w.cell? ⟨g.wb, g.wo + p * 2 + 1, none⟩ = some (.int .i64 (crOf p).g)) ∧ w.cell? ⟨g.cb, g.co + p * 2, none⟩ = some (.int .i64 (cw p).1) ∧ w.cell? ⟨g.cb, g.co + p * 2 + 1, none⟩ = some (.int .i64 (cw p).2) :=
  ⟨mcell h.blk, who_at h.who hp, h.cwcell hp⟩
theorem cells7 {w : World} {D : Nat} {e : TypeId} {a b c d f g h : Value} (k : Blk w D e #[a, b, c, d, f, g, h]) : w.cell? ⟨D, 0, none⟩ = some a ∧ w.cell? ⟨D, 1, none⟩ = some b ∧ w.cell? ⟨D, 2, none⟩ = some c ∧ w.cell? ⟨D, 3, none⟩ = some d ∧ w.cell? ⟨D, 4, none⟩ = some f ∧ w.cell? ⟨D, 5, none⟩ = some g ∧ w.cell? ⟨D, 6, none⟩ = some h :=
  ⟨k.cell 0, k.cell 1, k.cell 2, k.cell 3, k.cell 4, k.cell 5, k.cell 6⟩
theorem cells2 {w : World} {D : Nat} {e : TypeId} {a b : Value} (k : Blk w D e #[a, b]) : w.cell? ⟨D, 0, none⟩ = some a ∧ w.cell? ⟨D, 1, none⟩ = some b ∧ (∀ j, w.frozen? ⟨D, j, none⟩ = false) :=
  ⟨k.cell 0, k.cell 1, fun j => k.free j⟩
theorem fr_pl {S : Nat → Prop} {X : World} {F : Nat} {a b : Value} (hb : Blk X F 75 #[a, b]) (hs : S F) (m n : Value) : Fr S [75] X (pl2 X F m n) :=
  ((Fr.refl S [75] X).setCell hb (.inl hs) (by simp) m).setCell (hb.set 0 m) (.inl hs) (by simp) n
theorem Blk.pl75 {X : World} {F : Nat} {a b : Value} (hb : Blk X F 75 #[a, b]) (m n : Value) : Blk (pl2 X F m n) F 75 #[m, n] := (hb.set 0 m).set 1 n
/-- A place is written that is none of the model's. -/
theorem MA.pl {S : Nat → Prop} {w : World} {g : MG} {c : Nat} {bs : List Nat} {T : List (Option Nd)} {tv : Value} {l : List Mt} {fl : Nat → Nat → Fl} {cw : Nat → Int × Int} (h : MA S w g c bs T tv l fl cw) {F : Nat} {a b : Value} (hb : Blk w F 75 #[a, b]) (hF : g.cb ≠ F) (m n : Value) : MA S (pl2 w F m n) g c bs T tv l fl cw := by
  have hf := fr_pl (S := fun _ => True) hb trivial m n
  have hm : Frm [F] w (pl2 w F m n) := ((Frm.refl [F] w).setCell (by simp) m).setCell (by simp) n
  exact ⟨h.blk.fr hf (by decide), h.who.frT hf (by decide), h.cwd.frm hm (fun k hk e => by simp [Value.ownBlock] at hk e; omega), h.cwS, h.ft.fr (fun _ h => h) hf (by decide), ⟨h.wi.tr.fr (fun _ h => h) hf (by decide) (by decide), h.wi.inv, h.wi.tab.fr (fun _ h => h) hf (by decide) (by decide), h.wi.mi, h.wi.ml, h.wi.m0, h.wi.ll, h.wi.cc⟩, h.cr, h.ps⟩
theorem MTS.pl {S S' : Nat → Prop} {g : MG} {c : Nat} {bs : List Nat} {T T' : List (Option Nd)} {tv : Value} {l : List Mt} {fl : Nat → Nat → Fl} {cw : Nat → Int × Int} {w w' : World} (h : MTS S S' g c bs T T' tv l fl cw w w') {F : Nat} {a b : Value} (hb : Blk w' F 75 #[a, b]) (hF : g.cb ≠ F) (hw : w.heap.size ≤ F) (m n : Value) : MTS S S' g c bs T T' tv l fl cw w (pl2 w' F m n) :=
  ⟨h.sub, h.sup, (h.fr.newSet hw m).newSet hw n, h.at_.pl hb hF m n, h.kk⟩
theorem MTS.then {S S' S'' : Nat → Prop} {g : MG} {c c' : Nat} {bs bs' : List Nat} {T T' T'' : List (Option Nd)} {tv : Value} {l : List Mt} {fl : Nat → Nat → Fl} {cw : Nat → Int × Int} {w w' w'' : World} (h : MTS S S' g c bs T T' tv l fl cw w w') (k : MTS S' S'' g c' bs' T' T'' tv l fl cw w' w'') : MTS S S'' g c' bs' T T'' tv l fl cw w w'' := by
  refine ⟨fun i hi => k.sub i (h.sub i hi), fun i hi => ?_, h.fr.trans k.fr h.sup, k.at_, h.kk.trans k.kk⟩
  have := h.fr.size
  rcases k.sup i hi with q | q
  · exact h.sup i q
  · exact .inr (by omega)
theorem MTS.after {S S' : Nat → Prop} {g : MG} {c c' : Nat} {bs : List Nat} {T T' : List (Option Nd)} {tv : Value} {l : List Mt} {fl : Nat → Nat → Fl} {cw : Nat → Int × Int} {w w' X : World} (h : MTS S S' g c bs T T' tv l fl cw w w') (hb : Below w'.heap.size w' X) (hc : c ≤ c') (hc' : c' ≤ 99000) : MTS S S' g c' bs T T' tv l fl cw w X := h.then (MTS.same h.at_ hb hc hc')
end Go.Proofs.YtfjghemojnhmbaaGreat
