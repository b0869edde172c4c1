/- The document's model: Do. -/
import Derived.Test.YtfjghemojnhmbaaGreatYe
import Derived.Test.YtfjghemojnhmbaaGreatYi
import Derived.Test.YtfjghemojnhmbaaGreatYj
namespace Go.Proofs.YtfjghemojnhmbaaGreat
open Go.RowKit

attribute [local go_sem ↓] run_field38 run_field38s
/-- Get, by what it tells. -/
theorem get2_any {S : Nat → Prop} {w : World} {fb : Nat} {fl : Nat → Nat → Fl} (h : FtAt S w fb fl) {p : Nat} (hp : p < 8) (fd : Int) : Calls Tryz.prog 27 #[.pointer (some ⟨fb, 0, none⟩), .int .i64 (p : Int), .int .i64 fd] w fun e w' => ∃ am an flg pos code : Int, e = .returned (.tuple #[.agg #[.int .i64 am, .int .i64 an, .int .i64 flg, .int .i64 pos], .int .i64 code]) ∧ Below w.heap.size w w' ∧ (code = 0 → ∃ k : Nat, k < 8 ∧ fd = k ∧ (fl p k).is = true ∧ am = (fl p k).am ∧ an = (fl p k).an ∧ flg = (fl p k).flags ∧ pos = (fl p k).pos) := by
  refine (get_any h hp fd).mono ?_
  rintro e w' ⟨hb, ⟨code, h0, _, _, rfl⟩ | ⟨k, hk, hfd, hi, rfl⟩⟩
  · exact ⟨0, 0, 0, 0, code, rfl, hb, fun q => absurd q h0⟩
  · exact ⟨_, _, _, _, 0, rfl, hb, fun _ => ⟨k, hk, hfd, hi, rfl, rfl, rfl, rfl⟩⟩
/-- A call of the model's, told on. -/
theorem ro_on {S S' : Nat → Prop} {w X w5 : World} {g : MG} {c c' E : Nat} {op : Int} {r : Res} {y z : Value} (hb : Below w.heap.size w X) (ms : MS S S' g c X w5) (hm : Rmem X w5 S S' r y z) (hE : Blk X E 40 rz) (wE : w.heap.size ≤ E) (hS : ∀ k, S k → k < w.heap.size) (hf : fldI op r = true) (hc : c ≤ c') (hc' : c' ≤ 99000) :
    Blk w5 E 40 rz ∧ ∀ tm : Array Value, tm.getD 6 undef = .pointer (some ⟨E, 0, none⟩) → bodyPost Tryz.prog Tryz.f12 (DoP S g c' op w) .ret ⟨tm, []⟩ (res11 w5 E (.int .i64 r.w) (.int .i64 r.n) y z (.int .i64 r.s0) (.int .i64 r.s1) (.int .i64 r.s2) (.int .i64 r.s3) (.int .i64 r.s4) (.int .i64 r.s5) (.int .i64 r.s6)) :=
  ⟨hE.fr ms.fr (by decide), fun tm h4 => do_fin r y z rfl ((ms.below hb).mono hc hc') (hE.fr ms.fr (by decide)) wE (DMem.of (hm.low hb.size) hS) (hm.off hE.lt) hf h4⟩
theorem closed_is {S : Nat → Prop} {fb : Nat} {fl : Nat → Nat → Fl} {p k : Nat} {fd code : Int} {w w' : World} (h : FlP S fb fl p fd (fun _ => ⟨false, 0, 0, 0, 0⟩) w w' (code = 0)) (hno : code ≠ 0 → ∀ k : Nat, k < 8 → fd = k → (fl p k).is = false) (hk : k < 8) (hfd : fd = k) (his : (fl p k).is = true) : Fr S [121] w w' ∧ FtAt S w' fb (upd fl p k ⟨false, 0, 0, 0, 0⟩) := by
  obtain ⟨h1, ⟨h2, _⟩ | ⟨_, k', hk', hfd', _, h2⟩⟩ := h
  · have := hno h2 k hk hfd
    rw [his] at this
    cases this
  · obtain rfl : k = k' := by omega
    exact ⟨h1, h2⟩
def st4 (X : World) (D : Nat) (a b c d : Value) : World := (((X.setCell ⟨D, 0, none⟩ a).setCell ⟨D, 1, none⟩ b).setCell ⟨D, 2, none⟩ c).setCell ⟨D, 3, none⟩ d
theorem cells4 {w : World} {D : Nat} {e : TypeId} {a b c d : Value} (k : Blk w D e #[a, b, c, d]) : w.cell? ⟨D, 0, none⟩ = some a ∧ w.cell? ⟨D, 1, none⟩ = some b ∧ w.cell? ⟨D, 2, none⟩ = some c ∧ w.cell? ⟨D, 3, none⟩ = some d ∧ (∀ j, w.frozen? ⟨D, j, none⟩ = false) := ⟨k.cell 0, k.cell 1, k.cell 2, k.cell 3, k.free⟩
theorem below_st4 {B : Nat} {w X : World} {D : Nat} (h : Below B w X) (hD : B ≤ D) (a b c d : Value) : Below B w (st4 X D a b c d) := (((h.setCell hD a).setCell hD b).setCell hD c).setCell hD d
theorem Blk.st4 {w : World} {D : Nat} {e : TypeId} {a0 b0 c0 d0 : Value} (h : Blk w D e #[a0, b0, c0, d0]) (a b c d : Value) : Blk (Proofs.YtfjghemojnhmbaaGreat.st4 w D a b c d) D e #[a, b, c, d] := by
  unfold Proofs.YtfjghemojnhmbaaGreat.st4
  simpa using (((h.set 0 a).set 1 b).set 2 c).set 3 d
/-- A descriptor was closed; its node is loosened next. -/
theorem MA.closed {S S' : Nat → Prop} {w w1 w2 : World} {g : MG} {c : Nat} {bs : List Nat} {T T' : List (Option Nd)} {tv : Value} {l : List Mt} {fl : Nat → Nat → Fl} {cw : Nat → Int × Int} {p k : Nat} (h : MA S w g c bs T tv l fl cw) (_hp : p < 8) (_hk : k < 8) (hf : Fr S [121] w w1) (ht : FtAt S w1 g.fb (upd fl p k ⟨false, 0, 0, 0, 0⟩))
    (hs : TStep S S' g.t c bs w1 w2 T') (hi : TInv T' (fun j => mrefs l j + (frefs (upd fl p k ⟨false, 0, 0, 0, 0⟩) j + crefs cw j)) none) (hkk : KK T T') : MA S' w2 g c bs T' tv l (upd fl p k ⟨false, 0, 0, 0, 0⟩) cw :=
  ⟨(h.blk.fr hf (by decide)).fr hs.fr (by decide), (h.who.frT hf (by decide)).frT hs.fr (by decide), (h.cwd.frT hf (by decide)).frT hs.fr (by decide), hs.sub _ h.cwS, ht.fr hs.sub hs.fr (by decide), ⟨hs.tr, hi, (h.wi.tab.fr (fun _ h => h) hf (by decide) (by decide)).fr hs.sub hs.fr (by decide) (by decide), h.wi.mi, h.wi.ml.kept hi hkk (fun _ _ h _ => h) h.wi.m0, h.wi.m0, h.wi.ll, h.wi.cc⟩, h.cr, fun p' k' hp' hk' => by
    unfold upd
    split
    · show (0 : Int) ≤ _
      omega
    · exact h.ps p' k' hp' hk'⟩
theorem TInv.unfile {T : List (Option Nd)} {fl : Nat → Nat → Fl} {cw : Nat → Int × Int} {l : List Mt} {p k : Nat} (h : TInv T (fun j => mrefs l j + (frefs fl j + crefs cw j)) none) (hp : p < 8) (hk : k < 8) (hi : (fl p k).is = true) : TInv T (fun j => (mrefs l j + (frefs (upd fl p k ⟨false, 0, 0, 0, 0⟩) j + crefs cw j)) + if (fl p k).an = (j : Int) then 1 else 0) none :=
  h.congr fun j => by
    have e := frefs_upd fl hp hk ⟨false, 0, 0, 0, 0⟩ j
    have e1 : fref j ⟨false, 0, 0, 0, 0⟩ = 0 := rfl
    have e2 : fref j (fl p k) = if (fl p k).an = (j : Int) then 1 else 0 := by unfold fref; rw [hi]; simp
    omega
set_option maxRecDepth 100000 in
set_option maxHeartbeats 16000000 in
theorem bad15_any {S : Nat → Prop} {w : World} {g : MG} {c : Nat} {bs : List Nat} {T : List (Option Nd)} {tv : Value} {l : List Mt} {fl : Nat → Nat → Fl} {cw : Nat → Int × Int} (hm : MA S w g c bs T tv l fl cw) (p : Nat) (hp : p < 2) (q : Cl) (ho : ¬ ((1 : Int) ≤ q.op ∧ q.op ≤ 20)) (hcc : c + 4 ≤ 99000) (hS : ∀ k, S k → k < w.heap.size) : Calls Tryz.prog 12 #[.pointer (some ⟨g.m, 0, none⟩), .int .i64 (p : Int), q.val] w (DoP S g (c + 4) q.op w) := by
  have HC := Lib.hid (And.intro hm (And.intro hp (And.intro hcc hS)))
  have k0 : (0 : Int) ≤ (p : Int) := by omega
  have k1 : (p : Int) < (2 : Int) := by omega
  have C21 : Hid (∀ (n : Int) (X : World), Calls Tryz.prog 21 #[.int .i64 n] X fun e w' => e = .returned (.agg #[.int .i64 n, .int .i64 0, .slice none 0 0, .slice none 0 0, .int .i64 0, .int .i64 0, .int .i64 0, .int .i64 0, .int .i64 0, .int .i64 0, .int .i64 0]) ∧ Below X.heap.size X w') := Lib.hid no15_any
  obtain ⟨b1, hb1⟩ : ∃ b1, decide (q.op < 1) = b1 := ⟨_, rfl⟩
  obtain ⟨b2, hb2⟩ : ∃ b2, decide (20 < q.op) = b2 := ⟨_, rfl⟩
  have hbb : (b1 || b2) = true := by subst hb1 hb2; simp; omega
  clear hm hp hcc hS ho
  unfold Cl.val
  go_enter Tryz.func12, Tryz.ntmps12
  go_upto_region 1 with fail
  refine box2g (fun W hbx hnx => ?_)
  have H1B := Lib.hid hbx
  have H1 := Lib.hid hnx
  clear hbx hnx
  generalize hE : w.heap.size + 1 = E at H1 ⊢
  obtain ⟨C, hC⟩ : ∃ C, w.heap.size = C := ⟨_, rfl⟩
  rw [hC] at H1 ⊢
  have H1E : Hid (w.heap.size = C ∧ w.heap.size + 1 = E) := Lib.hid (by omega)
  clear hC hE
  have HM := Lib.hid (HC.out.1.below H1B.out)
  have HEF : Hid (Blk W E 40 rz ∧ w.heap.size ≤ E) := Lib.hid ⟨H1.out.2, by have := H1E.out; omega⟩
  have HQ : Hid (∀ X S0 Ts, Fr S0 Ts W X → 73 ∉ Ts ∧ 42 ∉ Ts → X.cell? ⟨g.m, 4, none⟩ = some (.pointer (some ⟨g.t, 0, none⟩)) ∧ X.cell? ⟨g.m, 6, none⟩ = some (.pointer (some ⟨g.fb, 0, none⟩)) ∧ X.cell? ⟨g.m, 3, none⟩ = some (.slice (some ⟨g.wb, g.wo, none⟩) 2 g.wc) ∧ X.cell? ⟨C, 0, none⟩ = some (.int .i64 q.op) ∧ X.cell? ⟨C, 1, none⟩ = some (.string q.path) ∧ X.cell? ⟨C, 2, none⟩ = some (.string q.dest) ∧ X.cell? ⟨C, 3, none⟩ = some (.int .i64 q.fd) ∧ X.cell? ⟨C, 4, none⟩ = some (.int .i64 q.flags) ∧ X.cell? ⟨C, 5, none⟩ = some (.int .i64 q.mode) ∧ X.cell? ⟨C, 6, none⟩ = some (.int .i64 q.n) ∧ X.cell? ⟨C, 7, none⟩ = some (.int .i64 q.m) ∧ X.cell? ⟨C, 8, none⟩ = some (.slice q.da q.dl q.dc)) := Lib.hid fun X S0 Ts hX ht => ⟨(HM.out.blk.fr hX ht.1).cell 4, (HM.out.blk.fr hX ht.1).cell 6, (HM.out.blk.fr hX ht.1).cell 3, (H1.out.1.fr hX ht.2).cell 0, (H1.out.1.fr hX ht.2).cell 1, (H1.out.1.fr hX ht.2).cell 2, (H1.out.1.fr hX ht.2).cell 3, (H1.out.1.fr hX ht.2).cell 4, (H1.out.1.fr hX ht.2).cell 5, (H1.out.1.fr hX ht.2).cell 6, (H1.out.1.fr hX ht.2).cell 7, (H1.out.1.fr hX ht.2).cell 8⟩
  obtain ⟨q0, q1, q2, q3, q4, q5, q6, q7, q8, q9, q10, q11⟩ := HQ.out _ S [] (Fr.refl _ _ _) (by decide)
  obtain ⟨e0, e1, e2, e3, e4, e5, e6, e7, e8, e9, e10, e11⟩ := rz_cells HEF.out.1
  have HNo : Hid (∀ X, Below W.heap.size W X → ∀ (tm : Array Value) (code : Int), code ≠ 0 → tm.getD 6 undef = .pointer (some ⟨E, 0, none⟩) → bodyPost Tryz.prog Tryz.f12 (DoP S g (c + 4) q.op w) .ret ⟨tm, []⟩ (res11 X E (.int .i64 code) (.int .i64 0) (.slice none 0 0) (.slice none 0 0) (.int .i64 0) (.int .i64 0) (.int .i64 0) (.int .i64 0) (.int .i64 0) (.int .i64 0) (.int .i64 0))) := Lib.hid fun X hX tm code hcode h4 =>
    do_fin (Res.no code) (.slice none 0 0) (.slice none 0 0) rfl (MS.same HC.out.1 (H1B.out.trans (hX.mono H1B.out.size)) (Nat.le_add_right c 4) HC.out.2.2.1) (HEF.out.1.below hX) HEF.out.2 (DMem.of (.inl ⟨rfl, rfl, rfl, rfl⟩) HC.out.2.2.2) ⟨off_nil _, off_nil _⟩ (fld_no (.inl hcode)) h4
  unfold res11 at HNo
  cases b1 <;> cases b2
  · cases hbb
  all_goals
    go_wp2_with (first | (go_at_call 21; (with_reducible refine (C21.out _ _).mono ?_); rintro e wn ⟨rfl, hb⟩; have HB2 := Lib.hid (hb); clear hb e0 e1 e2 e3 e4 e5 e6 e7 e8 e9 e10 e11; obtain ⟨e0, e1, e2, e3, e4, e5, e6, e7, e8, e9, e10, e11⟩ := rz_cells (HEF.out.1.below HB2.out)))
    with_reducible exact HNo.out _ HB2.out _ _ (by decide) rfl
set_option maxRecDepth 100000 in
set_option maxHeartbeats 16000000 in
theorem open12_any {S : Nat → Prop} {w : World} {g : MG} {c : Nat} {bs : List Nat} {T : List (Option Nd)} {tv : Value} {l : List Mt} {fl : Nat → Nat → Fl} {cw : Nat → Int × Int} (hm : MA S w g c bs T tv l fl cw) (p : Nat) (hp : p < 2) (q : Cl) (h3 : q.op = 3) (hcc : c + 4 ≤ 99000) (hS : ∀ k, S k → k < w.heap.size) : Calls Tryz.prog 12 #[.pointer (some ⟨g.m, 0, none⟩), .int .i64 (p : Int), q.val] w (DoP S g (c + 4) q.op w) := by
  have HC := Lib.hid (And.intro hm (And.intro hp (And.intro hcc hS)))
  have HOP := Lib.hid h3
  have k0 : (0 : Int) ≤ (p : Int) := by omega
  have k1 : (p : Int) < (2 : Int) := by omega
  have C21 : Hid (∀ (n : Int) (X : World), Calls Tryz.prog 21 #[.int .i64 n] X fun e w' => e = .returned (.agg #[.int .i64 n, .int .i64 0, .slice none 0 0, .slice none 0 0, .int .i64 0, .int .i64 0, .int .i64 0, .int .i64 0, .int .i64 0, .int .i64 0, .int .i64 0]) ∧ Below X.heap.size X w') := Lib.hid no15_any
  have C22 := Lib.hid (fun X => isop_any q.op X)
  have his : isN q.op = false := by unfold isN; rw [if_pos (by omega)]
  rw [his] at C22
  clear his
  have o0 : (1 : Int) ≤ q.op := by omega
  have o1 : q.op ≤ (20 : Int) := by omega
  have e3 : (q.op == 3) = true := by simpa using h3
  clear hm hp hcc hS h3
  unfold Cl.val
  go_enter Tryz.func12, Tryz.ntmps12
  go_upto_region 1 with fail
  refine box2g (fun W hbx hnx => ?_)
  have H1B := Lib.hid hbx
  have H1 := Lib.hid hnx
  clear hbx hnx
  generalize hE : w.heap.size + 1 = E at H1 ⊢
  obtain ⟨C, hC⟩ : ∃ C, w.heap.size = C := ⟨_, rfl⟩
  rw [hC] at H1 ⊢
  have H1E : Hid (w.heap.size = C ∧ w.heap.size + 1 = E) := Lib.hid (by omega)
  clear hC hE
  have HM := Lib.hid (HC.out.1.below H1B.out)
  have HEF : Hid (Blk W E 40 rz ∧ w.heap.size ≤ E) := Lib.hid ⟨H1.out.2, by have := H1E.out; omega⟩
  have HQ : Hid (∀ X S0 Ts, Fr S0 Ts W X → 73 ∉ Ts ∧ 42 ∉ Ts → X.cell? ⟨g.m, 4, none⟩ = some (.pointer (some ⟨g.t, 0, none⟩)) ∧ X.cell? ⟨g.m, 6, none⟩ = some (.pointer (some ⟨g.fb, 0, none⟩)) ∧ X.cell? ⟨g.m, 3, none⟩ = some (.slice (some ⟨g.wb, g.wo, none⟩) 2 g.wc) ∧ X.cell? ⟨C, 0, none⟩ = some (.int .i64 q.op) ∧ X.cell? ⟨C, 1, none⟩ = some (.string q.path) ∧ X.cell? ⟨C, 2, none⟩ = some (.string q.dest) ∧ X.cell? ⟨C, 3, none⟩ = some (.int .i64 q.fd) ∧ X.cell? ⟨C, 4, none⟩ = some (.int .i64 q.flags) ∧ X.cell? ⟨C, 5, none⟩ = some (.int .i64 q.mode) ∧ X.cell? ⟨C, 6, none⟩ = some (.int .i64 q.n) ∧ X.cell? ⟨C, 7, none⟩ = some (.int .i64 q.m) ∧ X.cell? ⟨C, 8, none⟩ = some (.slice q.da q.dl q.dc)) := Lib.hid fun X S0 Ts hX ht => ⟨(HM.out.blk.fr hX ht.1).cell 4, (HM.out.blk.fr hX ht.1).cell 6, (HM.out.blk.fr hX ht.1).cell 3, (H1.out.1.fr hX ht.2).cell 0, (H1.out.1.fr hX ht.2).cell 1, (H1.out.1.fr hX ht.2).cell 2, (H1.out.1.fr hX ht.2).cell 3, (H1.out.1.fr hX ht.2).cell 4, (H1.out.1.fr hX ht.2).cell 5, (H1.out.1.fr hX ht.2).cell 6, (H1.out.1.fr hX ht.2).cell 7, (H1.out.1.fr hX ht.2).cell 8⟩
  obtain ⟨q0, q1, q2, q3, q4, q5, q6, q7, q8, q9, q10, q11⟩ := HQ.out _ S [] (Fr.refl _ _ _) (by decide)
  obtain ⟨e0, e1, e2, e3, e4, e5, e6, e7, e8, e9, e10, e11⟩ := rz_cells HEF.out.1
  have C26 := open15_any HM.out p HC.out.2.1 q HC.out.2.2.1
  unfold Cl.val at C26
  go_wp2_with (first | (go_at_call 22; (with_reducible refine (C22.out _).mono ?_); rintro e wn ⟨rfl, hw⟩; subst hw) | (go_at_call 26; (with_reducible refine C26.mono ?_); rintro e w5 ⟨r, y, z, S', rfl, hms, hrm, hfl⟩; obtain ⟨yp, yn, yc, zp, zn, zc, rfl, rfl⟩ := hrm.form; have HR := Lib.hid (ro_on (op := q.op) H1B.out hms hrm HEF.out.1 HEF.out.2 HC.out.2.2.2 (by rw [HOP.out]; exact hfl) (Nat.le_refl _) HC.out.2.2.1); unfold Res.cells; clear hms hrm hfl e0 e1 e2 e3 e4 e5 e6 e7 e8 e9 e10 e11; obtain ⟨e0, e1, e2, e3, e4, e5, e6, e7, e8, e9, e10, e11⟩ := rz_cells HR.out.1; have HX := Lib.hid HR.out.2; unfold res11 at HX))
  with_reducible exact HX.out _ rfl
set_option maxRecDepth 100000 in
set_option maxHeartbeats 16000000 in
theorem files12_any {S : Nat → Prop} {w : World} {g : MG} {c : Nat} {bs : List Nat} {T : List (Option Nd)} {tv : Value} {l : List Mt} {fl : Nat → Nat → Fl} {cw : Nat → Int × Int} (hm : MA S w g c bs T tv l fl cw) (p : Nat) (hp : p < 2) (q : Cl) (ho : q.op = 4 ∨ q.op = 5 ∨ q.op = 6 ∨ q.op = 7) (hqn : R64 q.n) (xs : List Value) (hdat : DatW S w q.da q.dl q.dc xs) (hby : ∀ x ∈ xs, IsByte x) (hdl : q.dl ≤ 2000) (hcc : c + 4 ≤ 99000) (hS : ∀ k, S k → k < w.heap.size) : Calls Tryz.prog 12 #[.pointer (some ⟨g.m, 0, none⟩), .int .i64 (p : Int), q.val] w (DoP S g (c + 4) q.op w) := by
  have HC := Lib.hid (And.intro hm (And.intro hp (And.intro hcc hS)))
  have HXS := Lib.hid (And.intro hdat (And.intro hby hdl))
  have HQN := Lib.hid hqn
  have HO := Lib.hid ho
  have k0 : (0 : Int) ≤ (p : Int) := by omega
  have k1 : (p : Int) < (2 : Int) := by omega
  have C21 : Hid (∀ (n : Int) (X : World), Calls Tryz.prog 21 #[.int .i64 n] X fun e w' => e = .returned (.agg #[.int .i64 n, .int .i64 0, .slice none 0 0, .slice none 0 0, .int .i64 0, .int .i64 0, .int .i64 0, .int .i64 0, .int .i64 0, .int .i64 0, .int .i64 0]) ∧ Below X.heap.size X w') := Lib.hid no15_any
  have C22 := Lib.hid (fun X => isop_any q.op X)
  have his : isN q.op = false := by unfold isN; rw [if_pos (by omega)]
  rw [his] at C22
  clear his
  have o0 : (1 : Int) ≤ q.op := by omega
  have o1 : q.op ≤ (20 : Int) := by omega
  have e3 : (q.op == 3) = false := by simp; omega
  clear hm hp hcc hS hdat hby hdl hqn ho
  unfold Cl.val
  go_enter Tryz.func12, Tryz.ntmps12
  go_upto_region 1 with fail
  refine box2g (fun W hbx hnx => ?_)
  have H1B := Lib.hid hbx
  have H1 := Lib.hid hnx
  clear hbx hnx
  generalize hE : w.heap.size + 1 = E at H1 ⊢
  obtain ⟨C, hC⟩ : ∃ C, w.heap.size = C := ⟨_, rfl⟩
  rw [hC] at H1 ⊢
  have H1E : Hid (w.heap.size = C ∧ w.heap.size + 1 = E) := Lib.hid (by omega)
  clear hC hE
  have HM := Lib.hid (HC.out.1.below H1B.out)
  have HEF : Hid (Blk W E 40 rz ∧ w.heap.size ≤ E) := Lib.hid ⟨H1.out.2, by have := H1E.out; omega⟩
  have HQ : Hid (∀ X S0 Ts, Fr S0 Ts W X → 73 ∉ Ts ∧ 42 ∉ Ts → X.cell? ⟨g.m, 4, none⟩ = some (.pointer (some ⟨g.t, 0, none⟩)) ∧ X.cell? ⟨g.m, 6, none⟩ = some (.pointer (some ⟨g.fb, 0, none⟩)) ∧ X.cell? ⟨g.m, 3, none⟩ = some (.slice (some ⟨g.wb, g.wo, none⟩) 2 g.wc) ∧ X.cell? ⟨C, 0, none⟩ = some (.int .i64 q.op) ∧ X.cell? ⟨C, 1, none⟩ = some (.string q.path) ∧ X.cell? ⟨C, 2, none⟩ = some (.string q.dest) ∧ X.cell? ⟨C, 3, none⟩ = some (.int .i64 q.fd) ∧ X.cell? ⟨C, 4, none⟩ = some (.int .i64 q.flags) ∧ X.cell? ⟨C, 5, none⟩ = some (.int .i64 q.mode) ∧ X.cell? ⟨C, 6, none⟩ = some (.int .i64 q.n) ∧ X.cell? ⟨C, 7, none⟩ = some (.int .i64 q.m) ∧ X.cell? ⟨C, 8, none⟩ = some (.slice q.da q.dl q.dc)) := Lib.hid fun X S0 Ts hX ht => ⟨(HM.out.blk.fr hX ht.1).cell 4, (HM.out.blk.fr hX ht.1).cell 6, (HM.out.blk.fr hX ht.1).cell 3, (H1.out.1.fr hX ht.2).cell 0, (H1.out.1.fr hX ht.2).cell 1, (H1.out.1.fr hX ht.2).cell 2, (H1.out.1.fr hX ht.2).cell 3, (H1.out.1.fr hX ht.2).cell 4, (H1.out.1.fr hX ht.2).cell 5, (H1.out.1.fr hX ht.2).cell 6, (H1.out.1.fr hX ht.2).cell 7, (H1.out.1.fr hX ht.2).cell 8⟩
  obtain ⟨q0, q1, q2, q3, q4, q5, q6, q7, q8, q9, q10, q11⟩ := HQ.out _ S [] (Fr.refl _ _ _) (by decide)
  obtain ⟨e0, e1, e2, e3, e4, e5, e6, e7, e8, e9, e10, e11⟩ := rz_cells HEF.out.1
  have HNo : Hid (∀ X, Below W.heap.size W X → ∀ (tm : Array Value) (code : Int), code ≠ 0 → tm.getD 6 undef = .pointer (some ⟨E, 0, none⟩) → bodyPost Tryz.prog Tryz.f12 (DoP S g (c + 4) q.op w) .ret ⟨tm, []⟩ (res11 X E (.int .i64 code) (.int .i64 0) (.slice none 0 0) (.slice none 0 0) (.int .i64 0) (.int .i64 0) (.int .i64 0) (.int .i64 0) (.int .i64 0) (.int .i64 0) (.int .i64 0))) := Lib.hid fun X hX tm code hcode h4 =>
    do_fin (Res.no code) (.slice none 0 0) (.slice none 0 0) rfl (MS.same HC.out.1 (H1B.out.trans (hX.mono H1B.out.size)) (Nat.le_add_right c 4) HC.out.2.2.1) (HEF.out.1.below hX) HEF.out.2 (DMem.of (.inl ⟨rfl, rfl, rfl, rfl⟩) HC.out.2.2.2) ⟨off_nil _, off_nil _⟩ (fld_no (.inl hcode)) h4
  unfold res11 at HNo
  have C27 : Hid (∀ X, Below W.heap.size W X → Calls Tryz.prog 27 #[.pointer (some ⟨g.fb, 0, none⟩), .int .i64 (p : Int), .int .i64 q.fd] X fun e w' => ∃ am an flg pos code : Int, e = .returned (.tuple #[.agg #[.int .i64 am, .int .i64 an, .int .i64 flg, .int .i64 pos], .int .i64 code]) ∧ Below X.heap.size X w' ∧ (code = 0 → ∃ k : Nat, k < 8 ∧ q.fd = k ∧ (fl p k).is = true ∧ am = (fl p k).am ∧ an = (fl p k).an ∧ flg = (fl p k).flags ∧ pos = (fl p k).pos)) := Lib.hid fun X hX => get2_any (HM.out.below hX).ft (by have := HC.out.2.1; omega) q.fd
  have HQ7 : Hid (∀ X, Below W.heap.size W X → X.cell? ⟨g.m, 6, none⟩ = some (.pointer (some ⟨g.fb, 0, none⟩)) ∧ X.cell? ⟨C, 3, none⟩ = some (.int .i64 q.fd)) := Lib.hid fun X hX => ⟨(HM.out.blk.below hX).cell 6, (H1.out.1.below hX).cell 3⟩
  have HBd : Hid (Below W.heap.size W W.drew) := Lib.hid (Below.refl _ _).drew
  go_upto_region 12 with (first | (go_at_call 22; (with_reducible refine (C22.out _).mono ?_); rintro e wn ⟨rfl, hw⟩; subst hw))
  go_cut [9, 10] (fun v9 v10 wx => ∃ (am an flg pos code : Int) (D : Nat), v9 = .pointer (some ⟨D, 0, none⟩) ∧ v10 = .int .i64 code ∧ Hid (Below W.heap.size W wx) ∧ Hid (Blk wx D 88 #[.int .i64 am, .int .i64 an, .int .i64 flg, .int .i64 pos] ∧ W.heap.size ≤ D) ∧ Hid (code = 0 → ∃ k : Nat, k < 8 ∧ q.fd = k ∧ (fl p k).is = true ∧ am = (fl p k).am ∧ an = (fl p k).an ∧ flg = (fl p k).flags ∧ pos = (fl p k).pos))
  case first =>
    refine hand_start (S := fun X => X.cell? ⟨g.m, 6, none⟩ = some (.pointer (some ⟨g.fb, 0, none⟩)) ∧ X.cell? ⟨C, 3, none⟩ = some (.int .i64 q.fd)) 14 (by kernel_rfl) (by rfl) (HQ7.out _ HBd.out) (fun hHeld => ?_)
    generalize W.drew = wx at HBd hHeld ⊢
    iterate 7 (refine seq_on 13 (v := ?_) rfl (by kernel_rfl) (by kernel_rfl) (by kernel_rfl) (by rfl) (by assumption) (fun _ _ _ h => h) ?_ ?_; rotate_left; (focus (intro w hSw; (try dsimp only at hSw); go_simp; try with_reducible rfl)); (try simp only [Act.put, List.setIfInBounds_toArray, List.set_cons_zero, List.set_cons_succ]))
    repeat' (first
      | (refine take_on 8 (v := ?_) rfl (by kernel_rfl) (by decide +kernel) (by decide +kernel) (by rfl) (by assumption) (fun _ _ _ h => h) ?_ ?_; rotate_left; (focus (intro w hSw; (try dsimp only at hSw); go_simp; try with_reducible rfl)); (try simp only [Act.put, List.setIfInBounds_toArray, List.set_cons_zero, List.set_cons_succ]))
      | (refine take_on 9 (v := ?_) rfl (by kernel_rfl) (by decide +kernel) (by decide +kernel) (by rfl) (by assumption) (fun _ _ _ h => h) ?_ ?_; rotate_left; (focus (intro w hSw; (try dsimp only at hSw); go_simp; try with_reducible rfl)); (try simp only [Act.put, List.setIfInBounds_toArray, List.set_cons_zero, List.set_cons_succ]))
      | (refine take_on 10 (v := ?_) rfl (by kernel_rfl) (by decide +kernel) (by decide +kernel) (by rfl) (by assumption) (fun _ _ _ h => h) ?_ ?_; rotate_left; (focus (intro w hSw; (try dsimp only at hSw); go_simp; try with_reducible rfl)); (try simp only [Act.put, List.setIfInBounds_toArray, List.set_cons_zero, List.set_cons_succ]))
      | (refine take_on 13 (v := ?_) rfl (by kernel_rfl) (by decide +kernel) (by decide +kernel) (by rfl) (by assumption) (fun _ _ _ h => h) ?_ ?_; rotate_left; (focus (intro w hSw; (try dsimp only at hSw); go_simp; try with_reducible rfl)); (try simp only [Act.put, List.setIfInBounds_toArray, List.set_cons_zero, List.set_cons_succ]))
      | (refine wpAnyH_ready (rs := [7, 11]) (by decide +kernel) (by simp) ?_)
      | (refine wpAnyH_ready (rs := [7]) (by decide +kernel) (by simp) ?_)
      | (refine wpAnyH_ready (rs := [11]) (by decide +kernel) (by simp) ?_)
      | (refine wpAnyH_ready (rs := [12]) (by decide +kernel) (by simp) ?_)
      | (exact AllReadyH.nil)
      | (refine step_on 7 rfl (by rfl) (fun K hK => ?_) ?_; (focus (go_simp; go_at_call 27; (with_reducible refine (C27.out _ HBd.out).mono ?_); rintro e wn ⟨am, an, flg, pos, code, rfl, hb, hg⟩; have HG := Lib.hid hg; replace HBd := Lib.hid (HBd.out.trans (hb.mono HBd.out.size)); (try replace HDD := Lib.hid (And.intro (HDD.out.1.below hb) HDD.out.2)); clear hg hb; rename World => wx; refine hK.out _ _ (by first | (with_reducible exact HQ7.out _ HBd.out) | exact HQ7.out _ HBd.out) (fun hHeld => ?_); clear hK K; (try simp only [List.setIfInBounds_toArray]))))
      | (refine step_on 11 rfl (by rfl) (fun K hK => ?_) ?_; (focus (go_simp; obtain ⟨wy, hwy⟩ : ∃ Y, wx.alloc (.cells #[.int .i64 0, .int .i64 0, .int .i64 0, .int .i64 0] 88) = Y := ⟨_, rfl⟩; rw [hwy]; have hb : Below wx.heap.size wx wy := (by rw [← hwy]; exact (Below.refl _ _).alloc (Nat.le_refl _) _); have hn : Blk wy wx.heap.size 88 #[.int .i64 0, .int .i64 0, .int .i64 0, .int .i64 0] := (by rw [← hwy]; exact Blk.new _ _ _); have HDD := Lib.hid (And.intro hn HBd.out.size); replace HBd := Lib.hid (HBd.out.trans (hb.mono HBd.out.size)); clear hb hn hwy; obtain ⟨D, hD⟩ : ∃ D, wx.heap.size = D := ⟨_, rfl⟩; rw [hD] at HDD ⊢; clear hD; rename World => wx; refine hK.out _ _ (by first | (with_reducible exact HQ7.out _ HBd.out) | exact HQ7.out _ HBd.out) (fun hHeld => ?_); clear hK K; (try simp only [List.setIfInBounds_toArray]))))
      | (refine step_on 12 rfl (by rfl) (fun K hK => ?_) ?_; (focus (obtain ⟨z0, z1, z2, z3, zf⟩ := cells4 HDD.out.1; go_simp; clear z0 z1 z2 z3 zf; obtain ⟨wy, hwy⟩ : ∃ Y, st4 wx D (.int .i64 am) (.int .i64 an) (.int .i64 flg) (.int .i64 pos) = Y := ⟨_, rfl⟩; have hw2 := hwy; unfold st4 at hw2; rw [hw2]; clear hw2; have hb : Below W.heap.size W wy := (by rw [← hwy]; exact below_st4 HBd.out HDD.out.2 _ _ _ _); have hn : Blk wy D 88 #[.int .i64 am, .int .i64 an, .int .i64 flg, .int .i64 pos] := (by rw [← hwy]; exact HDD.out.1.st4 _ _ _ _); replace HBd := Lib.hid hb; replace HDD := Lib.hid (And.intro hn HDD.out.2); clear hb hn hwy; rename World => wx; refine hK.out _ _ (by first | (with_reducible exact HQ7.out _ HBd.out) | exact HQ7.out _ HBd.out) (fun hHeld => ?_); clear hK K; (try simp only [List.setIfInBounds_toArray]))))
      | (refine wpAnyH_done (by kernel_rfl) ?_ _; go_wp2_with fail; go_meet; exact ⟨am, an, flg, pos, code, D, rfl, rfl, HBd, HDD, HG⟩)
      )
  case rest =>
  obtain ⟨am, an, flg, pos, code, D, rfl, rfl, HB, HD, HG⟩ := hcut
  clear HBd q0 q1 q2 q3 q4 q5 q6 q7 q8 q9 q10 q11 e0 e1 e2 e3 e4 e5 e6 e7 e8 e9 e10 e11 C27 HQ7
  obtain ⟨q0, q1, q2, q3, q4, q5, q6, q7, q8, q9, q10, q11⟩ := HQ.out _ S [] (Fr.of_below HB.out) (by decide)
  have HE := Lib.hid (HEF.out.1.below HB.out)
  obtain ⟨e0, e1, e2, e3, e4, e5, e6, e7, e8, e9, e10, e11⟩ := rz_cells HE.out
  obtain ⟨d0, d1, d2, d3, df⟩ := cells4 HD.out.1
  by_cases hcode : code = 0
  case neg =>
    go_wp2_with (first | (go_at_call 21; (with_reducible refine (C21.out _ _).mono ?_); rintro e wn ⟨rfl, hb⟩; have HB2 := Lib.hid (HB.out.trans (hb.mono HB.out.size)); clear hb e0 e1 e2 e3 e4 e5 e6 e7 e8 e9 e10 e11; obtain ⟨e0, e1, e2, e3, e4, e5, e6, e7, e8, e9, e10, e11⟩ := rz_cells (HEF.out.1.below HB2.out)))
    with_reducible exact HNo.out _ HB2.out _ _ (by decide) rfl
  obtain ⟨k, hk, hfd, his, rfl, rfl, rfl, rfl⟩ := HG.out hcode
  subst hcode
  have HK := Lib.hid (And.intro hk (And.intro hfd his))
  have HLv := HC.out.1.fll (by have := HC.out.2.1; omega : p < 8) hk his
  have HBw : Hid (Below w.heap.size w wc) := Lib.hid (H1B.out.trans (HB.out.mono H1B.out.size))
  have hpos := And.intro (HC.out.1.ft.rg p k (by have := HC.out.2.1; omega) hk).2.2.2.2.1 (HC.out.1.ps p k (by have := HC.out.2.1; omega) hk)
  rcases HO.out with h | h | h | h
  rotate_left
  · have HOP : Hid (q.op = 5) := Lib.hid h
    have e4 : (q.op == 4) = false := by simp [h]
    have e5 : (q.op == 5) = true := by simp [h]
    have e6 : (q.op == 6) = false := by simp [h]
    clear h
    have C29 := readm_any (HC.out.1.below HBw.out) p HC.out.2.1 q HQN.out (fl p k) HLv hpos (Nat.le_of_succ_le HC.out.2.2.1)
    unfold Cl.val Fl.val at C29
    clear hk hfd his HLv hpos HNo HG C22
    go_wp2_with (first | (go_at_call 29; (with_reducible refine C29.mono ?_); rintro e w5 ⟨r, y, z, S', rfl, hms, hrm, hfl⟩; obtain ⟨yp, yn, yc, zp, zn, zc, rfl, rfl⟩ := hrm.form; have HR := Lib.hid (ro_on (op := q.op) HBw.out hms hrm HE.out HEF.out.2 HC.out.2.2.2 (by rw [HOP.out]; exact hfl) (Nat.le_succ _) HC.out.2.2.1); unfold Res.cells; clear hms hrm hfl e0 e1 e2 e3 e4 e5 e6 e7 e8 e9 e10 e11; obtain ⟨e0, e1, e2, e3, e4, e5, e6, e7, e8, e9, e10, e11⟩ := rz_cells HR.out.1; have HX := Lib.hid HR.out.2; unfold res11 at HX))
    with_reducible exact HX.out _ rfl
  · have HOP : Hid (q.op = 6) := Lib.hid h
    have e4 : (q.op == 4) = false := by simp [h]
    have e5 : (q.op == 5) = false := by simp [h]
    have e6 : (q.op == 6) = true := by simp [h]
    clear h
    have C30 := writem_any (HC.out.1.below HBw.out) p HC.out.2.1 q xs (HXS.out.1.below HBw.out) HXS.out.2.1 HXS.out.2.2 (fl p k) HLv hpos (Nat.le_of_succ_le HC.out.2.2.1)
    unfold Cl.val Fl.val at C30
    clear hk hfd his HLv hpos HNo HG C22
    go_wp2_with (first | (go_at_call 30; (with_reducible refine C30.mono ?_); rintro e w5 ⟨r, y, z, S', rfl, hms, hrm, hfl⟩; obtain ⟨yp, yn, yc, zp, zn, zc, rfl, rfl⟩ := hrm.form; have HR := Lib.hid (ro_on (op := q.op) HBw.out hms hrm HE.out HEF.out.2 HC.out.2.2.2 (by rw [HOP.out]; exact hfl) (Nat.le_succ _) HC.out.2.2.1); unfold Res.cells; clear hms hrm hfl e0 e1 e2 e3 e4 e5 e6 e7 e8 e9 e10 e11; obtain ⟨e0, e1, e2, e3, e4, e5, e6, e7, e8, e9, e10, e11⟩ := rz_cells HR.out.1; have HX := Lib.hid HR.out.2; unfold res11 at HX))
    with_reducible exact HX.out _ rfl
  · have HOP : Hid (q.op = 7) := Lib.hid h
    have e4 : (q.op == 4) = false := by simp [h]
    have e5 : (q.op == 5) = false := by simp [h]
    have e6 : (q.op == 6) = false := by simp [h]
    clear h
    have C31 := seekm_any (HC.out.1.below HBw.out) p HC.out.2.1 q (fl p k) HLv hpos (Nat.le_of_succ_le HC.out.2.2.1)
    unfold Cl.val Fl.val at C31
    clear hk hfd his HLv hpos HNo HG C22
    go_wp2_with (first | (go_at_call 31; (with_reducible refine C31.mono ?_); rintro e w5 ⟨r, y, z, S', rfl, hms, hrm, hfl⟩; obtain ⟨yp, yn, yc, zp, zn, zc, rfl, rfl⟩ := hrm.form; have HR := Lib.hid (ro_on (op := q.op) HBw.out hms hrm HE.out HEF.out.2 HC.out.2.2.2 (by rw [HOP.out]; exact hfl) (Nat.le_succ _) HC.out.2.2.1); unfold Res.cells; clear hms hrm hfl e0 e1 e2 e3 e4 e5 e6 e7 e8 e9 e10 e11; obtain ⟨e0, e1, e2, e3, e4, e5, e6, e7, e8, e9, e10, e11⟩ := rz_cells HR.out.1; have HX := Lib.hid HR.out.2; unfold res11 at HX))
    with_reducible exact HX.out _ rfl
  have HOP : Hid (q.op = 4) := Lib.hid h
  have e4 : (q.op == 4) = true := by simp [h]
  have HUN := Lib.hid (TInv.unfile HC.out.1.wi.inv (by have := HC.out.2.1; omega) hk his)
  have C28 := close_any ((HC.out.1.below HBw.out).ft.below (Below.refl _ _).drew) (by have := HC.out.2.1; omega : p < 8) q.fd
  clear h hk hfd his HLv hpos HNo HG C22
  go_upto_region 17 with fail
  go_still_tail 7, (by kernel_rfl)
  change wpList _ _ _ _ _ (World.drew _)
  go_upto_region 18 with (first | (go_at_call 28; (with_reducible refine C28.mono ?_); rintro e w5 ⟨v, code5, rfl, hfl, hno⟩; have HFL := Lib.hid (closed_is hfl hno HK.out.1 HK.out.2.1 HK.out.2.2); clear hfl hno))
  clear q0 q1 q2 q3 q4 q5 q6 q7 q8 q9 q10 q11 e0 e1 e2 e3 e4 e5 e6 e7 e8 e9 e10 e11 d0 d1 d2 d3 df
  have HF5 : Hid (Fr S [121] W w5) := Lib.hid ((Fr.of_below HB.out.drew).trans HFL.out.1 (fun _ h => .inl h))
  have HF6 : Hid (Fr S [121] W w5.drew) := Lib.hid (HF5.out.trans (Fr.of_below (Below.refl _ _).drew) (fun _ h => .inl h))
  have HTR := Lib.hid ((HM.out.wi.tr.fr (fun _ h => h) HF6.out (by decide) (by decide)))
  have C25 := loose_ctx HTR.out HUN.out (by have := (HC.out.1.ft.rg p k (by have := HC.out.2.1; omega) HK.out.1).2.2.1; exact this) (by have := HC.out.2.2.1; omega)
  obtain ⟨q0, q1, q2, q3, q4, q5, q6, q7, q8, q9, q10, q11⟩ := HQ.out _ _ _ HF6.out (by decide)
  obtain ⟨d0, d1, d2, d3, df⟩ := cells4 (HD.out.1.fr ((Fr.of_below (S := S) (T := [121]) (Below.refl _ _).drew).trans (HFL.out.1.trans (Fr.of_below (Below.refl _ _).drew) (fun _ h => .inl h)) (fun _ h => .inl h)) (by decide))
  go_still_tail 7, (by kernel_rfl)
  change wpList _ _ _ _ _ (World.drew _)
  go_upto_region 19 with (first | (go_at_call 25; (with_reducible refine C25.mono ?_); rintro e w7 ⟨code7, S7, T7, rfl, hs7, hi7, hk7⟩))
  have HFW : Hid (Fr S TD W w7) := Lib.hid ((HF6.out.mono (fun _ h => .inl h) (by decide)).trans (hs7.fr.mono (T' := TD) (fun _ h => .inl h) TT_TD) (fun _ h => .inl h))
  have HMS : Hid (MS S S7 g (c + 4) w w7) := Lib.hid ((MS.below (c := c) H1B.out ⟨hs7.sub, fun k hk => (hs7.sup k hk).elim .inl (fun h => .inr (Nat.le_trans HF6.out.size h)), HFW.out, _, _, _, _, _, _, HM.out.closed (by have := HC.out.2.1; omega) HK.out.1 HF6.out (HFL.out.2.below (Below.refl _ _).drew) hs7 hi7 hk7⟩).mono (Nat.le_add_right c 4) HC.out.2.2.1)
  have HE7 := Lib.hid (HEF.out.1.fr HFW.out (by decide))
  clear hs7 hi7 hk7 q0 q1 q2 q3 q4 q5 q6 q7 q8 q9 q10 q11 d0 d1 d2 d3 df
  have HX := Lib.hid (fun (tm : Array Value) (h4 : tm.getD 6 undef = .pointer (some ⟨E, 0, none⟩)) => do_fin (op := q.op) (fn := Tryz.f12) Res.zero (.slice none 0 0) (.slice none 0 0) rfl HMS.out HE7.out HEF.out.2 (DMem.of (S := S) (.inl ⟨rfl, rfl, rfl, rfl⟩) HC.out.2.2.2) ⟨off_nil _, off_nil _⟩ (by rw [HOP.out]; decide) h4)
  unfold res11 at HX
  dsimp only [Res.zero] at HX
  obtain ⟨e0, e1, e2, e3, e4, e5, e6, e7, e8, e9, e10, e11⟩ := rz_cells HE7.out
  go_wp2_with fail
  with_reducible exact HX.out _ rfl
theorem do15_any {S : Nat → Prop} {w : World} {g : MG} {c : Nat} {bs : List Nat} {T : List (Option Nd)} {tv : Value} {l : List Mt} {fl : Nat → Nat → Fl} {cw : Nat → Int × Int} (hm : MA S w g c bs T tv l fl cw) (p : Nat) (hp : p < 2) (q : Cl) (hpath : q.path.size ≤ 5000) (hqn : R64 q.n) (xs : List Value) (hdat : DatW S w q.da q.dl q.dc xs) (hby : ∀ x ∈ xs, IsByte x) (hdl : q.dl ≤ 2000) (hcc : c + 4 ≤ 99000) (hS : ∀ k, S k → k < w.heap.size) : Calls Tryz.prog 12 #[.pointer (some ⟨g.m, 0, none⟩), .int .i64 (p : Int), q.val] w (DoP S g (c + 4) q.op w) := by
  by_cases h1 : isN q.op = true
  · exact names15_any hm p hp q hpath h1 hcc hS
  · by_cases h2 : (1 : Int) ≤ q.op ∧ q.op ≤ 20
    · unfold isN at h1
      by_cases h3 : q.op = 3
      · exact open12_any hm p hp q h3 hcc hS
      · by_cases h4 : q.op = 4 ∨ q.op = 5 ∨ q.op = 6 ∨ q.op = 7
        · exact files12_any hm p hp q h4 hqn xs hdat hby hdl hcc hS
        · rw [if_neg (by omega)] at h1
          exact absurd (by simpa using h2) h1
    · exact bad15_any hm p hp q h2 hcc hS
end Go.Proofs.YtfjghemojnhmbaaGreat
