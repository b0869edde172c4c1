/- The document's model: what it is in memory; what it refers to. -/
import Derived.Test.YtfjghemojnhmbaaGreatWy
import Derived.Test.YtfjghemojnhmbaaGreatWt
namespace Go.Proofs.YtfjghemojnhmbaaGreat
open Go.RowKit

/-- The owner holds no more than there is. -/
def LtS (S : Nat → Prop) (w : World) : Nat → Prop := fun k => S k ∧ k < w.heap.size
theorem ByteV.lts {S : Nat → Prop} {w : World} {v : Value} {n : Nat} (h : ByteV S w v n) : ByteV (LtS S w) w v n := by
  rcases h with h | ⟨f, o, cap, cur, h1, h2, h3, h4⟩
  · exact .inl h
  · exact .inr ⟨f, o, cap, cur, h1, ⟨h2, h3.lt⟩, h3, h4⟩
theorem FileOk.lts {S : Nat → Prop} {w : World} {f : Nat} (h : FileOk S w f) : FileOk (LtS S w) w f := by
  obtain ⟨cur, v, n, h1, h2, h3, h4, h5, h6⟩ := h
  exact ⟨cur, v, n, h1, ⟨h2, h1.lt⟩, h3, h4, h5.lts, h6⟩
theorem PoolOk.lts {S : Nat → Prop} {w : World} {p c : Nat} (h : PoolOk S w p c) : PoolOk (LtS S w) w p c := by
  obtain ⟨B, v, n, xs, h⟩ := h
  refine ⟨B, v, n, xs, h.blk, ⟨h.own, h.blk.lt⟩, h.b0, h.b1, h.row, fun k hk => ⟨h.rowS k hk, (h.row.lt k hk).2⟩, h.le, fun x hx => ?_⟩
  rcases h.ok x hx with e | ⟨f, e, hf⟩
  · exact .inl e
  · exact .inr ⟨f, e, hf.lts⟩
theorem TR.lts {S : Nat → Prop} {w : World} {t c : Nat} {bs : List Nat} {T : List (Option Nd)} (h : TR S w t c bs T) : TR (LtS S w) w t c bs T := by
  obtain ⟨M, p, v, h⟩ := h
  refine ⟨M, p, v, h.blk, ⟨h.own, h.blk.lt⟩, h.pool.lts, h.row, fun k hk => ⟨h.rowS k hk, (h.row.lt k hk).2⟩, h.len, h.tl, fun i x b hx hb => ?_, h.inj, h.ok, h.m0, h.m1⟩
  obtain ⟨u, hu⟩ := h.nd i x b hx hb
  exact ⟨u, hu.blk, ⟨hu.own, hu.blk.lt⟩, hu.row⟩
theorem FtAt.lts {S : Nat → Prop} {w : World} {fb : Nat} {fl : Nat → Nat → Fl} (h : FtAt S w fb fl) : FtAt (LtS S w) w fb fl := by
  obtain ⟨cs, hb, hc⟩ := h.blk
  exact ⟨⟨cs, hb, hc⟩, ⟨h.own, hb.lt⟩, h.rg⟩
theorem WI.lts {S : Nat → Prop} {w : World} {t c : Nat} {bs : List Nat} {T : List (Option Nd)} {tb : Nat} {tv : Value} {l : List Mt} {Rb : Nat → Nat} (h : WI S w t c bs T tb tv l Rb) : WI (LtS S w) w t c bs T tb tv l Rb :=
  ⟨h.tr.lts, h.inv, h.tab.lts, h.mi, h.ml, h.m0, h.ll, h.cc⟩

/-- How often open files refer to a node; how often Cwds do. -/
def fref (k : Nat) (x : Fl) : Nat := if x.is = true ∧ x.an = (k : Int) then 1 else 0
def frefs (fl : Nat → Nat → Fl) (k : Nat) : Nat := ((List.range 64).map fun i => fref k (fl (i / 8) (i % 8))).sum
def crefs (cw : Nat → Int × Int) (k : Nat) : Nat := (if (cw 0).2 = (k : Int) then 1 else 0) + (if (cw 1).2 = (k : Int) then 1 else 0)
theorem sum_upd (f f' : Nat → Nat) (i : Nat) (h : ∀ j, j ≠ i → f' j = f j) : ∀ n, i < n → ((List.range n).map f').sum + f i = ((List.range n).map f).sum + f' i := by
  have same : ∀ n, n ≤ i → ((List.range n).map f').sum = ((List.range n).map f).sum := by
    intro n
    induction n with
    | zero => intro _; rfl
    | succ n ih =>
      intro hn
      rw [List.range_succ, List.map_append, List.map_append, List.sum_append, List.sum_append, ih (by omega)]
      simp [h n (by omega)]
  intro n
  induction n with
  | zero => intro hn; omega
  | succ n ih =>
    intro hn
    rw [List.range_succ, List.map_append, List.map_append, List.sum_append, List.sum_append]
    by_cases hi : i = n
    · subst hi
      rw [same i (Nat.le_refl _)]
      simp
      omega
    · have := ih (by omega)
      simp [h n (fun e => hi e.symm)]
      omega
theorem frefs_upd (fl : Nat → Nat → Fl) {p q : Nat} (hp : p < 8) (hq : q < 8) (x : Fl) (k : Nat) : frefs (upd fl p q x) k + fref k (fl p q) = frefs fl k + fref k x := by
  have h := sum_upd (fun i => fref k (fl (i / 8) (i % 8))) (fun i => fref k (upd fl p q x (i / 8) (i % 8))) (p * 8 + q) (fun j hj => by
    unfold upd
    rw [if_neg (by omega)]) 64 (by omega)
  have e1 : (p * 8 + q) / 8 = p := by omega
  have e2 : (p * 8 + q) % 8 = q := by omega
  simp only [e1, e2] at h
  have e3 : upd fl p q x p q = x := by simp [upd]
  rw [e3] at h
  exact h
theorem frefs_pos {fl : Nat → Nat → Fl} {p q : Nat} (hp : p < 8) (hq : q < 8) (hi : (fl p q).is = true) {k : Nat} (hk : (fl p q).an = (k : Int)) : 0 < frefs fl k := by
  have h := frefs_upd fl hp hq ⟨false, 0, 0, 0, 0⟩ k
  have e : fref k (fl p q) = 1 := by unfold fref; rw [if_pos ⟨hi, hk⟩]
  have e2 : fref k ⟨false, 0, 0, 0, 0⟩ = 0 := rfl
  omega
theorem frefs_same {fl : Nat → Nat → Fl} {p q : Nat} (hp : p < 8) (hq : q < 8) {x : Fl} (h1 : x.is = (fl p q).is) (h2 : x.an = (fl p q).an) (k : Nat) : frefs (upd fl p q x) k = frefs fl k := by
  have h := frefs_upd fl hp hq x k
  have e : fref k x = fref k (fl p q) := by unfold fref; rw [h1, h2]
  omega
theorem crefs_pos {cw : Nat → Int × Int} {p k : Nat} (hp : p < 2) (hk : (cw p).2 = (k : Int)) : 0 < crefs cw k := by
  unfold crefs
  match p, hp with
  | 0, _ => rw [if_pos hk]; omega
  | 1, _ => rw [if_pos hk]; omega
def updW (cw : Nat → Int × Int) (p : Nat) (m n : Int) : Nat → Int × Int := fun q => if q = p then (m, n) else cw q
theorem crefs_upd (cw : Nat → Int × Int) {p : Nat} (hp : p < 2) (m n : Int) (k : Nat) : crefs (updW cw p m n) k + (if (cw p).2 = (k : Int) then 1 else 0) = crefs cw k + (if n = (k : Int) then 1 else 0) := by
  unfold crefs updW
  match p, hp with
  | 0, _ => simp; omega
  | 1, _ => simp; omega
/-- Where the model's parts lie. -/
structure MG where
  m : Nat
  t : Nat
  tb : Nat
  fb : Nat
  wb : Nat
  wo : Nat
  wc : Nat
  cb : Nat
  co : Nat
  cc : Nat
def MG.cells (g : MG) : Array Value := #[.int .i64 64, .int .i64 256, .int .i64 64, .slice (some ⟨g.wb, g.wo, none⟩) 2 g.wc, .pointer (some ⟨g.t, 0, none⟩), .pointer (some ⟨g.tb, 0, none⟩), .pointer (some ⟨g.fb, 0, none⟩), .slice (some ⟨g.cb, g.co, none⟩) 2 g.cc]
def cwcells (cw : Nat → Int × Int) : List Value := [.int .i64 (cw 0).1, .int .i64 (cw 0).2, .int .i64 (cw 1).1, .int .i64 (cw 1).2]
def whocells : List Value := [.int .i64 0, .int .i64 0, .int .i64 1, .int .i64 1]
/-- Who calls, by number. -/
def crOf (p : Nat) : Cr := ⟨p, p⟩
/-- The model at work. -/
structure MA (S : Nat → Prop) (w : World) (g : MG) (c : Nat) (bs : List Nat) (T : List (Option Nd)) (tv : Value) (l : List Mt) (fl : Nat → Nat → Fl) (cw : Nat → Int × Int) : Prop where
  blk : Blk w g.m 73 g.cells
  who : Win w 0 56 2 (.slice (some ⟨g.wb, g.wo, none⟩) 2 g.wc) 2 whocells
  cwd : Win w 0 75 2 (.slice (some ⟨g.cb, g.co, none⟩) 2 g.cc) 2 (cwcells cw)
  cwS : S g.cb
  ft : FtAt S w g.fb fl
  wi : WI S w g.t c bs T g.tb tv l (fun k => frefs fl k + crefs cw k)
  cr : ∀ p, p < 2 → 0 ≤ (cw p).1 ∧ (cw p).1 ≤ 1000000 ∧ 0 ≤ (cw p).2
  ps : ∀ p k, p < 8 → k < 8 → (fl p k).pos ≤ 4294967296 + 1024 * (c : Int)
theorem MA.below {S : Nat → Prop} {w w' : World} {g : MG} {c : Nat} {bs : List Nat} {T : List (Option Nd)} {tv : Value} {l : List Mt} {fl : Nat → Nat → Fl} {cw : Nat → Int × Int} (h : MA S w g c bs T tv l fl cw) (hb : Below w.heap.size w w') : MA S w' g c bs T tv l fl cw :=
  ⟨h.blk.below hb, h.who.below hb, h.cwd.below hb, h.cwS, h.ft.below hb, h.wi.below hb, h.cr, h.ps⟩
theorem MA.lts {S : Nat → Prop} {w : World} {g : MG} {c : Nat} {bs : List Nat} {T : List (Option Nd)} {tv : Value} {l : List Mt} {fl : Nat → Nat → Fl} {cw : Nat → Int × Int} (h : MA S w g c bs T tv l fl cw) : MA (LtS S w) w g c bs T tv l fl cw :=
  ⟨h.blk, h.who, h.cwd, ⟨h.cwS, (h.cwd.lt g.cb rfl).2⟩, h.ft.lts, h.wi.lts, h.cr, h.ps⟩
/-- A Cwd's node is live. -/
theorem MA.cwl {S : Nat → Prop} {w : World} {g : MG} {c : Nat} {bs : List Nat} {T : List (Option Nd)} {tv : Value} {l : List Mt} {fl : Nat → Nat → Fl} {cw : Nat → Int × Int} (h : MA S w g c bs T tv l fl cw) {p : Nat} (hp : p < 2) : PlaceOk T (cw p).1 (cw p).2 := by
  obtain ⟨q1, q2, q3⟩ := h.cr p hp
  refine ⟨q1, q2, Liv.kept h.wi.inv ⟨(cw p).2.toNat, by omega, ?_⟩⟩
  have := crefs_pos (cw := cw) hp (k := (cw p).2.toNat) (by omega)
  show 0 < mrefs l _ + (frefs fl _ + crefs cw _)
  omega
/-- An open file's node is live. -/
theorem MA.fll {S : Nat → Prop} {w : World} {g : MG} {c : Nat} {bs : List Nat} {T : List (Option Nd)} {tv : Value} {l : List Mt} {fl : Nat → Nat → Fl} {cw : Nat → Int × Int} (h : MA S w g c bs T tv l fl cw) {p q : Nat} (hp : p < 8) (hq : q < 8) (hi : (fl p q).is = true) : Liv T (fl p q).an := by
  have hr := (h.ft.rg p q hp hq).2.2.1
  refine Liv.kept h.wi.inv ⟨(fl p q).an.toNat, by omega, ?_⟩
  have := frefs_pos hp hq hi (k := (fl p q).an.toNat) (by omega)
  show 0 < mrefs l _ + (frefs fl _ + crefs cw _)
  omega
abbrev TD : List TypeId := [5, 189, 195, 142, 106, 107, 110, 112, 115, 121, 75]
/-- A step of the model. -/
structure MS (S S' : Nat → Prop) (g : MG) (c : Nat) (w w' : World) : Prop where
  sub : ∀ k, S k → S' k
  sup : ∀ k, S' k → S k ∨ w.heap.size ≤ k
  fr : Fr S TD w w'
  at_ : ∃ bs T tv l fl cw, MA S' w' g c bs T tv l fl cw
theorem MS.trans {S S' S'' : Nat → Prop} {g : MG} {c c' : Nat} {w w' w'' : World} (h : MS S S' g c w w') (k : MS S' S'' g c' w' w'') : MS S S'' g c' w w'' := by
  refine ⟨fun i hi => k.sub i (h.sub i hi), fun i hi => ?_, h.fr.trans k.fr h.sup, k.at_⟩
  have := h.fr.size
  rcases k.sup i hi with q | q
  · exact h.sup i q
  · exact .inr (by omega)
theorem MS.below {S S' : Nat → Prop} {g : MG} {c : Nat} {w w1 w' : World} (hb : Below w.heap.size w w1) (h : MS S S' g c w1 w') : MS S S' g c w w' := by
  refine ⟨h.sub, fun k hk => ?_, (Fr.of_below (S := S) hb).trans h.fr (fun _ h => .inl h), h.at_⟩
  have := hb.size
  rcases h.sup k hk with q | q
  · exact .inl q
  · exact .inr (by omega)
theorem WI.mono {S : Nat → Prop} {w : World} {t c c' : Nat} {bs : List Nat} {T : List (Option Nd)} {tb : Nat} {tv : Value} {l : List Mt} {Rb : Nat → Nat} (h : WI S w t c bs T tb tv l Rb) (hc : c ≤ c') (hc' : c' ≤ 99000) : WI S w t c' bs T tb tv l Rb :=
  ⟨h.tr.mono hc, h.inv, h.tab, h.mi, h.ml, h.m0, Nat.le_trans h.ll hc, hc'⟩
theorem MA.mono {S : Nat → Prop} {w : World} {g : MG} {c c' : Nat} {bs : List Nat} {T : List (Option Nd)} {tv : Value} {l : List Mt} {fl : Nat → Nat → Fl} {cw : Nat → Int × Int} (h : MA S w g c bs T tv l fl cw) (hc : c ≤ c') (hc' : c' ≤ 99000) : MA S w g c' bs T tv l fl cw :=
  ⟨h.blk, h.who, h.cwd, h.cwS, h.ft, h.wi.mono hc hc', h.cr, fun p k hp hk => by have := h.ps p k hp hk; omega⟩
/-- The tree and the mounts turn; the rest stays. -/
theorem MA.world {S S' : Nat → Prop} {w w' : World} {g : MG} {c c' : Nat} {bs bs' : List Nat} {T T' : List (Option Nd)} {tv tv' : Value} {l l' : List Mt} {fl : Nat → Nat → Fl} {cw : Nat → Int × Int} (h : MA S w g c bs T tv l fl cw) (hs : WStep S S' g.t c' g.tb bs' tv' w w' T' l') (hi : TInv T' (fun k => mrefs l' k + (frefs fl k + crefs cw k)) none) (hm : MInv l') (hl : ML T' l') (h0 : M0 l') (hll : l'.length ≤ c') (hcc : c' ≤ 99000) (hcl : c ≤ c') : MA S' w' g c' bs' T' tv' l' fl cw :=
  ⟨h.blk.fr hs.fr (by decide), h.who.frT hs.fr (by decide), h.cwd.frT hs.fr (by decide), hs.sub _ h.cwS, h.ft.fr hs.sub hs.fr (by decide), ⟨hs.tr, hi, hs.tab, hm, hl, h0, hll, hcc⟩, h.cr, fun p k hp hk => by have := h.ps p k hp hk; omega⟩
end Go.Proofs.YtfjghemojnhmbaaGreat
/- The document's model: what asks alone. -/
namespace Go.Proofs.YtfjghemojnhmbaaGreat
open Go.RowKit

attribute [local go_sem ↓] run_field38 run_field38s
theorem mcell {w : World} {g : MG} (h : Blk w g.m 73 g.cells) : w.cell? ⟨g.m, 3, none⟩ = some (.slice (some ⟨g.wb, g.wo, none⟩) 2 g.wc) ∧ w.cell? ⟨g.m, 4, none⟩ = some (.pointer (some ⟨g.t, 0, none⟩)) ∧ w.cell? ⟨g.m, 5, none⟩ = some (.pointer (some ⟨g.tb, 0, none⟩)) ∧ w.cell? ⟨g.m, 6, none⟩ = some (.pointer (some ⟨g.fb, 0, none⟩)) ∧ w.cell? ⟨g.m, 7, none⟩ = some (.slice (some ⟨g.cb, g.co, none⟩) 2 g.cc) := ⟨h.cell 3, h.cell 4, h.cell 5, h.cell 6, h.cell 7⟩
set_option maxRecDepth 100000 in
theorem no15_any (n : Int) (w : World) : Calls Tryz.prog 21 #[.int .i64 n] w fun e w' => e = .returned (.agg #[.int .i64 n, .int .i64 0, .slice none 0 0, .slice none 0 0, .int .i64 0, .int .i64 0, .int .i64 0, .int .i64 0, .int .i64 0, .int .i64 0, .int .i64 0]) ∧ Below w.heap.size w w' := by
  go_enter Tryz.func21, Tryz.ntmps21
  go_wp2_with fail
  exact bodyPost_ret (res_out rfl rfl (Holds.new _ _ _)) rfl ⟨rfl, (Below.refl _ _).alloc (Nat.le_refl _) _⟩
set_option maxRecDepth 100000 in
theorem mstat_any {S : Nat → Prop} {w : World} {g : MG} {c : Nat} {bs : List Nat} {T : List (Option Nd)} {tv : Value} {l : List Mt} {fl : Nat → Nat → Fl} {cw : Nat → Int × Int} (hm : MA S w g c bs T tv l fl cw) (n : Int) (hn : R64 n) : Calls Tryz.prog 53 #[.pointer (some ⟨g.m, 0, none⟩), .int .i64 n] w (WsP T n w) := by
  have HC := Lib.hid (fun X hX => (hm.wi.ctx.below (w' := X) hX).stat n hn)
  have HM := Lib.hid hm.blk
  clear hm hn
  go_enter Tryz.func53, Tryz.ntmps53
  go_upto_region 1 with fail
  refine box1g (fun W hbx hnx => ?_)
  have H1B := Lib.hid hbx
  have H1 := Lib.hid hnx
  clear hbx hnx
  obtain ⟨A, hA⟩ : ∃ A, w.heap.size = A := ⟨_, rfl⟩
  rw [hA] at H1 ⊢
  have H1E : Hid (w.heap.size = A) := Lib.hid (by omega)
  clear hA
  have C1 := HC.out W H1B.out
  obtain ⟨m3, m4, m5, m6, m7⟩ := mcell (HM.out.below H1B.out)
  go_upto_region 2 with (first | (go_at_call 86; (with_reducible refine C1.mono ?_); rintro e w2 ⟨ok, f, rfl, hf, hb⟩; have H2 := Lib.hid (And.intro hf hb); clear hf hb; unfold Stt.val))
  have H3 := Lib.hid (And.intro (H1B.out.trans (H2.out.2.mono H1B.out.size)) (H1.out.below H2.out.2))
  refine box1g (fun W3 hbx hnx => ?_)
  have H4B := Lib.hid hbx
  have H4 := Lib.hid hnx
  clear hbx hnx
  obtain ⟨D, hD⟩ : ∃ D, w2.heap.size = D := ⟨_, rfl⟩
  rw [hD] at H4 ⊢
  have H4E : Hid (w2.heap.size = D) := Lib.hid (by omega)
  clear hD
  have nCD : ¬ D = A := by have h1 := H3.out.2.lt; have h2 := H4E.out; omega
  have d0 : W3.cell? ⟨D, 0, none⟩ = some (.int .i64 f.node) := H4.out.cell 0
  have d1 : W3.cell? ⟨D, 1, none⟩ = some (.int .i64 f.kind) := H4.out.cell 1
  have d2 : W3.cell? ⟨D, 2, none⟩ = some (.int .i64 f.mode) := H4.out.cell 2
  have d3 : W3.cell? ⟨D, 3, none⟩ = some (.int .i64 f.uid) := H4.out.cell 3
  have d4 : W3.cell? ⟨D, 4, none⟩ = some (.int .i64 f.gid) := H4.out.cell 4
  have d5 : W3.cell? ⟨D, 5, none⟩ = some (.int .i64 f.links) := H4.out.cell 5
  have d6 : W3.cell? ⟨D, 6, none⟩ = some (.int .i64 f.size) := H4.out.cell 6
  have H5 := Lib.hid (H3.out.2.below H4B.out)
  have HB5 := Lib.hid (H3.out.1.trans (H4B.out.mono H3.out.1.size))
  obtain ⟨z0, z1, z2, z3, z4, z5, z6, zf⟩ := szero_cells H5.out
  go_wp2_with fail
  exact bodyPost_ret (stt_out rfl rfl (H5.out.stt (f := f)).holds) rfl ⟨f, rfl, H2.out.1, below_stt HB5.out (by have h2 := H1E.out; omega)⟩
set_option maxRecDepth 100000 in
set_option maxHeartbeats 1000000 in
theorem flags_any (n : Int) (w : World) : Calls Tryz.prog 46 #[.int .i64 n] w (TruthP w) := by
  obtain ⟨a1, h1⟩ : ∃ a1, decide (n < 1) = a1 := ⟨_, rfl⟩
  obtain ⟨a2, h2⟩ : ∃ a2, decide (255 < n) = a2 := ⟨_, rfl⟩
  go_enter Tryz.func46, Tryz.ntmps46
  go_wp2_with fail
  all_goals
    go_ret
    exact ⟨_, rfl, rfl⟩
theorem cwcells_at (cw : Nat → Int × Int) {i : Nat} (hi : i < 2) : (cwcells cw)[i * 2]? = some (.int .i64 (cw i).1) ∧ (cwcells cw)[i * 2 + 1]? = some (.int .i64 (cw i).2) := by
  match i, hi with
  | 0, _ => exact ⟨rfl, rfl⟩
  | 1, _ => exact ⟨rfl, rfl⟩
theorem MA.cwcell {S : Nat → Prop} {w : World} {g : MG} {c : Nat} {bs : List Nat} {T : List (Option Nd)} {tv : Value} {l : List Mt} {fl : Nat → Nat → Fl} {cw : Nat → Int × Int} (hm : MA S w g c bs T tv l fl cw) {i : Nat} (hi : i < 2) : w.cell? ⟨g.cb, g.co + i * 2, none⟩ = some (.int .i64 (cw i).1) ∧ w.cell? ⟨g.cb, g.co + i * 2 + 1, none⟩ = some (.int .i64 (cw i).2) := by
  obtain ⟨q1, q2⟩ := cwcells_at cw hi
  exact ⟨(hm.cwd.cells (i * 2) (by omega)).trans q1, (hm.cwd.cells (i * 2 + 1) (by omega)).trans q2⟩
theorem MA.whocell {S : Nat → Prop} {w : World} {g : MG} {c : Nat} {bs : List Nat} {T : List (Option Nd)} {tv : Value} {l : List Mt} {fl : Nat → Nat → Fl} {cw : Nat → Int × Int} (hm : MA S w g c bs T tv l fl cw) {i : Nat} (hi : i < 2) : w.cell? ⟨g.wb, g.wo + i * 2, none⟩ = some (.int .i64 (crOf i).u) ∧ w.cell? ⟨g.wb, g.wo + i * 2 + 1, none⟩ = some (.int .i64 (crOf i).g) := by
  match i, hi with
  | 0, _ => exact ⟨hm.who.cells 0 (by omega), hm.who.cells 1 (by omega)⟩
  | 1, _ => exact ⟨hm.who.cells 2 (by omega), hm.who.cells 3 (by omega)⟩
set_option maxRecDepth 100000 in
theorem usedm_any {S : Nat → Prop} {w : World} {g : MG} {c : Nat} {bs : List Nat} {T : List (Option Nd)} {tv : Value} {l : List Mt} {fl : Nat → Nat → Fl} {cw : Nat → Int × Int} (hm : MA S w g c bs T tv l fl cw) (k : Int) : Calls Tryz.prog 44 #[.pointer (some ⟨g.m, 0, none⟩), .int .i64 k] w (TruthP w) := by
  have HM := Lib.hid hm
  have C1 := inm_any hm.ft k
  clear hm
  obtain ⟨m3, m4, m5, m6, m7⟩ := mcell HM.out.blk
  go_enter Tryz.func44, Tryz.ntmps44
  go_wp2_with fail
  go_loopw [5] (fun iv wr => ∃ i : Nat, i ≤ 2 ∧ iv = .int .i64 i ∧ w = wr) (fun iv _ => 2 - (intOf iv).toNat)
  case atStart => exact ⟨0, by omega, rfl, rfl⟩
  case round =>
    obtain ⟨i, hi, rfl, hw⟩ := hrel
    subst hw
    by_cases hlt : i < 2
    · have k0 : (0 : Int) ≤ (i : Int) := by omega
      have k1 : (i : Int) < (2 : Int) := by omega
      obtain ⟨c1, c2⟩ := HM.out.cwcell hlt
      obtain ⟨q, hq⟩ : ∃ q, ((cw i).1 == k) = q := ⟨_, rfl⟩
      cases q
      · go_wp2_with fail
        go_roundw
        case rel => exact ⟨i + 1, by omega, by go_num, by first | trivial | rfl⟩
        case measure => simp [intOf]; omega
      · go_wp2_with fail
        go_ret
        exact ⟨_, rfl, rfl⟩
    · obtain rfl : i = 2 := by omega
      go_wp2_with (first | (go_at_call 78; (with_reducible refine C1.mono ?_); rintro e wn ⟨n, rfl, hw, n0, n1⟩; replace hw := hw.symm; subst hw))
      go_ret
      exact ⟨_, rfl, rfl⟩
end Go.Proofs.YtfjghemojnhmbaaGreat
/- The document's model: World. -/
namespace Go.Proofs.YtfjghemojnhmbaaGreat
open Go.RowKit

/-- What World answers. -/
def WorldP (g : MG) (w : World) (e : Ending) (w' : World) : Prop := ∃ (ua : Option Addr) (un uc : Nat) (us : List Int), e = .returned (Wld g.t g.tb ua un uc) ∧ Ints w' w.heap.size (.slice ua un uc) us ∧ Below w.heap.size w w'
theorem wld_out {fn : Func} {tmps : Array Value} {w : World} {S a : Nat} {p0 p1 p2 p3 p4 : Value} (hr : fn.results = #[.cell a 83]) (h4 : tmps.getD a undef = .pointer (some ⟨S, 0, none⟩))
    (h : Holds w S #[p0, p1, p2, p3, p4]) : (results fn tmps).run Tryz.prog w = .ok (.agg #[p0, p1, p2, p3, p4]) w := by
  have v0 : w.cell? ⟨S, 0, none⟩ = some p0 := h.cell 0
  have v1 : w.cell? ⟨S, 1, none⟩ = some p1 := h.cell 1
  have v2 : w.cell? ⟨S, 2, none⟩ = some p2 := h.cell 2
  have v3 : w.cell? ⟨S, 3, none⟩ = some p3 := h.cell 3
  have v4 : w.cell? ⟨S, 4, none⟩ = some p4 := h.cell 4
  unfold results
  rw [hr]
  have h4' : tmps[a]?.getD undef = .pointer (some ⟨S, 0, none⟩) := by rw [← h4]; simp
  simp [asAddr, h4', go_sem, v0, v1, v2, v3, v4]
/-- What stands while World collects. -/
structure WoI (w wr : World) (Z B n : Nat) (v : Value) (xs : List Int) : Prop where
  bel : Below w.heap.size w wr
  blk : Blk wr Z 83 #[.pointer none, .pointer none, .int .i64 0, .int .i64 0, .slice none 0 0]
  len : xs.length = n
  win : Win wr B 3 1 v n (xs.map (.int .i64))
  rg : ∀ x ∈ xs, 0 ≤ x ∧ x ≤ 1000000
  bz : Z < B
  wb : w.heap.size ≤ B
theorem WoI.alloc {w wr : World} {Z B n : Nat} {v : Value} {xs : List Int} (h : WoI w wr Z B n v xs) (o : Obj) : WoI w (wr.alloc o) Z B n v xs := ⟨h.bel.alloc h.bel.size o, h.blk.alloc o, h.len, h.win.alloc o, h.rg, h.bz, h.wb⟩
theorem WoI.below {w wr w' : World} {Z B n : Nat} {v : Value} {xs : List Int} (h : WoI w wr Z B n v xs) (hb : Below wr.heap.size wr w') : WoI w w' Z B n v xs := ⟨h.bel.trans (hb.mono h.bel.size), h.blk.below hb, h.len, h.win.below hb, h.rg, h.bz, h.wb⟩
theorem WoI.push {w wr w4 : World} {Z B n : Nat} {v v' : Value} {b : Int} {xs : List Int} (h : WoI w wr Z B n v xs) (hw : Win w4 B 3 1 v' (n + 1) (xs.map (.int .i64) ++ [.int .i64 b])) (hg : wr.grownBy w4 v.ownBlock) (h0 : 0 ≤ b) (h1 : b ≤ 1000000) : WoI w w4 Z B (n + 1) v' (xs ++ [b]) := by
  have hl : ∀ k, v.ownBlock = some k → B ≤ k := fun k hk => (h.win.lt k hk).1
  have ho : ∀ k, k < wr.heap.size → ¬ B ≤ k → w4.heap[k]? = wr.heap[k]? := fun k hk hn => hg.block k hk (fun q => hn (hl k q.symm))
  have hz := h.blk.lt
  refine ⟨⟨hg.os.trans h.bel.os, hg.tape.trans h.bel.tape, hg.output.trans h.bel.output, Nat.le_trans h.bel.size hg.size, fun k hk => ?_⟩, (ho Z hz (by have := h.bz; omega)).trans h.blk, by rw [List.length_append, h.len]; rfl, by rw [List.map_append]; exact hw, ?_, h.bz, h.wb⟩
  · have := h.bel.size
    have := h.wb
    exact (ho k (by omega) (by omega)).trans (h.bel.block k hk)
  · intro x hx
    rcases List.mem_append.1 hx with q | q
    · exact h.rg x q
    · rw [List.mem_singleton.1 q]; exact ⟨h0, h1⟩
theorem below_grow {B : Nat} {a wr w4 : World} {row : Option Nat} (h : Below B a wr) (hg : wr.grownBy w4 row) (hl : ∀ k, row = some k → B ≤ k) (hB : B ≤ wr.heap.size) : Below B a w4 :=
  ⟨hg.os.trans h.os, hg.tape.trans h.tape, hg.output.trans h.output, Nat.le_trans h.size hg.size, fun k hk => (hg.block k (Nat.lt_of_lt_of_le hk hB) (fun q => by have := hl k q.symm; omega)).trans (h.block k hk)⟩
def wl5 (X : World) (Z : Nat) (a b c d e : Value) : World := ((((X.setCell ⟨Z, 0, none⟩ a).setCell ⟨Z, 1, none⟩ b).setCell ⟨Z, 2, none⟩ c).setCell ⟨Z, 3, none⟩ d).setCell ⟨Z, 4, none⟩ e
theorem wz_cells {w : World} {Z : Nat} (h : Blk w Z 83 #[.pointer none, .pointer none, .int .i64 0, .int .i64 0, .slice none 0 0]) : w.cell? ⟨Z, 0, none⟩ = some (.pointer none) ∧ w.cell? ⟨Z, 1, none⟩ = some (.pointer none) ∧ w.cell? ⟨Z, 2, none⟩ = some (.int .i64 0) ∧ w.cell? ⟨Z, 3, none⟩ = some (.int .i64 0) ∧ w.cell? ⟨Z, 4, none⟩ = some (.slice none 0 0) ∧ ∀ j, w.frozen? ⟨Z, j, none⟩ = false := ⟨h.cell 0, h.cell 1, h.cell 2, h.cell 3, h.cell 4, h.free⟩
set_option maxRecDepth 100000 in
set_option maxHeartbeats 1000000 in
theorem worldm_any {S : Nat → Prop} {w : World} {g : MG} {c : Nat} {bs : List Nat} {T : List (Option Nd)} {tv : Value} {l : List Mt} {fl : Nat → Nat → Fl} {cw : Nat → Int × Int} (hm : MA S w g c bs T tv l fl cw) : Calls Tryz.prog 24 #[.pointer (some ⟨g.m, 0, none⟩)] w (WorldP g w) := by
  obtain ⟨i3, h31, h32, h33, h34⟩ := info_parts info3
  have HM := Lib.hid hm
  clear hm
  go_enter Tryz.func24, Tryz.ntmps24
  go_upto_region 1 with fail
  refine box1g (fun W hbx hnx => ?_)
  have H1B := Lib.hid hbx
  have H1 := Lib.hid hnx
  clear hbx hnx
  obtain ⟨Z, hZ⟩ : ∃ Z, w.heap.size = Z := ⟨_, rfl⟩
  rw [hZ] at H1 ⊢
  have H1E : Hid (w.heap.size = Z) := Lib.hid (by omega)
  clear hZ
  have C1 := list_any S W g.tb tv l (HM.out.below H1B.out).wi.tab
  obtain ⟨m3, m4, m5, m6, m7⟩ := mcell (HM.out.below H1B.out).blk
  go_upto_region 3 with (first | (go_at_call 43; (with_reducible refine C1.mono ?_); rintro e w2 ⟨v, ys, rfl, hy, hb⟩; have H2 := Lib.hid (And.intro hy hb); obtain ⟨va, vc, rfl⟩ := hy.1.value; clear hy hb))
  have HMX : Hid (∀ X, Below w2.heap.size w2 X → MA S X g c bs T tv l fl cw ∧ Ints X W.heap.size (.slice va ys.length vc) ys) := Lib.hid fun X hX => ⟨(HM.out.below (H1B.out.trans (H2.out.2.mono H1B.out.size))).below hX, H2.out.1.below hX⟩
  have HI : Hid (WoI w w2 Z w2.heap.size 0 (.slice none 0 0) []) := Lib.hid ⟨H1B.out.trans (H2.out.2.mono H1B.out.size), H1.out.below H2.out.2, rfl, Win.nil _ _ _ _, by simp, Nat.lt_of_lt_of_le H1.out.lt H2.out.2.size, (H1B.out.trans (H2.out.2.mono H1B.out.size)).size⟩
  obtain ⟨B, hB⟩ : ∃ B, w2.heap.size = B := ⟨_, rfl⟩
  have HBB := Lib.hid hB
  rw [hB] at HI
  clear hB m3 m4 m5 m6 m7
  have hys := H2.out.1.2.2
  go_wp2_with fail
  go_loopw [5, 3] (fun iv sv wr => ∃ (i n : Nat) (xs : List Int), i ≤ ys.length ∧ n ≤ i ∧ iv = .int .i64 i ∧ Hid (WoI w wr Z B n sv xs) ∧ Hid (Below B w2 wr)) (fun iv _ _ => ys.length - (intOf iv).toNat)
  case atStart => exact ⟨0, 0, [], by omega, by omega, rfl, HI, Lib.hid (by rw [← HBB.out]; exact Below.refl _ _)⟩
  case round =>
    clear HI
    obtain ⟨i, n, xs, hi, hn, rfl, HI, HBR⟩ := hrel
    obtain ⟨ua, uc, rfl⟩ := HI.out.win.value
    have HR := Lib.hid (HMX.out _ (by rw [HBB.out]; exact HBR.out))
    by_cases hlt : i < ys.length
    · have k0 : (0 : Int) ≤ (i : Int) := by omega
      have k1 : (i : Int) < (ys.length : Int) := by omega
      obtain ⟨y, hy⟩ : ∃ y, ys[i]? = some y := ⟨_, List.getElem?_eq_getElem hlt⟩
      have hyr := HR.out.2.2.1 y (List.mem_of_getElem? hy)
      have HY := Lib.hid hyr
      obtain ⟨f, o, cap, hv⟩ := HR.out.2.1.form (by omega)
      cases hv
      have hc1 := HR.out.2.1.cells i (by omega)
      replace hc1 : wr.cell? ⟨f, o + i, none⟩ = some (.int .i64 y) := by rw [hc1, List.getElem?_map, hy]; rfl
      have C2 := usedm_any HR.out.1 y
      have wsz := HI.out.wb
      have bsz : B ≤ wr.heap.size := by have := HBR.out.size; have := HBB.out; omega
      clear hyr hy
      go_wp2_with (first | (go_at_call 44; (with_reducible refine C2.mono ?_); rintro e wn ⟨r, rfl, hw⟩; replace hw := hw.symm; subst hw; cases r) | (at_builtin; go_must (refine wpList_append_win _ rfl (.tmp 23) (.tmp 28) 81 rfl B 3 i3 _ 1 8 Tryz.underlying81 h31 h32 h33 h34 rfl (by decide) (.slice ua n uc) n (xs.map (.int .i64)) rfl (HI.out.win.alloc _) ⟨wr.heap.size, 0, none⟩ 1 1 [.int .i64 y] rfl rfl (new_cells wr [.int .i64 y] 3) (by simp [Value.oneCell']) (by omega) (by unfold maxLen; omega) (by omega) (by simp; omega) ?_; intro f' o' cap' w4 hown hgrow hat; have HP := Lib.hid (And.intro ((HI.out.alloc (.cells #[.int .i64 y] 3)).push hown hgrow HY.out.1 HY.out.2) (below_grow (HBR.out.alloc bsz (.cells #[.int .i64 y] 3)) hgrow (fun k hk => (HI.out.win.lt k hk).1) (by simp; omega))); clear hown hgrow hat)))
      · go_roundw
        case rel => exact ⟨i + 1, n, xs, by omega, by omega, by go_num, HI, HBR⟩
        case measure => simp [intOf]; omega
      · go_roundw
        case rel => exact ⟨i + 1, n + 1, xs ++ [y], by omega, by omega, by go_num, Lib.hid HP.out.1, Lib.hid HP.out.2⟩
        case measure => simp [intOf]; omega
    · have k1 : ¬ (i : Int) < (ys.length : Int) := by omega
      obtain ⟨m3, m4, m5, m6, m7⟩ := mcell HR.out.1.blk
      obtain ⟨z0, z1, z2, z3, z4, zf⟩ := wz_cells HI.out.blk
      go_upto_region 8 with fail
      go_still_tail 11, (by kernel_rfl)
      change wpList _ _ _ _ _ (World.drew _)
      go_wp2_with fail
      have HX : Hid (∀ tm : Array Value, tm.getD 2 undef = .pointer (some ⟨Z, 0, none⟩) → bodyPost Tryz.prog Tryz.f24 (WorldP g w) .ret ⟨tm, []⟩ (wl5 wr Z (.pointer (some ⟨g.t, 0, none⟩)) (.pointer (some ⟨g.tb, 0, none⟩)) (.int .i64 0) (.int .i64 1) (.slice ua n uc)).drew) := Lib.hid fun tm h4 => by
        have hb := HI.out.blk
        have hz : w.heap.size ≤ Z := by have := H1E.out; omega
        have h5 := ((((hb.set 0 (.pointer (some ⟨g.t, 0, none⟩))).set 1 (.pointer (some ⟨g.tb, 0, none⟩))).set 2 (.int .i64 0)).set 3 (.int .i64 1)).set 4 (.slice ua n uc)
        have h6 : Holds (wl5 wr Z (.pointer (some ⟨g.t, 0, none⟩)) (.pointer (some ⟨g.tb, 0, none⟩)) (.int .i64 0) (.int .i64 1) (.slice ua n uc)).drew Z #[.pointer (some ⟨g.t, 0, none⟩), .pointer (some ⟨g.tb, 0, none⟩), .int .i64 0, .int .i64 1, .slice ua n uc] := by
          unfold wl5
          exact holds_drew (by simpa using h5.holds)
        have h7 : Below w.heap.size w (wl5 wr Z (.pointer (some ⟨g.t, 0, none⟩)) (.pointer (some ⟨g.tb, 0, none⟩)) (.int .i64 0) (.int .i64 1) (.slice ua n uc)).drew := by
          unfold wl5
          exact (((((HI.out.bel.setCell hz _).setCell hz _).setCell hz _).setCell hz _).setCell hz _).drew
        have h8 : Win (wl5 wr Z (.pointer (some ⟨g.t, 0, none⟩)) (.pointer (some ⟨g.tb, 0, none⟩)) (.int .i64 0) (.int .i64 1) (.slice ua n uc)).drew w.heap.size 3 1 (.slice ua n uc) n (xs.map (.int .i64)) := by
          unfold wl5
          have q : ∀ {X : World} (i : Nat) (u : Value), Win X B 3 1 (.slice ua n uc) n (xs.map (.int .i64)) → Win (X.setCell ⟨Z, i, none⟩ u) B 3 1 (.slice ua n uc) n (xs.map (.int .i64)) := fun i u hX => hX.kept fun k hk => by
            have := (hX.lt k hk).1
            have hbz := HI.out.bz
            exact Below.heap_setCell _ _ _ _ (fun e => by have e' : k = Z := e; omega)
          exact (q _ _ (q _ _ (q _ _ (q _ _ (q _ _ HI.out.win))))).of_base HI.out.wb |>.below (Below.refl _ _).drew
        refine bodyPost_ret (wld_out rfl h4 h6) rfl ⟨ua, n, uc, xs, rfl, ⟨by rw [HI.out.len]; exact h8, HI.out.rg, by rw [HI.out.len]; omega⟩, h7⟩
      unfold wl5 at HX
      with_reducible exact HX.out _ rfl
end Go.Proofs.YtfjghemojnhmbaaGreat
