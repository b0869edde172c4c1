/- The document's model: the calls on names. -/
import Derived.Test.YtfjghemojnhmbaaGreatXc
import Derived.Test.YtfjghemojnhmbaaGreatYg
namespace Go.Proofs.YtfjghemojnhmbaaGreat
open Go.RowKit

attribute [local go_sem ↓] run_field38 run_field38s
theorem Rmem.below {w w1 w2 : World} {S S' : Nat → Prop} {r : Res} {y z : Value} (h : Rmem w w1 S S' r y z) (hb : Below w1.heap.size w1 w2) : Rmem w w2 S S' r y z := by
  rcases h with h | ⟨h1, h2, h3, h4, h5⟩
  · exact .inl h
  · exact .inr ⟨h1, h2.below hb, h3.below hb, h4, h5⟩
theorem Rmem.frm {w w1 w2 : World} {S S' : Nat → Prop} {r : Res} {y z : Value} {k : Nat} (h : Rmem w w1 S S' r y z) (hf : Frm [k] w1 w2) (ho : Off y k ∧ Off z k) : Rmem w w2 S S' r y z := by
  rcases h with h | ⟨h1, h2, h3, h4, h5⟩
  · exact .inl h
  · exact .inr ⟨h1, h2.frm hf (fun k hk => by rw [List.mem_singleton.1 hk]; exact ho.1), h3.frm hf (fun k hk => by rw [List.mem_singleton.1 hk]; exact ho.2), h4, h5⟩
theorem Rmem.low {w w1 w2 : World} {S S' : Nat → Prop} {r : Res} {y z : Value} (h : Rmem w1 w2 S S' r y z) (hb : w.heap.size ≤ w1.heap.size) : Rmem w w2 S S' r y z := by
  rcases h with h | ⟨h1, h2, h3, h4, h5⟩
  · exact .inl h
  · exact .inr ⟨h1, h2, h3, h4.low hb, h5.low hb⟩
theorem Rmem.off {w w1 : World} {S S' : Nat → Prop} {r : Res} {y z : Value} {k : Nat} (h : Rmem w w1 S S' r y z) (hk : k < w.heap.size) : Off y k ∧ Off z k := by
  rcases h with ⟨rfl, rfl, _, _⟩ | ⟨h1, h2, h3, h4, h5⟩
  · exact ⟨off_nil _, off_nil _⟩
  · exact ⟨h4.off hk, h5.off hk⟩
theorem Rmem.offN {w w1 : World} {S S' : Nat → Prop} {r : Res} {y z : Value} {k : Nat} (h : Rmem w w1 S S' r y z) (hk : w1.heap.size ≤ k) : Off y k ∧ Off z k := by
  rcases h with ⟨rfl, rfl, _, _⟩ | ⟨h1, h2, h3, h4, h5⟩
  · exact ⟨off_nil _, off_nil _⟩
  · exact ⟨h2.off hk, h3.off hk⟩
theorem frm_pl (X : World) (F : Nat) (m n : Value) : Frm [F] X (pl2 X F m n) := ((Frm.refl [F] X).setCell (by simp) m).setCell (by simp) n
/-- A call on names has come back; its result is being kept. -/
structure Z4 (S S' : Nat → Prop) (W wx : World) (g : MG) (c : Nat) (bs : List Nat) (T : List (Option Nd)) (tv : Value) (l : List Mt) (fl : Nat → Nat → Fl) (cw : Nat → Int × Int) (r : Res) (y z : Value) : Prop where
  sub : ∀ k, S k → S' k
  sup : ∀ k, S' k → S k ∨ W.heap.size ≤ k
  fr : Fr S TM W wx
  at_ : MA S' wx g c bs T tv l fl cw
  mem : Rmem W wx S S' r y z
theorem Z4.below {S S' : Nat → Prop} {W wx : World} {g : MG} {c : Nat} {bs : List Nat} {T : List (Option Nd)} {tv : Value} {l : List Mt} {fl : Nat → Nat → Fl} {cw : Nat → Int × Int} {r : Res} {y z : Value} (h : Z4 S S' W wx g c bs T tv l fl cw r y z) {wy : World} (hb : Below wx.heap.size wx wy) : Z4 S S' W wy g c bs T tv l fl cw r y z :=
  ⟨h.sub, h.sup, h.fr.trans (Fr.of_below (S := S) hb) (fun _ h => .inl h), h.at_.below hb, h.mem.below hb⟩
theorem Z4.res {S S' : Nat → Prop} {W wx : World} {g : MG} {c : Nat} {bs : List Nat} {T : List (Option Nd)} {tv : Value} {l : List Mt} {fl : Nat → Nat → Fl} {cw : Nat → Int × Int} {r : Res} {y z : Value} (h : Z4 S S' W wx g c bs T tv l fl cw r y z) {D : Nat} (hb : Blk wx D 40 rz) (hw : W.heap.size ≤ D) (ho : Off y D ∧ Off z D) (a0 a1 a2 a3 a4 a5 a6 a7 a8 a9 a10 : Value) : Z4 S S' W (res11 wx D a0 a1 a2 a3 a4 a5 a6 a7 a8 a9 a10) g c bs T tv l fl cw r y z :=
  ⟨h.sub, h.sup, fr_resW h.fr hw a0 a1 a2 a3 a4 a5 a6 a7 a8 a9 a10, h.at_.frT (fr_res (S := fun _ => True) hb trivial a0 a1 a2 a3 a4 a5 a6 a7 a8 a9 a10) (by decide) (by decide) (by decide) (by decide), h.mem.frm (frm_res wx D a0 a1 a2 a3 a4 a5 a6 a7 a8 a9 a10) ho⟩
theorem Z4.pl {S S' : Nat → Prop} {W wx : World} {g : MG} {c : Nat} {bs : List Nat} {T : List (Option Nd)} {tv : Value} {l : List Mt} {fl : Nat → Nat → Fl} {cw : Nat → Int × Int} {r : Res} {y z : Value} (h : Z4 S S' W wx g c bs T tv l fl cw r y z) {D : Nat} {a b : Value} (hb : Blk wx D 75 #[a, b]) (hw : W.heap.size ≤ D) (hne : g.cb ≠ D) (ho : Off y D ∧ Off z D) (m n : Value) : Z4 S S' W (pl2 wx D m n) g c bs T tv l fl cw r y z :=
  ⟨h.sub, h.sup, (h.fr.newSet hw m).newSet hw n, h.at_.pl hb hne m n, h.mem.frm (frm_pl wx D m n) ho⟩
theorem Z4.of {S S' : Nat → Prop} {W wx wy : World} {g : MG} {c c' : Nat} {bs bs' : List Nat} {T T' : List (Option Nd)} {tv tv' : Value} {l l' : List Mt} {fl : Nat → Nat → Fl} {cw : Nat → Int × Int} {r : Res} {y z : Value} (h : MA S wx g c bs T tv l fl cw) (hf : Fr S TM W wx) (hs : WStep S S' g.t c' g.tb bs' tv' wx wy T' l') (hi : TInv T' (fun k => mrefs l' k + (frefs fl k + crefs cw k)) none) (hm : MInv l') (hl : ML T' l') (h0 : M0 l') (hll : l'.length ≤ c') (hcc : c' ≤ 99000) (hcl : c ≤ c') (hr : Rmem wx wy S S' r y z) : Z4 S S' W wy g c' bs' T' tv' l' fl cw r y z := by
  have hsz := hf.size
  refine ⟨hs.sub, fun k hk => ?_, hf.trans hs.fr (fun _ h => .inl h), h.world hs hi hm hl h0 hll hcc hcl, hr.low hsz⟩
  rcases hs.sup k hk with q | q
  · exact .inl q
  · exact .inr (by omega)
theorem Z4.ms {S S' : Nat → Prop} {W wx : World} {g : MG} {c : Nat} {bs : List Nat} {T : List (Option Nd)} {tv : Value} {l : List Mt} {fl : Nat → Nat → Fl} {cw : Nat → Int × Int} {r : Res} {y z : Value} (h : Z4 S S' W wx g c bs T tv l fl cw r y z) {w : World} (hb : Below w.heap.size w W) : MS S S' g c w wx :=
  MS.below hb ⟨h.sub, h.sup, h.fr.mono (fun _ h => .inl h) (by decide), _, _, _, _, _, _, h.at_⟩
theorem res_cells {w : World} {D : Nat} {e : TypeId} {r : Res} {y z : Value} (k : Blk w D e (r.cells y z).toArray) : w.cell? ⟨D, 0, none⟩ = some (.int .i64 r.w) ∧ w.cell? ⟨D, 1, none⟩ = some (.int .i64 r.n) ∧ w.cell? ⟨D, 2, none⟩ = some y ∧ w.cell? ⟨D, 3, none⟩ = some z ∧ w.cell? ⟨D, 4, none⟩ = some (.int .i64 r.s0) ∧ w.cell? ⟨D, 5, none⟩ = some (.int .i64 r.s1) ∧ w.cell? ⟨D, 6, none⟩ = some (.int .i64 r.s2) ∧ w.cell? ⟨D, 7, none⟩ = some (.int .i64 r.s3) ∧ w.cell? ⟨D, 8, none⟩ = some (.int .i64 r.s4) ∧ w.cell? ⟨D, 9, none⟩ = some (.int .i64 r.s5) ∧ w.cell? ⟨D, 10, none⟩ = some (.int .i64 r.s6) :=
  ⟨k.cell 0, k.cell 1, k.cell 2, k.cell 3, k.cell 4, k.cell 5, k.cell 6, k.cell 7, k.cell 8, k.cell 9, k.cell 10⟩
/-- A slice's elements lie outside what the model owns. -/
def OutS (S : Nat → Prop) (w : World) (v : Value) : Prop := ∀ a n c, v = .slice (some a) (n + 1) c → a.block < w.heap.size ∧ ¬ S a.block
/-- The slices of a result: in new memory of nobody's. -/
def DMem (w w' : World) (S' : Nat → Prop) (r : Res) (y z : Value) : Prop := (Den 1 w' y (byts r.ds) ∧ Den 16 w' z (strs r.ss)) ∧ (From w.heap.size y ∧ From w.heap.size z) ∧ OutS S' w' y ∧ OutS S' w' z
theorem Den.inside {by_ : Nat} {w : World} {v : Value} {vs : List Value} (h : Den by_ w v vs) : ∀ a n c, v = .slice (some a) (n + 1) c → a.block < w.heap.size := by
  obtain ⟨p, n, c, rfl, _, _, _, _, _, h0⟩ := h
  intro a n' c' e
  obtain ⟨b, o, hp, hb, _⟩ := h0 (by cases e; omega)
  cases e
  cases hp
  exact hb
theorem DMem.of {w w' : World} {S S' : Nat → Prop} {r : Res} {y z : Value} (h : Rmem w w' S S' r y z) (hS : ∀ k, S k → k < w.heap.size) : DMem w w' S' r y z := by
  rcases h with ⟨rfl, rfl, h3, h4⟩ | ⟨h1, h2, h3, h4, h5⟩
  · rw [DMem, h3, h4]
    exact ⟨⟨Den.nil _ _, Den.nil _ _⟩, ⟨fun a n c h => (by cases h), fun a n c h => (by cases h)⟩, fun a n c h => (by cases h), fun a n c h => (by cases h)⟩
  · refine ⟨⟨h2, h3⟩, ⟨h4, h5⟩, fun a n c h => ⟨h2.inside a n c h, fun q => ?_⟩, fun a n c h => ⟨h3.inside a n c h, fun q => ?_⟩⟩
    · have := hS _ (h1 _ q)
      have := h4 a n c h
      omega
    · have := hS _ (h1 _ q)
      have := h5 a n c h
      omega
theorem den_nil {by_ : Nat} {w : World} {v : Value} (h : Den by_ w v []) : ∃ p c, v = .slice p 0 c ∧ ∀ w', Den by_ w' v [] := by
  obtain ⟨p, n, c, rfl, hn, h1, h2, h3, h4, h5⟩ := h
  have hn' : n = 0 := by simpa using hn.symm
  subst hn'
  exact ⟨p, c, rfl, fun w' => ⟨p, 0, c, rfl, rfl, h1, h2, h3, h4, fun h => absurd h (by omega)⟩⟩
theorem DMem.empty {w w1 : World} {S S' : Nat → Prop} {r : Res} {y z : Value} (h : Rmem w w1 S S' r y z) (hd : r.ds = []) (hs : r.ss = []) : (∀ w2 w3 S3, DMem w2 w3 S3 r y z) ∧ ∀ k, Off y k ∧ Off z k := by
  have h0 : Den 1 w1 y [] ∧ Den 16 w1 z [] := by
    rcases h with ⟨rfl, rfl, _, _⟩ | ⟨h1, h2, h3, h4, h5⟩
    · exact ⟨Den.nil _ _, Den.nil _ _⟩
    · rw [hd] at h2
      rw [hs] at h3
      exact ⟨h2, h3⟩
  obtain ⟨p, c, rfl, e1⟩ := den_nil h0.1
  obtain ⟨p', c', rfl, e2⟩ := den_nil h0.2
  refine ⟨fun w2 w3 S3 => ?_, fun k => ⟨fun a n c h => (by cases h), fun a n c h => (by cases h)⟩⟩
  rw [DMem, hd, hs]
  exact ⟨⟨e1 _, e2 _⟩, ⟨fun a n c h => (by cases h), fun a n c h => (by cases h)⟩, fun a n c h => (by cases h), fun a n c h => (by cases h)⟩
/-- What Do does. -/
def DoP (S : Nat → Prop) (g : MG) (c : Nat) (op : Int) (w : World) (e : Ending) (w' : World) : Prop := ∃ (r : Res) (y z : Value) (S' : Nat → Prop), e = .returned (.agg (r.cells y z).toArray) ∧ MS S S' g c w w' ∧ DMem w w' S' r y z ∧ fldI op r = true
theorem do_fin {S S' : Nat → Prop} {w X : World} {g : MG} {c E : Nat} {op : Int} {fn : Func} {tmps : Array Value} {a : Nat} (r : Res) (y z : Value) (hr : fn.results = #[.cell a 40]) (hs : MS S S' g c w X) (hE : Blk X E 40 rz) (wE : w.heap.size ≤ E) (hm : DMem w X S' r y z) (ho : Off y E ∧ Off z E) (hf : fldI op r = true)
    (h4 : tmps.getD a undef = .pointer (some ⟨E, 0, none⟩)) : bodyPost Tryz.prog fn (DoP S g c op w) .ret ⟨tmps, []⟩ (res11 X E (.int .i64 r.w) (.int .i64 r.n) y z (.int .i64 r.s0) (.int .i64 r.s1) (.int .i64 r.s2) (.int .i64 r.s3) (.int .i64 r.s4) (.int .i64 r.s5) (.int .i64 r.s6)) := by
  have b1 := hE.res (.int .i64 r.w) (.int .i64 r.n) y z (.int .i64 r.s0) (.int .i64 r.s1) (.int .i64 r.s2) (.int .i64 r.s3) (.int .i64 r.s4) (.int .i64 r.s5) (.int .i64 r.s6)
  have hfr : Fr (fun _ => True) [40] X (res11 X E (.int .i64 r.w) (.int .i64 r.n) y z (.int .i64 r.s0) (.int .i64 r.s1) (.int .i64 r.s2) (.int .i64 r.s3) (.int .i64 r.s4) (.int .i64 r.s5) (.int .i64 r.s6)) := fr_res hE trivial (.int .i64 r.w) (.int .i64 r.n) y z (.int .i64 r.s0) (.int .i64 r.s1) (.int .i64 r.s2) (.int .i64 r.s3) (.int .i64 r.s4) (.int .i64 r.s5) (.int .i64 r.s6)
  have hsz := hfr.size
  obtain ⟨bs, T, tv, l, fl, cw, q⟩ := hs.at_
  obtain ⟨⟨h1, h2⟩, h3, h5, h6⟩ := hm
  have hfm := frm_res X E (.int .i64 r.w) (.int .i64 r.n) y z (.int .i64 r.s0) (.int .i64 r.s1) (.int .i64 r.s2) (.int .i64 r.s3) (.int .i64 r.s4) (.int .i64 r.s5) (.int .i64 r.s6)
  refine bodyPost_ret (res_out hr h4 b1.holds) rfl ⟨r, y, z, S', rfl, ⟨hs.sub, hs.sup, fr_resW hs.fr wE (.int .i64 r.w) (.int .i64 r.n) y z (.int .i64 r.s0) (.int .i64 r.s1) (.int .i64 r.s2) (.int .i64 r.s3) (.int .i64 r.s4) (.int .i64 r.s5) (.int .i64 r.s6), bs, T, tv, l, fl, cw, q.frT hfr (by decide) (by decide) (by decide) (by decide)⟩, ⟨⟨h1.frm hfm (fun k hk => by rw [List.mem_singleton.1 hk]; exact ho.1), h2.frm hfm (fun k hk => by rw [List.mem_singleton.1 hk]; exact ho.2)⟩, h3, fun a n c h => ⟨Nat.lt_of_lt_of_le (h5 a n c h).1 hsz, (h5 a n c h).2⟩, fun a n c h => ⟨Nat.lt_of_lt_of_le (h6 a n c h).1 hsz, (h6 a n c h).2⟩⟩, hf⟩
theorem Rmem.form {w w1 : World} {S S' : Nat → Prop} {r : Res} {y z : Value} (h : Rmem w w1 S S' r y z) : ∃ p n c p' n' c', y = .slice p n c ∧ z = .slice p' n' c' := by
  rcases h with ⟨rfl, rfl, _, _⟩ | ⟨h1, h2, h3, h4, h5⟩
  · exact ⟨_, _, _, _, _, _, rfl, rfl⟩
  · obtain ⟨p, c, e⟩ := h2.value
    obtain ⟨p', c', e'⟩ := h3.value
    exact ⟨_, _, _, _, _, _, e, e'⟩
theorem fld17 {r : Res} (h : fldI 17 r = true) (hw : r.w = 0) : r.ds = [] ∧ r.ss = [] := by
  unfold fldI at h
  rw [if_pos hw] at h
  simp at h
  exact ⟨h.1.2.1, h.1.2.2⟩
/-- Two cells of a row. -/
def plo (X : World) (F o : Nat) (m n : Value) : World := (X.setCell ⟨F, o, none⟩ m).setCell ⟨F, o + 1, none⟩ n
theorem cwcells_upd (cw : Nat → Int × Int) {p : Nat} (hp : p < 2) (m n : Int) : cwcells (updW cw p m n) = ((cwcells cw).set (p * 2) (.int .i64 m)).set (p * 2 + 1) (.int .i64 n) := by
  match p, hp with
  | 0, _ => simp [cwcells, updW]
  | 1, _ => simp [cwcells, updW]
theorem MA.chdir {S S3 : Nat → Prop} {wx w3 : World} {g : MG} {c c1 : Nat} {bs bs3 : List Nat} {T T3 : List (Option Nd)} {tv : Value} {l : List Mt} {fl : Nat → Nat → Fl} {cw : Nat → Int × Int} {p : Nat} {m n : Int} (h : MA S wx g c bs T tv l fl cw) (hs : TStep S S3 g.t c1 bs3 wx w3 T3) (hi : TInv T3 (fun k => mrefs l k + (frefs fl k + crefs (updW cw p m n) k)) none) (hk : KK T T3) (hp : p < 2) (hmn : 0 ≤ m ∧ m ≤ 1000000 ∧ 0 ≤ n) (hc : c ≤ c1) (hc1 : c1 ≤ 99000) :
    MA S3 (plo w3 g.cb (g.co + p * 2) (.int .i64 m) (.int .i64 n)) g c1 bs3 T3 tv l fl (updW cw p m n) ∧ Fr S TD wx (plo w3 g.cb (g.co + p * 2) (.int .i64 m) (.int .i64 n)) := by
  have hcw := h.cwd.frT hs.fr (by decide)
  obtain ⟨cur, hb⟩ := hcw.blk
  have hf : Fr S3 [75] w3 (plo w3 g.cb (g.co + p * 2) (.int .i64 m) (.int .i64 n)) := ((Fr.refl S3 [75] w3).setCell hb (.inl (hs.sub _ h.cwS)) (by simp) _).setCell (hb.set _ _) (.inl (hs.sub _ h.cwS)) (by simp) _
  refine ⟨⟨(h.blk.fr hs.fr (by decide)).fr hf (by decide), (h.who.frT hs.fr (by decide)).frT hf (by decide), ?_, hs.sub _ h.cwS, (h.ft.fr hs.sub hs.fr (by decide)).fr (fun _ h => h) hf (by decide), ⟨hs.tr.fr (fun _ h => h) hf (by decide) (by decide), hi, (h.wi.tab.fr hs.sub hs.fr (by decide) (by decide)).fr (fun _ h => h) hf (by decide) (by decide), h.wi.mi, h.wi.ml.kept hi hk (fun _ _ h _ => h) h.wi.m0, h.wi.m0, Nat.le_trans h.wi.ll hc, hc1⟩, fun q hq => ?_, fun p' k' hp' hk' => ?_⟩, ?_⟩
  · rw [cwcells_upd cw hp m n]
    exact (hcw.setc (by omega) _).setc (by omega) _
  · unfold updW
    split
    · exact hmn
    · exact h.cr q hq
  · have := h.ps p' k' hp' hk'
    omega
  · exact (hs.fr.mono (fun _ h => .inl h) TT_TD).trans (hf.mono (T' := TD) (fun _ h => .inl h) (by decide)) hs.sup
theorem isN_range {op : Int} (h : isN op = true) : (1 : Int) ≤ op ∧ op ≤ 20 := by
  unfold isN at h
  split at h
  · cases h
  · exact of_decide_eq_true h
theorem cw_at {w : World} {cb co cc : Nat} {cw : Nat → Int × Int} (h : Win w 0 75 2 (.slice (some ⟨cb, co, none⟩) 2 cc) 2 (cwcells cw)) {i : Nat} (hi : i < 2) : w.cell? ⟨cb, co + i * 2, none⟩ = some (.int .i64 (cw i).1) ∧ w.cell? ⟨cb, co + i * 2 + 1, none⟩ = some (.int .i64 (cw i).2) := by
  match i, hi with
  | 0, _ => exact ⟨h.cells 0 (by omega), h.cells 1 (by omega)⟩
  | 1, _ => exact ⟨h.cells 2 (by omega), h.cells 3 (by omega)⟩
set_option maxRecDepth 100000 in
set_option maxHeartbeats 16000000 in
theorem names15_any {S : Nat → Prop} {w : World} {g : MG} {c : Nat} {bs : List Nat} {T : List (Option Nd)} {tv : Value} {l : List Mt} {fl : Nat → Nat → Fl} {cw : Nat → Int × Int} (hm : MA S w g c bs T tv l fl cw) (p : Nat) (hp : p < 2) (q : Cl) (hpath : q.path.size ≤ 5000) (his : isN q.op = true) (hcc : c + 4 ≤ 99000) (hS : ∀ k, S k → k < w.heap.size) : Calls Tryz.prog 12 #[.pointer (some ⟨g.m, 0, none⟩), .int .i64 (p : Int), q.val] w (DoP S g (c + 4) q.op w) := by
  have HC := Lib.hid (And.intro hm (And.intro hp (And.intro hpath (And.intro his (And.intro hcc hS)))))
  have k0 : (0 : Int) ≤ (p : Int) := by omega
  have k1 : (p : Int) < (2 : Int) := by omega
  obtain ⟨o0, o1⟩ := isN_range his
  have C22 := Lib.hid (fun X => isop_any q.op X)
  rw [his] at C22
  have hcn := LivD.r64 hm.wi.ctx (hm.cwl hp).2.2
  have C24 : Hid (∀ X, MA S X g c bs T tv l fl cw → Calls Tryz.prog 24 #[.pointer (some ⟨g.m, 0, none⟩)] X (WorldP g X)) := Lib.hid fun X h => worldm_any h
  have C23 : Hid (∀ X, MA S X g c bs T tv l fl cw → ∀ ua un uc us, Ints X 0 (.slice ua un uc) us → Calls Tryz.prog 23 #[Wld g.t g.tb ua un uc, Who (cw p).1 (cw p).2 (crOf p), q.val] X (D13P S g.t (c + 3) g.tb (fun k => frefs fl k + crefs cw k) T q.op X)) := Lib.hid fun X h ua un uc us hu => do13_any h.wi ua un uc us hu (cw p).1 (cw p).2 hcn (crOf p) q hpath his
  clear hm hp hpath his hcc hS hcn
  unfold Who Cl.val at C23
  unfold Cl.val
  go_enter Tryz.func12, Tryz.ntmps12
  go_upto_region 1 with fail
  refine box2g (fun W hbx hnx => ?_)
  have H1B := Lib.hid hbx
  have H1 := Lib.hid hnx
  clear hbx hnx
  generalize hE : w.heap.size + 1 = E at H1 ⊢
  obtain ⟨C, hC⟩ : ∃ C, w.heap.size = C := ⟨_, rfl⟩
  rw [hC] at H1 ⊢
  have H1E : Hid (w.heap.size = C ∧ w.heap.size + 1 = E) := Lib.hid (by omega)
  clear hC hE
  have HM := Lib.hid (HC.out.1.below H1B.out)
  have HEF : Hid (Blk W E 40 rz ∧ w.heap.size ≤ E) := Lib.hid ⟨H1.out.2, by have := H1E.out; omega⟩
  have HCB : Hid (g.cb < W.heap.size) := Lib.hid (HM.out.cwd.lt g.cb rfl).2
  have HQ : Hid (∀ X, Fr S TM W X → X.cell? ⟨g.m, 3, none⟩ = some (.slice (some ⟨g.wb, g.wo, none⟩) 2 g.wc) ∧ X.cell? ⟨g.m, 4, none⟩ = some (.pointer (some ⟨g.t, 0, none⟩)) ∧ X.cell? ⟨g.m, 7, none⟩ = some (.slice (some ⟨g.cb, g.co, none⟩) 2 g.cc) ∧ X.cell? ⟨g.wb, g.wo + p * 2, none⟩ = some (.int .i64 (crOf p).u) ∧ X.cell? ⟨g.wb, g.wo + p * 2 + 1, none⟩ = some (.int .i64 (crOf p).g) ∧ X.cell? ⟨g.cb, g.co + p * 2, none⟩ = some (.int .i64 (cw p).1) ∧ X.cell? ⟨g.cb, g.co + p * 2 + 1, none⟩ = some (.int .i64 (cw p).2) ∧ X.cell? ⟨C, 0, none⟩ = some (.int .i64 q.op) ∧ X.cell? ⟨C, 1, none⟩ = some (.string q.path) ∧ X.cell? ⟨C, 2, none⟩ = some (.string q.dest) ∧ X.cell? ⟨C, 3, none⟩ = some (.int .i64 q.fd) ∧ X.cell? ⟨C, 4, none⟩ = some (.int .i64 q.flags) ∧ X.cell? ⟨C, 5, none⟩ = some (.int .i64 q.mode) ∧ X.cell? ⟨C, 6, none⟩ = some (.int .i64 q.n) ∧ X.cell? ⟨C, 7, none⟩ = some (.int .i64 q.m) ∧ X.cell? ⟨C, 8, none⟩ = some (.slice q.da q.dl q.dc)) := Lib.hid fun X hX => ⟨(HM.out.blk.fr hX (by decide)).cell 3, (HM.out.blk.fr hX (by decide)).cell 4, (HM.out.blk.fr hX (by decide)).cell 7, (who_at (HM.out.who.frT hX (by decide)) HC.out.2.1).1, (who_at (HM.out.who.frT hX (by decide)) HC.out.2.1).2, (cw_at (HM.out.cwd.frT hX (by decide)) HC.out.2.1).1, (cw_at (HM.out.cwd.frT hX (by decide)) HC.out.2.1).2, (H1.out.1.fr hX (by decide)).cell 0, (H1.out.1.fr hX (by decide)).cell 1, (H1.out.1.fr hX (by decide)).cell 2, (H1.out.1.fr hX (by decide)).cell 3, (H1.out.1.fr hX (by decide)).cell 4, (H1.out.1.fr hX (by decide)).cell 5, (H1.out.1.fr hX (by decide)).cell 6, (H1.out.1.fr hX (by decide)).cell 7, (H1.out.1.fr hX (by decide)).cell 8⟩
  obtain ⟨q0, q1, q2, q3, q4, q5, q6, q7, q8, q9, q10, q11, q12, q13, q14, q15⟩ := HQ.out _ (Fr.refl _ _ _)
  go_upto_region 4 with (first | (go_at_call 22; (with_reducible refine (C22.out _).mono ?_); rintro e wn ⟨rfl, hw⟩; subst hw))
  have HF : Hid (Fr S TM W W.drew) := Lib.hid (Fr.of_below (Below.refl _ _).drew)
  have HA : Hid (MA S W.drew g c bs T tv l fl cw) := Lib.hid (HM.out.below (Below.refl _ _).drew)
  go_cut [7, 8] (fun v7 v8 wx => ∃ (D7 D8 : Nat) (r : Res) (y z : Value) (m n : Int) (S' : Nat → Prop) (bs' : List Nat) (T' : List (Option Nd)) (tv' : Value) (l' : List Mt), v7 = .pointer (some ⟨D7, 0, none⟩) ∧ v8 = .pointer (some ⟨D8, 0, none⟩) ∧ Hid (Blk wx D7 40 (r.cells y z).toArray ∧ W.heap.size ≤ D7) ∧ Hid (Blk wx D8 75 #[.int .i64 m, .int .i64 n] ∧ W.heap.size ≤ D8) ∧ Hid (Z4 S S' W wx g (c + 3) bs' T' tv' l' fl cw r y z) ∧ Hid (fldI q.op r = true ∧ (q.op = 17 → r.w = 0 → PlaceOk T' m n)))
  case first =>
    refine hand_start (S := fun X => X.cell? ⟨g.m, 3, none⟩ = some (.slice (some ⟨g.wb, g.wo, none⟩) 2 g.wc) ∧ X.cell? ⟨g.m, 4, none⟩ = some (.pointer (some ⟨g.t, 0, none⟩)) ∧ X.cell? ⟨g.m, 7, none⟩ = some (.slice (some ⟨g.cb, g.co, none⟩) 2 g.cc) ∧ X.cell? ⟨g.wb, g.wo + p * 2, none⟩ = some (.int .i64 (crOf p).u) ∧ X.cell? ⟨g.wb, g.wo + p * 2 + 1, none⟩ = some (.int .i64 (crOf p).g) ∧ X.cell? ⟨g.cb, g.co + p * 2, none⟩ = some (.int .i64 (cw p).1) ∧ X.cell? ⟨g.cb, g.co + p * 2 + 1, none⟩ = some (.int .i64 (cw p).2) ∧ X.cell? ⟨C, 0, none⟩ = some (.int .i64 q.op) ∧ X.cell? ⟨C, 1, none⟩ = some (.string q.path) ∧ X.cell? ⟨C, 2, none⟩ = some (.string q.dest) ∧ X.cell? ⟨C, 3, none⟩ = some (.int .i64 q.fd) ∧ X.cell? ⟨C, 4, none⟩ = some (.int .i64 q.flags) ∧ X.cell? ⟨C, 5, none⟩ = some (.int .i64 q.mode) ∧ X.cell? ⟨C, 6, none⟩ = some (.int .i64 q.n) ∧ X.cell? ⟨C, 7, none⟩ = some (.int .i64 q.m) ∧ X.cell? ⟨C, 8, none⟩ = some (.slice q.da q.dl q.dc)) 26 (by kernel_rfl) (by rfl) (HQ.out _ HF.out) (fun hHeld => ?_)
    generalize W.drew = wx at HF HA hHeld ⊢
    (refine seq_on 25 (v := ?_) rfl (by kernel_rfl) (by kernel_rfl) (by kernel_rfl) (by rfl) (by assumption) (fun _ _ _ h => h) ?_ ?_; rotate_left; (focus (intro w hSw; (try dsimp only at hSw); go_simp; try with_reducible rfl)); (try simp only [Act.put, List.setIfInBounds_toArray, List.set_cons_zero, List.set_cons_succ]))
    iterate 16 (refine seq_on 26 (v := ?_) rfl (by kernel_rfl) (by kernel_rfl) (by kernel_rfl) (by rfl) (by assumption) (fun _ _ _ h => h) ?_ ?_; rotate_left; (focus (intro w hSw; (try dsimp only at hSw); go_simp; try with_reducible rfl)); (try simp only [Act.put, List.setIfInBounds_toArray, List.set_cons_zero, List.set_cons_succ]))
    refine wpAnyH_ready (rs := [1, 22, 23]) (by kernel_rfl) (by simp) ?_
    repeat' (first
      | (refine take_on 19 (v := ?_) rfl (by kernel_rfl) (by decide +kernel) (by decide +kernel) (by rfl) (by assumption) (fun _ _ _ h => h) ?_ ?_; rotate_left; (focus (intro w hSw; (try dsimp only at hSw); go_simp; try with_reducible rfl)); (try simp only [Act.put, List.setIfInBounds_toArray, List.set_cons_zero, List.set_cons_succ]))
      | (refine take_on 20 (v := ?_) rfl (by kernel_rfl) (by decide +kernel) (by decide +kernel) (by rfl) (by assumption) (fun _ _ _ h => h) ?_ ?_; rotate_left; (focus (intro w hSw; (try dsimp only at hSw); go_simp; try with_reducible rfl)); (try simp only [Act.put, List.setIfInBounds_toArray, List.set_cons_zero, List.set_cons_succ]))
      | (refine take_on 21 (v := ?_) rfl (by kernel_rfl) (by decide +kernel) (by decide +kernel) (by rfl) (by assumption) (fun _ _ _ h => h) ?_ ?_; rotate_left; (focus (intro w hSw; (try dsimp only at hSw); go_simp; try with_reducible rfl)); (try simp only [Act.put, List.setIfInBounds_toArray, List.set_cons_zero, List.set_cons_succ]))
      | (refine wpAnyH_ready (rs := [1, 22, 23]) (by decide +kernel) (by simp) ?_)
      | (refine wpAnyH_ready (rs := [1, 23]) (by decide +kernel) (by simp) ?_)
      | (refine wpAnyH_ready (rs := [1, 22]) (by decide +kernel) (by simp) ?_)
      | (refine wpAnyH_ready (rs := [1]) (by decide +kernel) (by simp) ?_)
      | (refine wpAnyH_ready (rs := [18, 22, 23]) (by decide +kernel) (by simp) ?_)
      | (refine wpAnyH_ready (rs := [18, 23]) (by decide +kernel) (by simp) ?_)
      | (refine wpAnyH_ready (rs := [18, 22]) (by decide +kernel) (by simp) ?_)
      | (refine wpAnyH_ready (rs := [18]) (by decide +kernel) (by simp) ?_)
      | (refine wpAnyH_ready (rs := [22, 23]) (by decide +kernel) (by simp) ?_)
      | (refine wpAnyH_ready (rs := [23, 24]) (by decide +kernel) (by simp) ?_)
      | (refine wpAnyH_ready (rs := [23]) (by decide +kernel) (by simp) ?_)
      | (refine wpAnyH_ready (rs := [22, 25]) (by decide +kernel) (by simp) ?_)
      | (refine wpAnyH_ready (rs := [22]) (by decide +kernel) (by simp) ?_)
      | (refine wpAnyH_ready (rs := [24, 25]) (by decide +kernel) (by simp) ?_)
      | (refine wpAnyH_ready (rs := [24]) (by decide +kernel) (by simp) ?_)
      | (refine wpAnyH_ready (rs := [25]) (by decide +kernel) (by simp) ?_)
      | (exact AllReadyH.nil)
      | (refine step_on 1 rfl (by rfl) (fun K hK => ?_) ?_; (focus (go_simp; go_at_call 24; (with_reducible refine (C24.out _ HA.out).mono ?_); rintro e wn ⟨ua, un, uc, us, rfl, hus, hb⟩; replace HF := Lib.hid (HF.out.trans (Fr.of_below (S := S) hb) (fun _ h => .inl h)); have HI := Lib.hid (show Ints _ 0 (.slice ua un uc) us from ⟨hus.1.of_base (Nat.zero_le _), hus.2⟩); (try replace H7 := Lib.hid (And.intro (H7.out.1.below hb) H7.out.2)); (try replace H8 := Lib.hid (And.intro (H8.out.1.below hb) H8.out.2)); replace HA := Lib.hid (HA.out.below hb); clear hus hb; rename World => wx; refine hK.out _ _ (by first | (with_reducible exact HQ.out _ HF.out) | exact HQ.out _ HF.out) (fun hHeld => ?_); clear hK K; (try simp only [List.setIfInBounds_toArray]))))
      | (refine step_on 18 rfl (by rfl) (fun K hK => ?_) ?_; (focus (go_simp; go_at_call 23; (with_reducible refine (C23.out _ HA.out _ _ _ _ HI.out).mono ?_); rintro e wn ⟨r, y, z, m, n, S', bs', T', tv', l', rfl, hs, hi, hk, h1, h2, h3, h4, hr, hfl, hpl⟩; obtain ⟨yp, yn, yc, zp, zn, zc, rfl, rfl⟩ := hr.form; have HZ := Lib.hid (Z4.of HA.out HF.out hs hi h1 h2 h3 h4 (by have := HC.out.2.2.2.2.1; omega) (Nat.le_add_right c 3) hr); have HFL := Lib.hid (And.intro hfl hpl); replace HF := Lib.hid HZ.out.fr; (try have HO7 := Lib.hid (hr.off H7.out.1.lt)); (try have HO8 := Lib.hid (hr.off H8.out.1.lt)); (try replace H7 := Lib.hid (And.intro (H7.out.1.fr hs.fr (by decide)) H7.out.2)); (try replace H8 := Lib.hid (And.intro (H8.out.1.fr hs.fr (by decide)) H8.out.2)); unfold Res.cells; clear hs hi hk h1 h2 h3 h4 hr hfl hpl HA HI; rename World => wx; refine hK.out _ _ (by first | (with_reducible exact HQ.out _ HF.out) | exact HQ.out _ HF.out) (fun hHeld => ?_); clear hK K; (try simp only [List.setIfInBounds_toArray]))))
      | (refine step_on 22 rfl (by rfl) (fun K hK => ?_) ?_; (focus (go_simp; obtain ⟨wy, hwy⟩ : ∃ Y, wx.alloc (.cells #[.int .i64 0, .int .i64 0, .slice none 0 0, .slice none 0 0, .int .i64 0, .int .i64 0, .int .i64 0, .int .i64 0, .int .i64 0, .int .i64 0, .int .i64 0] 40) = Y := ⟨_, rfl⟩; rw [hwy]; have hb : Below wx.heap.size wx wy := (by rw [← hwy]; exact (Below.refl _ _).alloc (Nat.le_refl _) _); have hn : Blk wy wx.heap.size 40 #[.int .i64 0, .int .i64 0, .slice none 0 0, .slice none 0 0, .int .i64 0, .int .i64 0, .int .i64 0, .int .i64 0, .int .i64 0, .int .i64 0, .int .i64 0] := (by rw [← hwy]; exact Blk.new _ _ _); have hs := HF.out.size; have H7 := Lib.hid (And.intro hn hs); (try have HO7 := Lib.hid (HZ.out.mem.offN (Nat.le_refl _))); (try replace H8 := Lib.hid (And.intro (H8.out.1.below hb) H8.out.2)); replace HF := Lib.hid (HF.out.trans (Fr.of_below (S := S) hb) (fun _ h => .inl h)); (try replace HA := Lib.hid (HA.out.below hb)); (try replace HI := Lib.hid (HI.out.below hb)); (try replace HZ := Lib.hid (HZ.out.below hb)); clear hb hn hs hwy; obtain ⟨D7, hD⟩ : ∃ D, wx.heap.size = D := ⟨_, rfl⟩; rw [hD] at H7 ⊢; (try rw [hD] at HO7); clear hD; rename World => wx; refine hK.out _ _ (by first | (with_reducible exact HQ.out _ HF.out) | exact HQ.out _ HF.out) (fun hHeld => ?_); clear hK K; (try simp only [List.setIfInBounds_toArray]))))
      | (refine step_on 23 rfl (by rfl) (fun K hK => ?_) ?_; (focus (go_simp; obtain ⟨wy, hwy⟩ : ∃ Y, wx.alloc (.cells #[.int .i64 0, .int .i64 0] 75) = Y := ⟨_, rfl⟩; rw [hwy]; have hb : Below wx.heap.size wx wy := (by rw [← hwy]; exact (Below.refl _ _).alloc (Nat.le_refl _) _); have hn : Blk wy wx.heap.size 75 #[.int .i64 0, .int .i64 0] := (by rw [← hwy]; exact Blk.new _ _ _); have hs := HF.out.size; have H8 := Lib.hid (And.intro hn hs); (try have HO8 := Lib.hid (HZ.out.mem.offN (Nat.le_refl _))); (try replace H7 := Lib.hid (And.intro (H7.out.1.below hb) H7.out.2)); replace HF := Lib.hid (HF.out.trans (Fr.of_below (S := S) hb) (fun _ h => .inl h)); (try replace HA := Lib.hid (HA.out.below hb)); (try replace HI := Lib.hid (HI.out.below hb)); (try replace HZ := Lib.hid (HZ.out.below hb)); clear hb hn hs hwy; obtain ⟨D8, hD⟩ : ∃ D, wx.heap.size = D := ⟨_, rfl⟩; rw [hD] at H8 ⊢; (try rw [hD] at HO8); clear hD; rename World => wx; refine hK.out _ _ (by first | (with_reducible exact HQ.out _ HF.out) | exact HQ.out _ HF.out) (fun hHeld => ?_); clear hK K; (try simp only [List.setIfInBounds_toArray]))))
      | (refine step_on 24 rfl (by rfl) (fun K hK => ?_) ?_; (focus (obtain ⟨z0, z1, z2, z3, z4, z5, z6, z7, z8, z9, z10, z11⟩ := rz_cells H7.out.1; go_simp; clear z0 z1 z2 z3 z4 z5 z6 z7 z8 z9 z10 z11; obtain ⟨wy, hwy⟩ : ∃ Y, res11 wx D7 (.int .i64 r.w) (.int .i64 r.n) (.slice yp yn yc) (.slice zp zn zc) (.int .i64 r.s0) (.int .i64 r.s1) (.int .i64 r.s2) (.int .i64 r.s3) (.int .i64 r.s4) (.int .i64 r.s5) (.int .i64 r.s6) = Y := ⟨_, rfl⟩; have hw2 := hwy; unfold res11 at hw2; rw [hw2]; clear hw2; have h7 := H7.out.1.res (.int .i64 r.w) (.int .i64 r.n) (.slice yp yn yc) (.slice zp zn zc) (.int .i64 r.s0) (.int .i64 r.s1) (.int .i64 r.s2) (.int .i64 r.s3) (.int .i64 r.s4) (.int .i64 r.s5) (.int .i64 r.s6); rw [hwy] at h7; (try (have h8 := H8.out.1.resO (H7.out.1.ne H8.out.1 (by decide)) (.int .i64 r.w) (.int .i64 r.n) (.slice yp yn yc) (.slice zp zn zc) (.int .i64 r.s0) (.int .i64 r.s1) (.int .i64 r.s2) (.int .i64 r.s3) (.int .i64 r.s4) (.int .i64 r.s5) (.int .i64 r.s6); rw [hwy] at h8; replace H8 := Lib.hid (And.intro h8 H8.out.2); clear h8)); have hf := fr_resW HF.out H7.out.2 (.int .i64 r.w) (.int .i64 r.n) (.slice yp yn yc) (.slice zp zn zc) (.int .i64 r.s0) (.int .i64 r.s1) (.int .i64 r.s2) (.int .i64 r.s3) (.int .i64 r.s4) (.int .i64 r.s5) (.int .i64 r.s6); have hz := HZ.out.res H7.out.1 H7.out.2 HO7.out (.int .i64 r.w) (.int .i64 r.n) (.slice yp yn yc) (.slice zp zn zc) (.int .i64 r.s0) (.int .i64 r.s1) (.int .i64 r.s2) (.int .i64 r.s3) (.int .i64 r.s4) (.int .i64 r.s5) (.int .i64 r.s6); rw [hwy] at hf hz; replace HF := Lib.hid hf; replace HZ := Lib.hid hz; replace H7 := Lib.hid (And.intro h7 H7.out.2); clear hf hz h7 hwy; rename World => wx; refine hK.out _ _ (by first | (with_reducible exact HQ.out _ HF.out) | exact HQ.out _ HF.out) (fun hHeld => ?_); clear hK K; (try simp only [List.setIfInBounds_toArray]))))
      | (refine step_on 25 rfl (by rfl) (fun K hK => ?_) ?_; (focus (obtain ⟨z0, z1, z2⟩ := cells2 H8.out.1; go_simp; clear z0 z1 z2; obtain ⟨wy, hwy⟩ : ∃ Y, pl2 wx D8 (.int .i64 m) (.int .i64 n) = Y := ⟨_, rfl⟩; have hw2 := hwy; unfold pl2 at hw2; rw [hw2]; clear hw2; have h8 := H8.out.1.pl75 (.int .i64 m) (.int .i64 n); rw [hwy] at h8; (try (have h7 := H7.out.1.plO (H8.out.1.ne H7.out.1 (by decide)) (.int .i64 m) (.int .i64 n); rw [hwy] at h7; replace H7 := Lib.hid (And.intro h7 H7.out.2); clear h7)); have hz := HZ.out.pl H8.out.1 H8.out.2 (by have h1 := HCB.out; have h2 := H8.out.2; omega) HO8.out (.int .i64 m) (.int .i64 n); rw [hwy] at hz; replace HF := Lib.hid hz.fr; replace HZ := Lib.hid hz; replace H8 := Lib.hid (And.intro h8 H8.out.2); clear hz h8 hwy; rename World => wx; refine hK.out _ _ (by first | (with_reducible exact HQ.out _ HF.out) | exact HQ.out _ HF.out) (fun hHeld => ?_); clear hK K; (try simp only [List.setIfInBounds_toArray]))))
      | (refine wpAnyH_done (by kernel_rfl) ?_ _; go_wp2_with fail; go_meet; exact ⟨D7, D8, r, _, _, m, n, S', bs', T', tv', l', rfl, rfl, H7, H8, HZ, HFL⟩)
      )
  case rest =>
  obtain ⟨D7, D8, r, y, z, m, n, S', bs', T', tv', l', rfl, rfl, H7, H8, HZ, HFL⟩ := hcut
  obtain ⟨yp, yn, yc, zp, zn, zc, rfl, rfl⟩ := HZ.out.mem.form
  clear HF HA q0 q1 q2 q3 q4 q5 q6 q7 q8 q9 q10 q11 q12 q13 q14 q15 C22 C23 C24
  obtain ⟨q0, q1, q2, q3, q4, q5, q6, q7, q8, q9, q10, q11, q12, q13, q14, q15⟩ := HQ.out _ HZ.out.fr
  have HE := Lib.hid (HEF.out.1.fr HZ.out.fr (by decide))
  obtain ⟨e0, e1, e2, e3, e4, e5, e6, e7, e8, e9, e10, e11⟩ := rz_cells HE.out
  obtain ⟨d0, d1, d2, d3, d4, d5, d6, d7, d8, d9, d10⟩ := res_cells H7.out.1
  have HX : Hid (∀ tm : Array Value, tm.getD 6 undef = .pointer (some ⟨E, 0, none⟩) → bodyPost Tryz.prog Tryz.f12 (DoP S g (c + 4) q.op w) .ret ⟨tm, []⟩ (res11 wc E (.int .i64 r.w) (.int .i64 r.n) (.slice yp yn yc) (.slice zp zn zc) (.int .i64 r.s0) (.int .i64 r.s1) (.int .i64 r.s2) (.int .i64 r.s3) (.int .i64 r.s4) (.int .i64 r.s5) (.int .i64 r.s6))) := Lib.hid fun tm h4 => do_fin r (.slice yp yn yc) (.slice zp zn zc) rfl ((HZ.out.ms H1B.out).mono (Nat.le_succ _) HC.out.2.2.2.2.1) HE.out HEF.out.2 (DMem.of (HZ.out.mem.low H1B.out.size) HC.out.2.2.2.2.2) (HZ.out.mem.off HEF.out.1.lt) HFL.out.1 h4
  unfold res11 at HX
  obtain ⟨b17, h17⟩ : ∃ b17, (q.op == 17) = b17 := ⟨_, rfl⟩
  obtain ⟨b0, h0⟩ : ∃ b0, (r.w == 0) = b0 := ⟨_, rfl⟩
  cases b17
  case false =>
    go_wp2_with fail
    with_reducible exact HX.out _ rfl
  cases b0
  case false =>
    go_wp2_with fail
    with_reducible exact HX.out _ rfl
  have HOP : Hid (q.op = 17 ∧ r.w = 0) := Lib.hid ⟨by simpa using h17, by simpa using h0⟩
  have HPl := Lib.hid (HFL.out.2 HOP.out.1 HOP.out.2)
  clear HX HE e0 e1 e2 e3 e4 e5 e6 e7 e8 e9 e10 e11
  have C20 := hold_ctx (HZ.out.at_.wi.tr.below (Below.refl _ _).drew) HZ.out.at_.wi.inv (by have := HC.out.2.2.2.2.1; omega) HPl.out.2.2
  obtain ⟨p0, p1, pf⟩ := cells2 H8.out.1
  go_upto_region 6 with fail
  go_still_tail 6, (by kernel_rfl)
  change wpList _ _ _ _ _ (World.drew _)
  go_upto_region 7 with (first | (go_at_call 20; (with_reducible refine C20.mono ?_); rintro e w2 ⟨code, T2, rfl, hs2, hi2, hk2, _, _⟩))
  have HS2 := Lib.hid (TStep.below (Below.refl _ _).drew hs2)
  have HI2 := Lib.hid (And.intro hi2 hk2)
  have HC2 : Hid (TInv T2 (fun k => (mrefs l' k + (frefs fl k + crefs (updW cw p m n) k)) + if (cw p).2 = (k : Int) then 1 else 0) none) := Lib.hid (hi2.congr fun k => by have := crefs_upd cw HC.out.2.1 m n k; omega)
  clear hs2 hi2 hk2 C20 q0 q1 q2 q3 q4 q5 q6 q7 q8 q9 q10 q11 q12 q13 q14 q15 d0 d1 d2 d3 d4 d5 d6 d7 d8 d9 d10 p0 p1 pf
  have HF2 := Lib.hid (HZ.out.fr.trans (HS2.out.fr.mono (T' := TM) (fun _ h => .inl h) (by decide)) (fun k hk => HZ.out.sup k hk))
  obtain ⟨q0, q1, q2, q3, q4, q5, q6, q7, q8, q9, q10, q11, q12, q13, q14, q15⟩ := HQ.out _ HF2.out
  have C25 := loose_ctx (HS2.out.tr.below (Below.refl _ _).drew) HC2.out (HC.out.1.cr p HC.out.2.1).2.2 (by have := HC.out.2.2.2.2.1; omega)
  go_still_tail 12, (by kernel_rfl)
  change wpList _ _ _ _ _ (World.drew _)
  go_upto_region 8 with (first | (go_at_call 25; (with_reducible refine C25.mono ?_); rintro e w3 ⟨code3, S3, T3, rfl, hs3, hi3, hk3⟩))
  have HS3 := Lib.hid (HS2.out.trans (TStep.below (Below.refl _ _).drew hs3))
  have HI3 := Lib.hid (And.intro hi3 (HI2.out.2.trans hk3))
  clear hs3 hi3 hk3 C25 q0 q1 q2 q3 q4 q5 q6 q7 q8 q9 q10 q11 q12 q13 q14 q15 HF2
  have HS4 := Lib.hid (HS3.out.trans (TStep.same HS3.out.tr (Below.refl _ _).drew))
  have HF4 := Lib.hid (HZ.out.fr.trans (HS4.out.fr.mono (T' := TM) (fun _ h => .inl h) (by decide)) (fun k hk => HZ.out.sup k hk))
  have HM4 := Lib.hid (HZ.out.at_.chdir HS4.out HI3.out.1 HI3.out.2 HC.out.2.1 ⟨HPl.out.1, HPl.out.2.1, by obtain ⟨i, x, hx, _⟩ := HPl.out.2.2; omega⟩ (Nat.le_succ _) HC.out.2.2.2.2.1)
  obtain ⟨q0, q1, q2, q3, q4, q5, q6, q7, q8, q9, q10, q11, q12, q13, q14, q15⟩ := HQ.out _ HF4.out
  have cf : ∀ j, w3.drew.frozen? ⟨g.cb, j, none⟩ = false := fun j => (HM.out.cwd.frT HF4.out (by decide)).free j
  obtain ⟨p0, p1, pf⟩ := cells2 (H8.out.1.fr HS4.out.fr (by decide))
  go_still_tail 7, (by kernel_rfl)
  change wpList _ _ _ _ _ (World.drew _)
  clear q0 q1 q2 q3 q4 q5 q6 q7 q8 q9 q10 q11 q12 q13 q14 q15 cf p0 p1 pf
  generalize w3.drew = wq at HS4 HF4 HM4 ⊢
  obtain ⟨q0, q1, q2, q3, q4, q5, q6, q7, q8, q9, q10, q11, q12, q13, q14, q15⟩ := HQ.out _ HF4.out
  have cf : ∀ j, wq.frozen? ⟨g.cb, j, none⟩ = false := fun j => (HM.out.cwd.frT HF4.out (by decide)).free j
  obtain ⟨p0, p1, pf⟩ := cells2 (H8.out.1.fr HS4.out.fr (by decide))
  go_upto_region 9 with fail
  clear q0 q1 q2 q3 q4 q5 q6 q7 q8 q9 q10 q11 q12 q13 q14 q15 cf p0 p1 pf
  generalize hw4 : plo wq g.cb (g.co + p * 2) (.int .i64 m) (.int .i64 n) = w4 at HM4
  unfold plo at hw4
  rw [hw4]
  clear hw4
  have HFZ := HM4.out.2
  have HFW : Hid (Fr S TD W _) := Lib.hid ((HZ.out.fr.mono (fun _ h => .inl h) (by decide)).trans HFZ (fun k hk => HZ.out.sup k hk))
  obtain ⟨d0, d1, d2, d3, d4, d5, d6, d7, d8, d9, d10⟩ := res_cells (H7.out.1.fr HFZ (by decide))
  have HE5 := Lib.hid (HEF.out.1.fr HFW.out (by decide))
  obtain ⟨e0, e1, e2, e3, e4, e5, e6, e7, e8, e9, e10, e11⟩ := rz_cells HE5.out
  obtain ⟨hds, hss⟩ := fld17 (HOP.out.1 ▸ HFL.out.1) HOP.out.2
  have HDM := Lib.hid (DMem.empty HZ.out.mem hds hss)
  have HX : Hid (∀ tm : Array Value, tm.getD 6 undef = .pointer (some ⟨E, 0, none⟩) → bodyPost Tryz.prog Tryz.f12 (DoP S g (c + 4) q.op w) .ret ⟨tm, []⟩ (res11 _ E (.int .i64 r.w) (.int .i64 r.n) (.slice yp yn yc) (.slice zp zn zc) (.int .i64 r.s0) (.int .i64 r.s1) (.int .i64 r.s2) (.int .i64 r.s3) (.int .i64 r.s4) (.int .i64 r.s5) (.int .i64 r.s6))) := Lib.hid fun tm h4 => do_fin r (.slice yp yn yc) (.slice zp zn zc) rfl (MS.below H1B.out ⟨fun k hk => HS4.out.sub k (HZ.out.sub k hk), fun k hk => (HS4.out.sup k hk).elim (fun h => HZ.out.sup k h) (fun h => .inr (Nat.le_trans HZ.out.fr.size h)), HFW.out, _, _, _, _, _, _, HM4.out.1⟩) HE5.out HEF.out.2 (HDM.out.1 _ _ _) (HDM.out.2 _) HFL.out.1 h4
  unfold res11 at HX
  clear hds hss HFZ
  go_wp2_with fail
  with_reducible exact HX.out _ rfl
end Go.Proofs.YtfjghemojnhmbaaGreat
