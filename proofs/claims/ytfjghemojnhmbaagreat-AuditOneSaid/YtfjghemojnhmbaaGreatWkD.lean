/- Walks: the next part. -/
import Derived.Test.YtfjghemojnhmbaaGreatWkC
namespace Go.Proofs.YtfjghemojnhmbaaGreat
open Go.RowKit

/-- A Stat laid into cells. -/
def setv (w : World) (Z : Nat) (s : Stt) : World := ((((((w.setCell ⟨Z, 0, none⟩ (.int .i64 s.node)).setCell ⟨Z, 1, none⟩ (.int .i64 s.kind)).setCell ⟨Z, 2, none⟩ (.int .i64 s.mode)).setCell ⟨Z, 3, none⟩ (.int .i64 s.uid)).setCell ⟨Z, 4, none⟩ (.int .i64 s.gid)).setCell ⟨Z, 5, none⟩ (.int .i64 s.links)).setCell ⟨Z, 6, none⟩ (.int .i64 s.size)
theorem setv_below {B : Nat} {w0 w : World} {Z : Nat} (h : Below B w0 w) (hz : B ≤ Z) (s : Stt) : Below B w0 (setv w Z s) :=
  ((((((h.setCell hz _).setCell hz _).setCell hz _).setCell hz _).setCell hz _).setCell hz _).setCell hz _
theorem setv_blk {w : World} {Z : Nat} {a0 a1 a2 a3 a4 a5 a6 : Value} (h : Blk w Z 38 #[a0, a1, a2, a3, a4, a5, a6]) (s : Stt) : Blk (setv w Z s) Z 38 s.cells.toArray := by
  have := ((((((h.set 0 (.int .i64 s.node)).set 1 (.int .i64 s.kind)).set 2 (.int .i64 s.mode)).set 3 (.int .i64 s.uid)).set 4 (.int .i64 s.gid)).set 5 (.int .i64 s.links)).set 6 (.int .i64 s.size)
  simpa [setv, Stt.cells] using this
theorem setv_other {w : World} {Z k : Nat} {e : TypeId} {cs : Array Value} (h : Blk w k e cs) (hk : Z ≠ k) (s : Stt) : Blk (setv w Z s) k e cs :=
  ((((((h.other (a := ⟨Z, 0, none⟩) hk _).other (a := ⟨Z, 1, none⟩) hk _).other (a := ⟨Z, 2, none⟩) hk _).other (a := ⟨Z, 3, none⟩) hk _).other (a := ⟨Z, 4, none⟩) hk _).other (a := ⟨Z, 5, none⟩) hk _).other (a := ⟨Z, 6, none⟩) hk _
theorem setv_hold {w : World} {Z k : Nat} {cs : Array Value} (h : Holds w k cs) (hk : Z ≠ k) (s : Stt) : Holds (setv w Z s) k cs :=
  ((((((h.other (a := ⟨Z, 0, none⟩) hk _).other (a := ⟨Z, 1, none⟩) hk _).other (a := ⟨Z, 2, none⟩) hk _).other (a := ⟨Z, 3, none⟩) hk _).other (a := ⟨Z, 4, none⟩) hk _).other (a := ⟨Z, 5, none⟩) hk _).other (a := ⟨Z, 6, none⟩) hk _
/-- Rows of strings stay where a Stat is laid. -/
theorem Parts.setv {w : World} {B Z : Nat} {v : Value} {ps : List ByteArray} {cs : Array Value} (h : Parts w B v ps) (hk : Blk w Z 38 cs) (s : Stt) : Parts (setv w Z s) B v ps := by
  refine ⟨?_, h.2⟩
  obtain ⟨h1, q | ⟨f, o, cap, cur, h3, h4, h5, h6⟩⟩ := h.1
  · exact ⟨h1, .inl q⟩
  · exact ⟨h1, .inr ⟨f, o, cap, cur, h3, h4, setv_other h5 (hk.ne h5 (by decide)) s, h6⟩⟩
theorem seven_cells {w : World} {Z : Nat} {a0 a1 a2 a3 a4 a5 a6 : Value} (h : Holds w Z #[a0, a1, a2, a3, a4, a5, a6]) : w.cell? ⟨Z, 0, none⟩ = some a0 ∧ w.cell? ⟨Z, 1, none⟩ = some a1 ∧ w.cell? ⟨Z, 2, none⟩ = some a2 ∧ w.cell? ⟨Z, 3, none⟩ = some a3 ∧ w.cell? ⟨Z, 4, none⟩ = some a4 ∧ w.cell? ⟨Z, 5, none⟩ = some a5 ∧ w.cell? ⟨Z, 6, none⟩ = some a6 ∧ ∀ j, w.frozen? ⟨Z, j, none⟩ = false :=
  ⟨h.cell 0, h.cell 1, h.cell 2, h.cell 3, h.cell 4, h.cell 5, h.cell 6, h.free⟩
/-- What Stat tells a walk. -/
def StW (T : List (Option Nd)) (n : Int) (w : World) (e : Ending) (w' : World) : Prop := ∃ (s : Stt) (ok : Bool), e = .returned (.tuple #[s.val, .bool ok]) ∧ Below w.heap.size w w' ∧ (s.kind = 1 → LivD T n)
theorem stw_any {S : Nat → Prop} {w : World} {t c : Nat} {bs : List Nat} {T : List (Option Nd)} {tb : Nat} {tv : Value} {l : List Mt} (h : Ctx S w t c bs T tb tv l) (n : Int) (hn : R64 n) :
    Calls Tryz.prog 86 #[.pointer (some ⟨t, 0, none⟩), .int .i64 n] w (StW T n w) := by
  obtain ⟨M, p, v, ht⟩ := h.tr
  obtain ⟨R, hi⟩ := h.inv
  refine (stat_any ht (by have := h.cc; omega) hi.el n hn).mono ?_
  rintro e w' ⟨hb, ⟨_, rfl⟩ | ⟨i, x, lk, sz, rfl, hx, _, _, rfl⟩⟩
  · exact ⟨_, _, rfl, hb, fun h => by cases h⟩
  · exact ⟨_, _, rfl, hb, fun h => ⟨i, x, rfl, hx, by have : (x.kind : Int) = 1 := h; omega⟩⟩
/-- What Find tells a walk. -/
def FnW (T : List (Option Nd)) (w : World) (e : Ending) (w' : World) : Prop := ∃ (n : Int) (ok : Bool), e = .returned (.tuple #[.int .i64 n, .bool ok]) ∧ Below w.heap.size w w' ∧ (ok = true → Liv T n)
theorem fnw_any {S : Nat → Prop} {w : World} {t c : Nat} {bs : List Nat} {T : List (Option Nd)} {tb : Nat} {tv : Value} {l : List Mt} (h : Ctx S w t c bs T tb tv l) (n : Int) (hn : R64 n) (s : ByteArray) :
    Calls Tryz.prog 109 #[.pointer (some ⟨t, 0, none⟩), .int .i64 n, .string s] w (FnW T w) := by
  obtain ⟨M, p, v, ht⟩ := h.tr
  obtain ⟨R, hi⟩ := h.inv
  refine (fnd_any ht (by have := h.cc; omega) n hn s).mono ?_
  rintro e w' ⟨hb, ⟨_, rfl⟩ | ⟨x, i, f, hx, _, hf, rfl⟩⟩
  · exact ⟨_, _, rfl, hb.below, fun h => by cases h⟩
  · obtain ⟨j, rfl, hj⟩ := lv_some hx
    obtain ⟨i', y, e1, e2⟩ := hi.el j x f hj (List.mem_of_getElem? hf.at_)
    exact ⟨_, _, rfl, hb.below, fun _ => ⟨i', y, by omega, e2⟩⟩
theorem Parts.tail {w : World} {B f o cap : Nat} {q : ByteArray} {ps : List ByteArray} (h : Parts w B (.slice (some ⟨f, o, none⟩) (ps.length + 1) cap) (q :: ps)) : Parts w B (.slice (if cap = 1 then some ⟨f, o, none⟩ else some ⟨f, o + 1, none⟩) ps.length (cap - 1)) ps := by
  have hb := h.1.bound
  refine ⟨?_, fun p hp => h.2 p (List.mem_cons_of_mem _ hp)⟩
  have h1 : Win w B 9 1 (.slice (some ⟨f, o, none⟩) (ps.length + 1) cap) (ps.length + 1) (strs (q :: ps)) := h.1
  have hb1 := h1.bound
  by_cases hc : cap = 1
  · subst hc
    obtain rfl : ps = [] := List.eq_nil_of_length_eq_zero (by omega)
    simpa [strs] using h1.cutAll
  · rw [if_neg hc]
    have := h1.cut 1 (by omega)
    simpa [strs] using this
/-- The next part under way. -/
structure PI (w0 : World) (t tb k : Nat) (qs : List ByteArray) (x : Wk) (rv : Value) (ps : List ByteArray) (w : World) : Prop where
  m : WM w0 t tb k qs x w
  rp : Parts w 0 rv ps
theorem PI.set {w0 w : World} {t tb k : Nat} {qs ps : List ByteArray} {x : Wk} {rv : Value} (h : PI w0 t tb k qs x rv ps w) (i : Nat) (v : Value) (x' : Wk) (he : x'.cells t tb = (x.cells t tb).setIfInBounds i v) (hl : x'.lv = x.lv) : PI w0 t tb k qs x' rv ps (w.setCell ⟨k, i, none⟩ v) :=
  ⟨h.m.set i v x' he hl, h.rp.put h.m.blk i v⟩
theorem PI.below {w0 w w' : World} {t tb k : Nat} {qs ps : List ByteArray} {x : Wk} {rv : Value} (h : PI w0 t tb k qs x rv ps w) (hb : Below w.heap.size w w') : PI w0 t tb k qs x rv ps w' := ⟨h.m.below hb, h.rp.below hb⟩
/-- What part answers. -/
def WPartP (T : List (Option Nd)) (w0 : World) (t tb k : Nat) (ps : List ByteArray) (x : Wk) (e : Ending) (w' : World) : Prop := ∃ (code : Int) (over : Bool) (x' : Wk) (ps' : List ByteArray), e = .returned (.tuple #[.int .i64 code, .bool over]) ∧ WS T w0 t tb k ps' x' w' ∧ (code = 0 → over = false → 6000 * (41 - x'.fol) + ps'.length < 6000 * (41 - x.fol) + ps.length)
theorem WPartP.fin {T : List (Option Nd)} {w0 wr : World} {t tb k : Nat} {ps ps' : List ByteArray} {x x' : Wk} {fn : Func} {tmps : Array Value} {code : Int} {over : Bool} (hr : fn.results = #[.tmp 2, .tmp 3]) (h2 : tmps.getD 2 undef = .int .i64 code) (h3 : tmps.getD 3 undef = .bool over) (h : WS T w0 t tb k ps' x' wr)
    (h0 : code = 0 → over = false → 6000 * (41 - x'.fol) + ps'.length < 6000 * (41 - x.fol) + ps.length) : bodyPost Tryz.prog fn (WPartP T w0 t tb k ps x) .ret ⟨tmps, []⟩ wr := by
  refine bodyPost_ret (v := .tuple #[.int .i64 code, .bool over]) ?_ rfl ⟨code, over, x', ps', rfl, h, h0⟩
  unfold results
  rw [hr]
  have h2' : tmps[2]?.getD undef = .int .i64 code := by rw [← h2]; simp
  have h3' : tmps[3]?.getD undef = .bool over := by rw [← h3]; simp
  simp [asAddr, h2', h3', go_sem]
set_option maxRecDepth 100000 in
set_option maxHeartbeats 4000000 in
theorem wpart_any {S : Nat → Prop} {w0 w : World} {t c : Nat} {bs : List Nat} {T : List (Option Nd)} {tb : Nat} {tv : Value} {l : List Mt} {k : Nat} {q : ByteArray} {ps : List ByteArray} {x : Wk} (hc : Ctx S w0 t c bs T tb tv l) (h : WS T w0 t tb k (q :: ps) x w) :
    Calls Tryz.prog 85 #[.pointer (some ⟨k, 0, none⟩)] w (WPartP T w0 t tb k (q :: ps) x) := by
  have HC := Lib.hid hc
  have HF := Lib.hid h.f
  have HM := Lib.hid h.m
  obtain ⟨f, o, cap, hv⟩ := h.pt.1.form (by simp)
  have hpt := h.pt
  rw [hv] at hpt
  have hcap := hpt.1.bound
  have hc0 := hpt.1.cells 0 (by simp)
  simp only [strs, List.map_cons, List.getElem?_cons_zero, Nat.add_zero] at hc0
  have c8 : w.cell? ⟨k, 8, none⟩ = some (.slice (some ⟨f, o, none⟩) (ps.length + 1) cap) := by have := h.cs.c8; rw [hv] at this; exact this
  have fr := h.cs.fr
  simp only [List.length_cons] at hcap
  have c12 := h.cs.c12
  have HPT := Lib.hid (And.intro hpt hv)
  clear hc h hpt hv
  go_enter Tryz.func85, Tryz.ntmps85
  go_upto_region 3 with fail
  have HI : Hid (PI w0 t tb k (q :: ps) x (.slice (if cap = 1 then some ⟨f, o, none⟩ else some ⟨f, o + 1, none⟩) ps.length (cap - 1)) ps w) := Lib.hid ⟨HM.out, Parts.tail HPT.out.1⟩
  generalize (if cap = 1 then some (⟨f, o, none⟩ : Addr) else some ⟨f, o + 1, none⟩) = ra at HI ⊢
  generalize cap - 1 = rc at HI ⊢
  clear HPT HM hcap hc0 c8
  go_upto_region 4 with fail
  obtain ⟨st, hst⟩ : ∃ st, wrap64 (x.steps + 1) = st := ⟨_, rfl⟩
  rw [hst]
  have H2 : Hid (PI w0 t tb k (q :: ps) { x with steps := st } (.slice ra ps.length rc) ps (w.setCell ⟨k, 12, none⟩ (.int .i64 st))) := Lib.hid (HI.out.set 12 _ _ (by simp [Wk.cells]) rfl)
  have HF2 : Hid (WF T (q :: ps) { x with steps := st }) := Lib.hid ⟨HF.out.root, HF.out.nh, HF.out.at_, HF.out.dir, HF.out.last, HF.out.fol, HF.out.len⟩
  generalize w.setCell ⟨k, 12, none⟩ (.int .i64 st) = W at H2 ⊢
  clear c12 fr hst HI
  go_cut [6, 7] (fun v6 v7 wx => ∃ (Z : Nat) (s : Stt) (ok : Bool), v6 = .pointer (some ⟨Z, 0, none⟩) ∧ v7 = .bool ok ∧ Hid (PI w0 t tb k (q :: ps) { x with steps := st } (.slice ra ps.length rc) ps wx ∧ Blk wx Z 38 s.cells.toArray ∧ (s.kind = 1 → LivD T x.an) ∧ k < Z))
  case first =>
    have c0 : W.cell? ⟨k, 0, none⟩ = some (.pointer (some ⟨t, 0, none⟩)) := H2.out.m.cs.c0
    have c7 : W.cell? ⟨k, 7, none⟩ = some (.int .i64 x.an) := H2.out.m.cs.c7
    have hr64 : R64 x.an := HF.out.at_.r64 HC.out
    have z7 : Hid (Below W.heap.size W (W.alloc (.cells #[.int .i64 0, .int .i64 0, .int .i64 0, .int .i64 0, .int .i64 0, .int .i64 0, .int .i64 0] 38)).drew) := Lib.hid ((Below.refl _ _).alloc (Nat.le_refl _) _).drew
    have C1 := stw_any (HC.out.below H2.out.m.bel.drew) x.an hr64
    have C2 := stw_any (HC.out.below (H2.out.m.bel.trans (z7.out.mono H2.out.m.bel.size))) x.an hr64
    have HQ : Hid (∀ X, Below W.heap.size W X → X.cell? ⟨k, 0, none⟩ = some (.pointer (some ⟨t, 0, none⟩)) ∧ X.cell? ⟨k, 7, none⟩ = some (.int .i64 x.an)) := Lib.hid fun X hX => ⟨(H2.out.m.below hX).cs.c0, (H2.out.m.below hX).cs.c7⟩
    go_region_held3 (fun X => X.cell? ⟨k, 0, none⟩ = some (.pointer (some ⟨t, 0, none⟩)) ∧ X.cell? ⟨k, 7, none⟩ = some (.int .i64 x.an)) (first | (refine HQ.out _ ?_; first | (with_reducible exact (Below.refl _ _).drew) | (with_reducible exact HB.out) | (with_reducible exact HB.out.alloc HB.out.size _) | (with_reducible exact ((((((HB.out.setCell (Nat.le_refl _) _).setCell (Nat.le_refl _) _).setCell (Nat.le_refl _) _).setCell (Nat.le_refl _) _).setCell (Nat.le_refl _) _).setCell (Nat.le_refl _) _).setCell (Nat.le_refl _) _) | exact z7.out)) (first | (go_at_call 86; (with_reducible refine C1.mono ?_); rintro e w3 ⟨s, ok, rfl, hb, hs⟩; have HB : Hid (Below W.heap.size W w3) := Lib.hid ((Below.refl W.heap.size W).drew.trans hb); have HS := Lib.hid hs; clear hb hs; simp only [Stt.val]) | (go_at_call 86; (with_reducible refine C2.mono ?_); rintro e w3 ⟨s, ok, rfl, hb, hs⟩; have HB : Hid (Below W.heap.size W w3) := Lib.hid (z7.out.trans (hb.mono z7.out.size)); have HZ := Lib.hid ((Blk.new W #[.int .i64 0, .int .i64 0, .int .i64 0, .int .i64 0, .int .i64 0, .int .i64 0, .int .i64 0] 38).drew.below hb); have HS := Lib.hid hs; clear hb hs; obtain ⟨g0, g1, g2, g3, g4, g5, g6, gf⟩ := seven_cells HZ.out.holds; simp only [Stt.val]))
    all_goals
      go_wp2_with fail
      go_meet
    · exact ⟨_, s, ok, rfl, rfl, Lib.hid ⟨H2.out.below (HB.out.alloc HB.out.size _), Blk.new _ _ _, HS.out, Nat.lt_of_lt_of_le H2.out.m.blk.lt HB.out.size⟩⟩
    · exact ⟨_, s, ok, rfl, rfl, Lib.hid ⟨H2.out.below (setv_below HB.out (Nat.le_refl _) s), setv_blk HZ.out s, HS.out, H2.out.m.blk.lt⟩⟩
  case rest =>
    obtain ⟨Z, s, ok, rfl, rfl, H3⟩ := hcut
    clear H2
    obtain ⟨g0, g1, g2, g3, g4, g5, g6, gf⟩ := seven_cells H3.out.2.1.holds
    obtain ⟨b, hb⟩ : ∃ b, decide (s.kind = 1) = b := ⟨_, rfl⟩
    cases b
    · have h1 : ¬ s.kind = 1 := by simpa using hb
      go_wp2_with fail
      exact WPartP.fin rfl rfl rfl (H3.out.1.m.s HF2.out) (fun h => absurd h (by decide))
    have h1 : s.kind = 1 := by simpa using hb
    have HL := Lib.hid (H3.out.2.2.1 h1)
    have c4 : wc.cell? ⟨k, 4, none⟩ = some (.int .i64 x.cu) := H3.out.1.m.cs.c4
    have c5 : wc.cell? ⟨k, 5, none⟩ = some (.int .i64 x.cg) := H3.out.1.m.cs.c5
    go_upto_region 7 with fail
    clear h1 hb
    have C3 := may_any ⟨x.cu, x.cg⟩ s 1 wc.drew
    unfold Cr.val Stt.val at C3
    have H3 : Hid (∀ X, Below wc.heap.size wc X → PI w0 t tb k (q :: ps) { x with steps := st } (.slice ra ps.length rc) ps X ∧ Blk X Z 38 s.cells.toArray ∧ k < Z) := Lib.hid fun X hX => ⟨H3.out.1.below hX, H3.out.2.1.below hX, H3.out.2.2.2⟩
    go_region_held3 (fun X => X.cell? ⟨k, 4, none⟩ = some (.int .i64 x.cu) ∧ X.cell? ⟨k, 5, none⟩ = some (.int .i64 x.cg) ∧ X.cell? ⟨Z, 0, none⟩ = some (.int .i64 s.node) ∧ X.cell? ⟨Z, 1, none⟩ = some (.int .i64 s.kind) ∧ X.cell? ⟨Z, 2, none⟩ = some (.int .i64 s.mode) ∧ X.cell? ⟨Z, 3, none⟩ = some (.int .i64 s.uid) ∧ X.cell? ⟨Z, 4, none⟩ = some (.int .i64 s.gid) ∧ X.cell? ⟨Z, 5, none⟩ = some (.int .i64 s.links) ∧ X.cell? ⟨Z, 6, none⟩ = some (.int .i64 s.size)) (first | exact ⟨c4, c5, g0, g1, g2, g3, g4, g5, g6⟩ | exact HS4.out) (first | (go_at_call 75; (with_reducible refine C3.mono ?_); rintro e w4 ⟨⟨may, rfl⟩, hb⟩; have HB : Hid (Below wc.heap.size wc w4) := Lib.hid ((Below.refl wc.heap.size wc).drew.trans hb); have H4 := Lib.hid (H3.out w4 HB.out); obtain ⟨g0, g1, g2, g3, g4, g5, g6, gf⟩ := seven_cells H4.out.2.1.holds; have HS4 : Hid (w4.cell? ⟨k, 4, none⟩ = some (.int .i64 x.cu) ∧ w4.cell? ⟨k, 5, none⟩ = some (.int .i64 x.cg) ∧ w4.cell? ⟨Z, 0, none⟩ = some (.int .i64 s.node) ∧ w4.cell? ⟨Z, 1, none⟩ = some (.int .i64 s.kind) ∧ w4.cell? ⟨Z, 2, none⟩ = some (.int .i64 s.mode) ∧ w4.cell? ⟨Z, 3, none⟩ = some (.int .i64 s.uid) ∧ w4.cell? ⟨Z, 4, none⟩ = some (.int .i64 s.gid) ∧ w4.cell? ⟨Z, 5, none⟩ = some (.int .i64 s.links) ∧ w4.cell? ⟨Z, 6, none⟩ = some (.int .i64 s.size)) := Lib.hid ⟨H4.out.1.m.cs.c4, H4.out.1.m.cs.c5, g0, g1, g2, g3, g4, g5, g6⟩; clear hb g0 g1 g2 g3 g4 g5 g6 gf))
    clear g0 g1 g2 g3 g4 g5 g6 gf c4 c5 C3
    cases may
    · go_wp2_with fail
      exact WPartP.fin rfl rfl rfl (H4.out.1.m.s HF2.out) (fun h => absurd h (by decide))
    have c8 : w4.cell? ⟨k, 8, none⟩ = some x.lv := H4.out.1.m.cs.c8
    have fr := H4.out.1.m.cs.fr
    go_upto_region 10 with fail
    have H5 : Hid (WM w0 t tb k ps { x with steps := st, lv := .slice ra ps.length rc } (w4.setCell ⟨k, 8, none⟩ (.slice ra ps.length rc)) ∧ Blk (w4.setCell ⟨k, 8, none⟩ (.slice ra ps.length rc)) Z 38 s.cells.toArray ∧ k < Z) := Lib.hid ⟨H4.out.1.m.setL _ H4.out.1.rp, H4.out.2.1.other (by have := H4.out.2.2; simp; omega) _, H4.out.2.2⟩
    have HF5 : Hid (WF T ps { x with steps := st, lv := .slice ra ps.length rc }) := Lib.hid ⟨HF.out.root, HF.out.nh, HF.out.at_, HF.out.dir, HF.out.last, HF.out.fol, by have := HF.out.len; simp only [List.length_cons] at this ⊢; omega⟩
    have HQL : Hid (q.size ≤ 5000) := Lib.hid (H4.out.1.m.pt.2 q (by simp))
    generalize w4.setCell ⟨k, 8, none⟩ (.slice ra ps.length rc) = W5 at H5 ⊢
    clear c8 fr
    have c15 : W5.cell? ⟨k, 15, none⟩ = some (.string x.last) := H5.out.1.cs.c15
    have fr := H5.out.1.cs.fr
    obtain ⟨d, hd⟩ : ∃ b, (q.toList == [46]) = b := ⟨_, rfl⟩
    cases d
    case true =>
      go_wp2_with fail
      have H6 := H5.out.1.set 15 (.string ⟨#[]⟩) { x with steps := st, lv := .slice ra ps.length rc, last := ⟨#[]⟩ } (by simp [Wk.cells]) rfl
      exact WPartP.fin rfl rfl rfl (H6.s ⟨HF5.out.root, HF5.out.nh, HF5.out.at_, HF5.out.dir, Nat.zero_le 5000, HF5.out.fol, HF5.out.len⟩) (fun _ _ => by simp only [List.length_cons]; omega)
    obtain ⟨d, hd2⟩ : ∃ b, (q.toList == [46, 46]) = b := ⟨_, rfl⟩
    cases d
    case true =>
      go_upto_region 15 with fail
      have H6 : Hid (WS T w0 t tb k ps { x with steps := st, lv := .slice ra ps.length rc, last := ⟨#[]⟩ } (W5.setCell ⟨k, 15, none⟩ (.string ⟨#[]⟩))) := Lib.hid ((H5.out.1.set 15 (.string ⟨#[]⟩) { x with steps := st, lv := .slice ra ps.length rc, last := ⟨#[]⟩ } (by simp [Wk.cells]) rfl).s ⟨HF5.out.root, HF5.out.nh, HF5.out.at_, HF5.out.dir, Nat.zero_le 5000, HF5.out.fol, HF5.out.len⟩)
      generalize W5.setCell ⟨k, 15, none⟩ (.string ⟨#[]⟩) = W6 at H6 ⊢
      clear c15 fr
      have C6 := dotdot_any HC.out H6.out HL.out
      go_upto_region 16 with (first | (go_at_call 114; (with_reducible refine C6.mono ?_); rintro e w7 ⟨qm, qn, rfl, hq, hb⟩; have H7 := Lib.hid (H6.out.below hb); have HQ := Lib.hid hq; clear hb hq; have c6 := H7.out.cs.c6; have c7 := H7.out.cs.c7; have fr := H7.out.cs.fr))
      have H8 := (H7.out.m.set 6 (.int .i64 qm) { x with steps := st, lv := .slice ra ps.length rc, last := ⟨#[]⟩, am := qm } (by simp [Wk.cells]) rfl).set 7 (.int .i64 qn) { x with steps := st, lv := .slice ra ps.length rc, last := ⟨#[]⟩, am := qm, an := qn } (by simp [Wk.cells]) rfl
      have HF8 : WF T ps { x with steps := st, lv := .slice ra ps.length rc, last := ⟨#[]⟩, am := qm, an := qn } := ⟨HF5.out.root, HF5.out.nh, HQ.out, HF5.out.dir, Nat.zero_le 5000, HF5.out.fol, HF5.out.len⟩
      have H9 := Lib.hid (H8.s HF8)
      clear H8 HF8
      go_wp2_with fail
      exact WPartP.fin rfl rfl rfl H9.out (fun _ _ => by simp only [List.length_cons]; omega)
    have c0 : W5.cell? ⟨k, 0, none⟩ = some (.pointer (some ⟨t, 0, none⟩)) := H5.out.1.cs.c0
    have c6 : W5.cell? ⟨k, 6, none⟩ = some (.int .i64 x.am) := H5.out.1.cs.c6
    have c7 : W5.cell? ⟨k, 7, none⟩ = some (.int .i64 x.an) := H5.out.1.cs.c7
    have c13 : W5.cell? ⟨k, 13, none⟩ = some (.int .i64 x.dm) := H5.out.1.cs.c13
    have c14 : W5.cell? ⟨k, 14, none⟩ = some (.int .i64 x.dn) := H5.out.1.cs.c14
    go_upto_region 19 with fail
    have H6 : Hid (WM w0 t tb k ps { x with steps := st, lv := .slice ra ps.length rc, dm := x.am, dn := x.an, last := q } (((W5.setCell ⟨k, 13, none⟩ (.int .i64 x.am)).setCell ⟨k, 14, none⟩ (.int .i64 x.an)).setCell ⟨k, 15, none⟩ (.string q)) ∧ Blk (((W5.setCell ⟨k, 13, none⟩ (.int .i64 x.am)).setCell ⟨k, 14, none⟩ (.int .i64 x.an)).setCell ⟨k, 15, none⟩ (.string q)) Z 38 s.cells.toArray ∧ k < Z) := Lib.hid
      ⟨((H5.out.1.set 13 (.int .i64 x.am) { x with steps := st, lv := .slice ra ps.length rc, dm := x.am } (by simp [Wk.cells]) rfl).set 14 (.int .i64 x.an) { x with steps := st, lv := .slice ra ps.length rc, dm := x.am, dn := x.an } (by simp [Wk.cells]) rfl).set 15 (.string q) _ (by simp [Wk.cells]) rfl, by
        have hkz := H5.out.2.2
        exact ((H5.out.2.1.other (by simp; omega) _).other (by simp; omega) _).other (by simp; omega) _, H5.out.2.2⟩
    have HF6 : Hid (WF T ps { x with steps := st, lv := .slice ra ps.length rc, dm := x.am, dn := x.an, last := q }) := Lib.hid ⟨HF5.out.root, HF5.out.nh, HF5.out.at_, by
      have h1 := HF.out.at_
      have h2 := h1.2.2.rg
      have h3 := HC.out.tl
      exact ⟨h1.1, h1.2.1, by show 0 ≤ x.an; omega, by show x.an ≤ 1000000; omega⟩, HQL.out, HF5.out.fol, HF5.out.len⟩
    generalize ((W5.setCell ⟨k, 13, none⟩ (.int .i64 x.am)).setCell ⟨k, 14, none⟩ (.int .i64 x.an)).setCell ⟨k, 15, none⟩ (.string q) = W6 at H6 ⊢
    clear c0 c6 c7 c13 c14 c15 fr H5 HF5 hd hd2
    have c0 : W6.cell? ⟨k, 0, none⟩ = some (.pointer (some ⟨t, 0, none⟩)) := H6.out.1.cs.c0
    have c7 : W6.cell? ⟨k, 7, none⟩ = some (.int .i64 x.an) := H6.out.1.cs.c7
    have C7 := fnw_any (HC.out.below H6.out.1.bel.drew) x.an (HF.out.at_.r64 HC.out) q
    have H6 : Hid (∀ X, Below W6.heap.size W6 X → WM w0 t tb k ps { x with steps := st, lv := .slice ra ps.length rc, dm := x.am, dn := x.an, last := q } X ∧ Blk X Z 38 s.cells.toArray ∧ k < Z) := Lib.hid fun X hX => ⟨H6.out.1.below hX, H6.out.2.1.below hX, H6.out.2.2⟩
    go_region_held3 (fun X => X.cell? ⟨k, 0, none⟩ = some (.pointer (some ⟨t, 0, none⟩)) ∧ X.cell? ⟨k, 7, none⟩ = some (.int .i64 x.an)) (first | exact ⟨c0, c7⟩ | exact HS7.out) (first | (go_at_call 109; (with_reducible refine C7.mono ?_); rintro e w7 ⟨nv, ok7, rfl, hb, hn⟩; have H7 := Lib.hid (H6.out w7 ((Below.refl W6.heap.size W6).drew.trans hb)); have HN := Lib.hid hn; clear hb hn; have HS7 : Hid (w7.cell? ⟨k, 0, none⟩ = some (.pointer (some ⟨t, 0, none⟩)) ∧ w7.cell? ⟨k, 7, none⟩ = some (.int .i64 x.an)) := Lib.hid ⟨H7.out.1.cs.c0, H7.out.1.cs.c7⟩))
    clear c0 c7 C7
    cases ok7
    case false =>
      by_cases hp0 : ps.length = 0
      · have q1 : ¬ (0 : Int) < (ps.length : Int) := by omega
        go_wp2_with fail
        exact WPartP.fin rfl rfl rfl (H7.out.1.s HF6.out) (fun _ h => by cases h)
      · have q1 : (0 : Int) < (ps.length : Int) := by omega
        go_wp2_with fail
        exact WPartP.fin rfl rfl rfl (H7.out.1.s HF6.out) (fun h => absurd h (by decide))
    have c6 : w7.cell? ⟨k, 6, none⟩ = some (.int .i64 x.am) := H7.out.1.cs.c6
    have c7 : w7.cell? ⟨k, 7, none⟩ = some (.int .i64 x.an) := H7.out.1.cs.c7
    go_upto_region 25 with fail
    have H8 : Hid (WM w0 t tb k ps { x with steps := st, lv := .slice ra ps.length rc, dm := x.am, dn := x.an, last := q } (w7.alloc (.cells #[.int .i64 x.am, .int .i64 x.an] 75)) ∧ Blk (w7.alloc (.cells #[.int .i64 x.am, .int .i64 x.an] 75)) Z 38 s.cells.toArray ∧ Holds (w7.alloc (.cells #[.int .i64 x.am, .int .i64 x.an] 75)) w7.heap.size #[.int .i64 x.am, .int .i64 x.an] ∧ k < Z ∧ k < w7.heap.size ∧ Z < w7.heap.size) := Lib.hid
      ⟨H7.out.1.below ((Below.refl _ _).alloc (Nat.le_refl _) _), H7.out.2.1.alloc _, Holds.new _ _ _, H7.out.2.2, H7.out.1.blk.lt, H7.out.2.1.lt⟩
    obtain ⟨D, hD⟩ : ∃ D, w7.heap.size = D := ⟨_, rfl⟩
    generalize w7.alloc (.cells #[.int .i64 x.am, .int .i64 x.an] 75) = W8 at H8 ⊢
    rw [hD] at H8 ⊢
    clear hD c6 c7 HS7
    have c1 : W8.cell? ⟨k, 1, none⟩ = some (.pointer (some ⟨tb, 0, none⟩)) := H8.out.1.cs.c1
    have d0 : W8.cell? ⟨D, 0, none⟩ = some (.int .i64 x.am) := H8.out.2.2.1.cell 0
    have C8 := down_any S W8.drew tb tv l (HC.out.below H8.out.1.bel.drew).tab HC.out.mi x.am nv
    have H8 : Hid (∀ X, Below W8.heap.size W8 X → WM w0 t tb k ps { x with steps := st, lv := .slice ra ps.length rc, dm := x.am, dn := x.an, last := q } X ∧ Blk X Z 38 s.cells.toArray ∧ Holds X D #[.int .i64 x.am, .int .i64 x.an] ∧ k < Z ∧ k < D ∧ Z < D) := Lib.hid fun X hX => ⟨H8.out.1.below hX, H8.out.2.1.below hX, H8.out.2.2.1.below hX, H8.out.2.2.2⟩
    go_region_held3 (fun X => X.cell? ⟨k, 1, none⟩ = some (.pointer (some ⟨tb, 0, none⟩)) ∧ X.cell? ⟨D, 0, none⟩ = some (.int .i64 x.am)) (first | exact ⟨c1, d0⟩ | exact HS9.out | exact HS10.out) (first | (go_at_call 84; (with_reducible refine C8.mono ?_); rintro e w9 ⟨qm, qn, rfl, hb, hq⟩; have H9 := Lib.hid (H8.out w9 ((Below.refl W8.heap.size W8).drew.trans hb)); have HPQ := Lib.hid (DownQ.ok HC.out hq ⟨HF.out.at_.1, HF.out.at_.2.1, HN.out rfl⟩); clear hb hq; have c6 : w9.cell? ⟨k, 6, none⟩ = some (.int .i64 x.am) := H9.out.1.cs.c6; have c7 : w9.cell? ⟨k, 7, none⟩ = some (.int .i64 x.an) := H9.out.1.cs.c7; have fr := H9.out.1.cs.fr; have HS9 : Hid (w9.cell? ⟨k, 1, none⟩ = some (.pointer (some ⟨tb, 0, none⟩)) ∧ w9.cell? ⟨D, 0, none⟩ = some (.int .i64 x.am)) := Lib.hid ⟨H9.out.1.cs.c1, H9.out.2.2.1.cell 0⟩; have H10 : Hid (WM w0 t tb k ps { x with steps := st, lv := .slice ra ps.length rc, dm := x.am, dn := x.an, last := q, am := qm, an := qn } ((w9.setCell ⟨k, 6, none⟩ (.int .i64 qm)).setCell ⟨k, 7, none⟩ (.int .i64 qn)) ∧ Blk ((w9.setCell ⟨k, 6, none⟩ (.int .i64 qm)).setCell ⟨k, 7, none⟩ (.int .i64 qn)) Z 38 s.cells.toArray ∧ Holds ((w9.setCell ⟨k, 6, none⟩ (.int .i64 qm)).setCell ⟨k, 7, none⟩ (.int .i64 qn)) D #[.int .i64 x.am, .int .i64 x.an] ∧ k < Z ∧ k < D ∧ Z < D) := Lib.hid ⟨(H9.out.1.set 6 (.int .i64 qm) { x with steps := st, lv := .slice ra ps.length rc, dm := x.am, dn := x.an, last := q, am := qm } (by simp [Wk.cells]) rfl).set 7 (.int .i64 qn) _ (by simp [Wk.cells]) rfl, (H9.out.2.1.other (by have := H9.out.2.2.2.1; simp; omega) _).other (by have := H9.out.2.2.2.1; simp; omega) _, (H9.out.2.2.1.other (by have := H9.out.2.2.2.2.1; simp; omega) _).other (by have := H9.out.2.2.2.2.1; simp; omega) _, H9.out.2.2.2⟩; have HS10 : Hid (((w9.setCell ⟨k, 6, none⟩ (.int .i64 qm)).setCell ⟨k, 7, none⟩ (.int .i64 qn)).cell? ⟨k, 1, none⟩ = some (.pointer (some ⟨tb, 0, none⟩)) ∧ ((w9.setCell ⟨k, 6, none⟩ (.int .i64 qm)).setCell ⟨k, 7, none⟩ (.int .i64 qn)).cell? ⟨D, 0, none⟩ = some (.int .i64 x.am)) := Lib.hid ⟨H10.out.1.cs.c1, H10.out.2.2.1.cell 0⟩))
    generalize (w9.setCell ⟨k, 6, none⟩ (.int .i64 qm)).setCell ⟨k, 7, none⟩ (.int .i64 qn) = V at H10 HS10 ⊢
    clear HS9 c6 c7 fr c1 d0 C8
    go_upto_region 26 with fail
    have HF10 : Hid (WF T ps { x with steps := st, lv := .slice ra ps.length rc, dm := x.am, dn := x.an, last := q, am := qm, an := qn }) := Lib.hid ⟨HF6.out.root, HF6.out.nh, HPQ.out, HF6.out.dir, HF6.out.last, HF6.out.fol, HF6.out.len⟩
    have c0 : V.cell? ⟨k, 0, none⟩ = some (.pointer (some ⟨t, 0, none⟩)) := H10.out.1.cs.c0
    have c7 : V.cell? ⟨k, 7, none⟩ = some (.int .i64 qn) := H10.out.1.cs.c7
    have C11 := stw_any (HC.out.below H10.out.1.bel.drew) qn (HPQ.out.r64 HC.out)
    have H10 : Hid (∀ X, Below V.heap.size V X → WM w0 t tb k ps { x with steps := st, lv := .slice ra ps.length rc, dm := x.am, dn := x.an, last := q, am := qm, an := qn } X ∧ Blk X Z 38 s.cells.toArray ∧ Holds X D #[.int .i64 x.am, .int .i64 x.an] ∧ k < Z ∧ k < D ∧ Z < D) := Lib.hid fun X hX => ⟨H10.out.1.below hX, H10.out.2.1.below hX, H10.out.2.2.1.below hX, H10.out.2.2.2⟩
    clear HS10
    have HSET : Hid (∀ (X : World) (s2 : Stt), Below V.heap.size V X → WM w0 t tb k ps { x with steps := st, lv := .slice ra ps.length rc, dm := x.am, dn := x.an, last := q, am := qm, an := qn } (setv X Z s2) ∧ Blk (setv X Z s2) Z 38 s2.cells.toArray ∧ Holds (setv X Z s2) D #[.int .i64 x.am, .int .i64 x.an]) := Lib.hid fun X s2 hX => by
      obtain ⟨r1, r2, r3, r4, r5, r6⟩ := H10.out X hX
      exact ⟨⟨setv_below r1.bel (Nat.le_trans r1.kb (Nat.le_of_lt r4)) s2, setv_other r1.blk (by omega) s2, r1.kb, Parts.setv r1.pt r2 s2⟩, setv_blk r2 s2, setv_hold r3 (by omega) s2⟩
    go_region_held3 (fun X => X.cell? ⟨k, 0, none⟩ = some (.pointer (some ⟨t, 0, none⟩)) ∧ X.cell? ⟨k, 7, none⟩ = some (.int .i64 qn)) (first | (with_reducible exact HS12.out) | (with_reducible exact HS13.out) | exact ⟨c0, c7⟩) (first | (go_at_call 86; (with_reducible refine C11.mono ?_); rintro e w11 ⟨s2, ok2, rfl, hb, hs⟩; have HB11 : Hid (Below V.heap.size V w11) := Lib.hid ((Below.refl V.heap.size V).drew.trans hb); have H11 := Lib.hid (H10.out w11 HB11.out); clear hb hs; have HS12 : Hid (w11.cell? ⟨k, 0, none⟩ = some (.pointer (some ⟨t, 0, none⟩)) ∧ w11.cell? ⟨k, 7, none⟩ = some (.int .i64 qn)) := Lib.hid ⟨H11.out.1.cs.c0, H11.out.1.cs.c7⟩; obtain ⟨g0, g1, g2, g3, g4, g5, g6, gf⟩ := seven_cells H11.out.2.1.holds; have H13 := Lib.hid (HSET.out w11 s2 HB11.out); have HS13 : Hid ((((((((w11.setCell ⟨Z, 0, none⟩ (.int .i64 s2.node)).setCell ⟨Z, 1, none⟩ (.int .i64 s2.kind)).setCell ⟨Z, 2, none⟩ (.int .i64 s2.mode)).setCell ⟨Z, 3, none⟩ (.int .i64 s2.uid)).setCell ⟨Z, 4, none⟩ (.int .i64 s2.gid)).setCell ⟨Z, 5, none⟩ (.int .i64 s2.links)).setCell ⟨Z, 6, none⟩ (.int .i64 s2.size)).cell? ⟨k, 0, none⟩ = some (.pointer (some ⟨t, 0, none⟩)) ∧ (((((((w11.setCell ⟨Z, 0, none⟩ (.int .i64 s2.node)).setCell ⟨Z, 1, none⟩ (.int .i64 s2.kind)).setCell ⟨Z, 2, none⟩ (.int .i64 s2.mode)).setCell ⟨Z, 3, none⟩ (.int .i64 s2.uid)).setCell ⟨Z, 4, none⟩ (.int .i64 s2.gid)).setCell ⟨Z, 5, none⟩ (.int .i64 s2.links)).setCell ⟨Z, 6, none⟩ (.int .i64 s2.size)).cell? ⟨k, 7, none⟩ = some (.int .i64 qn)) := Lib.hid ⟨H13.out.1.cs.c0, H13.out.1.cs.c7⟩; simp only [Stt.val]))
    change Hid (WM w0 t tb k ps _ (((((((w11.setCell ⟨Z, 0, none⟩ (.int .i64 s2.node)).setCell ⟨Z, 1, none⟩ (.int .i64 s2.kind)).setCell ⟨Z, 2, none⟩ (.int .i64 s2.mode)).setCell ⟨Z, 3, none⟩ (.int .i64 s2.uid)).setCell ⟨Z, 4, none⟩ (.int .i64 s2.gid)).setCell ⟨Z, 5, none⟩ (.int .i64 s2.links)).setCell ⟨Z, 6, none⟩ (.int .i64 s2.size)) ∧ Blk (((((((w11.setCell ⟨Z, 0, none⟩ (.int .i64 s2.node)).setCell ⟨Z, 1, none⟩ (.int .i64 s2.kind)).setCell ⟨Z, 2, none⟩ (.int .i64 s2.mode)).setCell ⟨Z, 3, none⟩ (.int .i64 s2.uid)).setCell ⟨Z, 4, none⟩ (.int .i64 s2.gid)).setCell ⟨Z, 5, none⟩ (.int .i64 s2.links)).setCell ⟨Z, 6, none⟩ (.int .i64 s2.size)) Z 38 s2.cells.toArray ∧ Holds (((((((w11.setCell ⟨Z, 0, none⟩ (.int .i64 s2.node)).setCell ⟨Z, 1, none⟩ (.int .i64 s2.kind)).setCell ⟨Z, 2, none⟩ (.int .i64 s2.mode)).setCell ⟨Z, 3, none⟩ (.int .i64 s2.uid)).setCell ⟨Z, 4, none⟩ (.int .i64 s2.gid)).setCell ⟨Z, 5, none⟩ (.int .i64 s2.links)).setCell ⟨Z, 6, none⟩ (.int .i64 s2.size)) D #[.int .i64 x.am, .int .i64 x.an]) at H13
    generalize ((((((w11.setCell ⟨Z, 0, none⟩ (.int .i64 s2.node)).setCell ⟨Z, 1, none⟩ (.int .i64 s2.kind)).setCell ⟨Z, 2, none⟩ (.int .i64 s2.mode)).setCell ⟨Z, 3, none⟩ (.int .i64 s2.uid)).setCell ⟨Z, 4, none⟩ (.int .i64 s2.gid)).setCell ⟨Z, 5, none⟩ (.int .i64 s2.links)).setCell ⟨Z, 6, none⟩ (.int .i64 s2.size) = W13 at H13 ⊢
    clear HS12 HS13 c0 c7 C11 g0 g1 g2 g3 g4 g5 g6 gf
    go_upto_region 27 with fail
    go_cut [155] (fun v wx => ∃ b : Bool, v = .bool b ∧ wx = W13)
    case first =>
      have g1 : W13.cell? ⟨Z, 1, none⟩ = some (.int .i64 s2.kind) := H13.out.2.1.cell 1
      have c9 : W13.cell? ⟨k, 9, none⟩ = some (.bool x.slash) := H13.out.1.cs.c9
      have c10 : W13.cell? ⟨k, 10, none⟩ = some (.bool x.follow) := H13.out.1.cs.c10
      clear HC HF HF2 HL H3 H4 H7 HF6 H8 H9 HPQ HF10 H10 HSET H11 HB11 HB HN HQL
      obtain ⟨d3, hd3⟩ : ∃ d, x.slash = d := ⟨_, rfl⟩
      obtain ⟨d4, hd4⟩ : ∃ d, x.follow = d := ⟨_, rfl⟩
      rw [hd3] at c9
      rw [hd4] at c10
      clear hd3 hd4
      obtain ⟨d2, hd2⟩ : ∃ d, ((ps.length : Int) == 0) = d := ⟨_, rfl⟩
      cases d2 <;> cases d3 <;> cases d4
      all_goals
        go_wp2_with fail
        all_goals
          go_meet
          exact ⟨_, rfl, rfl⟩
    case rest =>
      obtain ⟨b, rfl, rfl⟩ := hcut
      cases b
      case true =>
        go_wp2_with fail
        exact WPartP.fin rfl rfl rfl (H13.out.1.s HF10.out) (fun _ _ => by simp only [List.length_cons]; omega)
      have d0 : wc.cell? ⟨D, 0, none⟩ = some (.int .i64 x.am) := H13.out.2.2.cell 0
      have d1 : wc.cell? ⟨D, 1, none⟩ = some (.int .i64 x.an) := H13.out.2.2.cell 1
      have C14 := link_any HC.out (H13.out.1.s HF10.out) HF.out.at_
      go_wp2_with (first | (go_at_call 115; (with_reducible refine C14.mono ?_); rintro e w14 ⟨code, x14, ps14, rfl, hs14, hm14⟩; have H14 := Lib.hid (And.intro hs14 hm14); clear hs14 hm14))
      exact WPartP.fin rfl rfl rfl H14.out.1 (fun h _ => by
        obtain ⟨h1, h2⟩ := H14.out.2 h
        have h3 := H14.out.1.fol
        simp only [List.length_cons] at h1 h2 ⊢
        omega)
end Go.Proofs.YtfjghemojnhmbaaGreat
