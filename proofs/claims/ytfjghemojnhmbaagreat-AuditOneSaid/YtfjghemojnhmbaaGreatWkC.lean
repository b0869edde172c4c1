/- Walks: a symlink is followed. -/
import Derived.Test.YtfjghemojnhmbaaGreatWk
namespace Go.Proofs.YtfjghemojnhmbaaGreat
open Go.RowKit

/-- A walker in memory. -/
structure WM (w0 : World) (t tb k : Nat) (ps : List ByteArray) (x : Wk) (w : World) : Prop where
  bel : Below w0.heap.size w0 w
  blk : Blk w k 170 (x.cells t tb)
  kb : w0.heap.size ≤ k
  pt : Parts w 0 x.lv ps
/-- .. and what it may be. -/
structure WF (T : List (Option Nd)) (ps : List ByteArray) (x : Wk) : Prop where
  root : PlaceOk T x.rm x.rn
  nh : x.has = false
  at_ : PlaceOk T x.am x.an
  dir : 0 ≤ x.dm ∧ x.dm ≤ 1000000 ∧ 0 ≤ x.dn ∧ x.dn ≤ 1000000
  last : x.last.size ≤ 5000
  fol : x.fol ≤ 40
  len : ps.length ≤ 5000 * (x.fol + 1)
theorem WS.m {T : List (Option Nd)} {w0 w : World} {t tb k : Nat} {ps : List ByteArray} {x : Wk} (h : WS T w0 t tb k ps x w) : WM w0 t tb k ps x w := ⟨h.bel, h.blk, h.kb, h.pt⟩
theorem WS.f {T : List (Option Nd)} {w0 w : World} {t tb k : Nat} {ps : List ByteArray} {x : Wk} (h : WS T w0 t tb k ps x w) : WF T ps x := ⟨h.root, h.nh, h.at_, h.dir, h.last, h.fol, h.len⟩
theorem WM.s {T : List (Option Nd)} {w0 w : World} {t tb k : Nat} {ps : List ByteArray} {x : Wk} (h : WM w0 t tb k ps x w) (f : WF T ps x) : WS T w0 t tb k ps x w := ⟨h.bel, h.blk, h.kb, h.pt, f.root, f.nh, f.at_, f.dir, f.last, f.fol, f.len⟩
theorem WM.below {w0 w w' : World} {t tb k : Nat} {ps : List ByteArray} {x : Wk} (h : WM w0 t tb k ps x w) (hb : Below w.heap.size w w') : WM w0 t tb k ps x w' :=
  ⟨h.bel.trans (hb.mono h.bel.size), h.blk.below hb, h.kb, h.pt.below hb⟩
theorem WM.cs {w0 w : World} {t tb k : Nat} {ps : List ByteArray} {x : Wk} (h : WM w0 t tb k ps x w) : WkC w k t tb x := by
  have b := h.blk
  exact ⟨b.cell 0, b.cell 1, b.cell 2, b.cell 3, b.cell 4, b.cell 5, b.cell 6, b.cell 7, b.cell 8, b.cell 9, b.cell 10, b.cell 11, b.cell 12, b.cell 13, b.cell 14, b.cell 15, b.cell 16, b.cell 17, b.cell 18, b.cell 19, b.free⟩
theorem Parts.put {w : World} {B k : Nat} {v : Value} {ps : List ByteArray} {cs : Array Value} (h : Parts w B v ps) (hk : Blk w k 170 cs) (i : Nat) (u : Value) : Parts (w.setCell ⟨k, i, none⟩ u) B v ps := by
  refine ⟨h.1.kept fun f hf => Below.heap_setCell _ _ _ _ ?_, h.2⟩
  rintro rfl
  obtain ⟨_, q | ⟨f, o, cap, cur, h3, _, h5, _⟩⟩ := h.1
  · rw [q.1] at hf; cases hf
  · rw [h3] at hf; cases hf
    unfold Blk at hk
    rw [hk] at h5
    simp at h5
theorem WM.set {w0 w : World} {t tb k : Nat} {ps : List ByteArray} {x : Wk} (h : WM w0 t tb k ps x w) (i : Nat) (v : Value) (x' : Wk) (he : x'.cells t tb = (x.cells t tb).setIfInBounds i v) (hl : x'.lv = x.lv) : WM w0 t tb k ps x' (w.setCell ⟨k, i, none⟩ v) :=
  ⟨h.bel.setCell h.kb _, by rw [he]; exact h.blk.set i v, h.kb, by rw [hl]; exact h.pt.put h.blk i v⟩
theorem WM.setL {w0 w : World} {t tb k : Nat} {ps ps' : List ByteArray} {x : Wk} (h : WM w0 t tb k ps x w) (v : Value) (hv : Parts w 0 v ps') : WM w0 t tb k ps' { x with lv := v } (w.setCell ⟨k, 8, none⟩ v) :=
  ⟨h.bel.setCell h.kb _, by have := h.blk.set 8 v; simpa [Wk.cells] using this, h.kb, hv.put h.blk 8 v⟩
/-- One row of strings behind another. -/
theorem str_app {ty : TypeId} {w : World} {B B' f o cap m c : Nat} {a : Option Addr} {xs ys : List ByteArray} (hv : Win w B 9 1 (.slice (some ⟨f, o, none⟩) xs.length cap) xs.length (strs xs)) (hs : Win w B' 9 1 (.slice a m c) m (strs ys)) (hm : m = ys.length) (hl : xs.length + m ≤ 1000000) (hB : B ≤ w.heap.size) :
    ∃ f' o' cap' w', (Builtin.append_ #[36, 36] ty #[.slice (some ⟨f, o, none⟩) xs.length cap, .slice a m c]).run Tryz.prog w = .ok (.slice (some ⟨f', o', none⟩) (xs ++ ys).length cap') w' ∧ Win w' B 9 1 (.slice (some ⟨f', o', none⟩) (xs ++ ys).length cap') (xs ++ ys).length (strs (xs ++ ys)) ∧ Below B w w' := by
  have hc : a = none → c = 0 := by
    rintro rfl
    obtain ⟨_, q | ⟨f, o, cap, cur, h3, _⟩⟩ := hs
    · have := q.1; cases this; rfl
    · cases h3
  obtain ⟨i, z, h0, h1, h2, h3, h4⟩ : ∃ i z, Tryz.prog.info? 9 = some i ∧ i.zero = some z ∧ i.size = 1 ∧ i.bytes = 16 ∧ z.cells.size = 1 := by
    have h := info9
    cases hi : Tryz.prog.info? 9 with
    | none => rw [hi] at h; cases h
    | some i =>
      rw [hi] at h
      simp only [Option.map_some, Option.some.injEq, Prod.mk.injEq] at h
      exact ⟨i, _, rfl, h.1, h.2.1, h.2.2, rfl⟩
  have hst := hs.src (Nat.le_refl m) hc
  have ht : (strs ys).take (m * 1) = strs ys := List.take_of_length_le (by simp [strs, hm])
  rw [ht] at hst
  obtain ⟨f', o', cap', w', r1, r2, r3, r4⟩ := run_append_fresh (P := Tryz.prog) w B 36 ty 9 i z 1 16 (by kernel_rfl) h0 h1 h2 h3 h4 (by decide) (by decide) f o cap xs.length (strs xs) hv a m c (strs ys) (by simp [strs, hm]) hst (by
    intro u hu
    simp only [strs, List.mem_map] at hu
    obtain ⟨q, _, rfl⟩ := hu
    rfl) (by unfold maxLen; omega) (by omega) hB
  have e1 : (xs ++ ys).length = xs.length + m := by rw [List.length_append, hm]
  rw [e1]
  refine ⟨f', o', cap', w', r1, ?_, r3⟩
  simpa [strs] using r2
/-- A link under way: the place that it lies in, at D; its parts, at P. -/
structure LkI (w0 : World) (t tb k D P : Nat) (ps : List ByteArray) (x : Wk) (dm dn : Int) (r sl : Bool) (pv : Value) (qs : List ByteArray) (w : World) : Prop where
  m : WM w0 t tb k ps x w
  hd : Holds w D #[.int .i64 dm, .int .i64 dn]
  hp : Holds w P #[.bool r, .bool sl, pv]
  pt : Parts w 0 pv qs
  kd : k < D
  dp : D < P
theorem LkI.set {w0 w : World} {t tb k D P : Nat} {ps : List ByteArray} {x : Wk} {dm dn : Int} {r sl : Bool} {pv : Value} {qs : List ByteArray} (h : LkI w0 t tb k D P ps x dm dn r sl pv qs w) (i : Nat) (v : Value) (x' : Wk) (he : x'.cells t tb = (x.cells t tb).setIfInBounds i v) (hl : x'.lv = x.lv) : LkI w0 t tb k D P ps x' dm dn r sl pv qs (w.setCell ⟨k, i, none⟩ v) :=
  ⟨h.m.set i v x' he hl, h.hd.other (by have := h.kd; simp; omega) _, h.hp.other (by have := h.kd; have := h.dp; simp; omega) _, h.pt.put h.m.blk i v, h.kd, h.dp⟩
/-- What link answers. -/
def LinkP (T : List (Option Nd)) (w0 : World) (t tb k : Nat) (ps : List ByteArray) (x : Wk) (e : Ending) (w' : World) : Prop := ∃ (code : Int) (x' : Wk) (ps' : List ByteArray), e = .returned (.int .i64 code) ∧ WS T w0 t tb k ps' x' w' ∧ (code = 0 → x'.fol = x.fol + 1 ∧ ps'.length ≤ ps.length + 5000)
theorem LinkP.err {T : List (Option Nd)} {w0 wr : World} {t tb k : Nat} {ps : List ByteArray} {x x' : Wk} {fn : Func} {tmps : Array Value} {code : Int} (hr : fn.results = #[.tmp 6]) (h6 : tmps.getD 6 undef = .int .i64 code) (h0 : ¬ code = 0) (h : WS T w0 t tb k ps x' wr) : bodyPost Tryz.prog fn (LinkP T w0 t tb k ps x) .ret ⟨tmps, []⟩ wr := by
  refine bodyPost_ret (v := .int .i64 code) ?_ rfl ⟨code, x', ps, rfl, h, fun h => absurd h h0⟩
  unfold results
  rw [hr]
  have h6' : tmps[6]?.getD undef = .int .i64 code := by rw [← h6]; simp
  simp [asAddr, h6', go_sem]
/-- Where the link leads: the walker when its parts are laid. -/
def Wk.fst (x : Wk) (sl : Bool) (am an : Int) : Wk := { x with fol := x.fol + 1, slash := sl, am := am, an := an, last := ⟨#[]⟩ }
set_option maxRecDepth 100000 in
set_option maxHeartbeats 4000000 in
theorem link_any {S : Nat → Prop} {w0 w : World} {t c : Nat} {bs : List Nat} {T : List (Option Nd)} {tb : Nat} {tv : Value} {l : List Mt} {k : Nat} {ps : List ByteArray} {x : Wk} (hc : Ctx S w0 t c bs T tb tv l) (h : WS T w0 t tb k ps x w) {dm dn : Int} (hd : PlaceOk T dm dn) :
    Calls Tryz.prog 115 #[.pointer (some ⟨k, 0, none⟩), .agg #[.int .i64 dm, .int .i64 dn], x.lv] w (LinkP T w0 t tb k ps x) := by
  obtain ⟨M, p, v, ht⟩ := hc.tr
  have HC : Hid (∀ X, Below w0.heap.size w0 X → TreeAt S X t c M p v bs T) := Lib.hid fun X hX => ht.below hX
  have HCC : Hid (c ≤ 100000 ∧ R64 x.an) := Lib.hid ⟨by have := hc.cc; omega, h.at_.r64 hc⟩
  have HF := Lib.hid h.f
  have HD := Lib.hid hd
  have HL := Lib.hid h.len
  have HM : Hid (WM w0 t tb k ps x (w.alloc (.cells #[.int .i64 dm, .int .i64 dn] 75)) ∧ Holds (w.alloc (.cells #[.int .i64 dm, .int .i64 dn] 75)) w.heap.size #[.int .i64 dm, .int .i64 dn] ∧ k < w.heap.size) := Lib.hid ⟨h.m.below ((Below.refl _ _).alloc (Nat.le_refl _) _), Holds.new _ _ _, h.blk.lt⟩
  obtain ⟨va, vc, hv⟩ := h.pt.1.value
  have hfol := h.fol
  rw [hv]
  have HV := Lib.hid hv
  clear hc h hd ht hv
  go_enter Tryz.func115, Tryz.ntmps115
  go_upto_region 1 with fail
  generalize w.alloc (.cells #[.int .i64 dm, .int .i64 dn] 75) = W at HM ⊢
  obtain ⟨D, hD⟩ : ∃ D, w.heap.size = D := ⟨_, rfl⟩
  rw [hD] at HM ⊢
  clear hD
  have c11 := HM.out.1.cs.c11
  have fr := HM.out.1.cs.fr
  have k40 : (40 : Int) ≤ (x.fol : Int) ↔ 40 ≤ x.fol := by omega
  by_cases hf40 : x.fol = 40
  · have q : (40 : Int) ≤ (x.fol : Int) := by omega
    go_wp2_with fail
    exact LinkP.err rfl rfl (by decide) (HM.out.1.s HF.out)
  have hlt : x.fol < 40 := by omega
  have q : ¬ (40 : Int) ≤ (x.fol : Int) := by omega
  have q2 : IntKind.i64.wrap ((x.fol : Int) + 1) = (x.fol : Int) + 1 := by rw [IntWalk.i64_left]; exact IntWalk.wrap64_in _ ⟨by omega, by omega⟩
  go_upto_region 4 with fail
  have HM2 : Hid (WM w0 t tb k ps { x with fol := x.fol + 1 } (W.setCell ⟨k, 11, none⟩ (.int .i64 ((x.fol : Int) + 1))) ∧ Holds (W.setCell ⟨k, 11, none⟩ (.int .i64 ((x.fol : Int) + 1))) D #[.int .i64 dm, .int .i64 dn] ∧ k < D) := Lib.hid
    ⟨HM.out.1.set 11 _ _ (by simp [Wk.cells]) rfl, HM.out.2.1.other (by have := HM.out.2.2; simp; omega) _, HM.out.2.2⟩
  have HF2 : Hid (WF T ps { x with fol := x.fol + 1 }) := Lib.hid ⟨HF.out.root, HF.out.nh, HF.out.at_, HF.out.dir, HF.out.last, hlt, by have := HF.out.len; simp only; omega⟩
  generalize W.setCell ⟨k, 11, none⟩ (.int .i64 ((x.fol : Int) + 1)) = W2 at HM2 ⊢
  clear c11 fr HM HF
  have c0 : W2.cell? ⟨k, 0, none⟩ = some (.pointer (some ⟨t, 0, none⟩)) := HM2.out.1.cs.c0
  have c7 : W2.cell? ⟨k, 7, none⟩ = some (.int .i64 x.an) := HM2.out.1.cs.c7
  have C1 := text_any (HC.out _ HM2.out.1.bel.drew) HCC.out.1 x.an HCC.out.2
  have HQ : Hid (∀ X, Below W2.heap.size W2 X → X.cell? ⟨k, 0, none⟩ = some (.pointer (some ⟨t, 0, none⟩)) ∧ X.cell? ⟨k, 7, none⟩ = some (.int .i64 x.an)) := Lib.hid fun X hX => ⟨(HM2.out.1.below hX).cs.c0, (HM2.out.1.below hX).cs.c7⟩
  go_region_held3 (fun X => X.cell? ⟨k, 0, none⟩ = some (.pointer (some ⟨t, 0, none⟩)) ∧ X.cell? ⟨k, 7, none⟩ = some (.int .i64 x.an)) (first | exact ⟨c0, c7⟩ | exact HQ.out _ (Below.refl _ _).drew) (first | (go_at_call 71; (with_reducible refine C1.mono ?_); rintro e w3 ⟨rfl, s, rfl, hs⟩; have HS := Lib.hid hs; clear hs))
  replace HM2 : Hid (WM w0 t tb k ps { x with fol := x.fol + 1 } W2.drew ∧ Holds W2.drew D #[.int .i64 dm, .int .i64 dn] ∧ k < D) := Lib.hid ⟨HM2.out.1.below (Below.refl _ _).drew, HM2.out.2.1.drew, HM2.out.2.2⟩
  generalize W2.drew = W3 at HM2 ⊢
  clear c0 c7 C1 HQ
  obtain ⟨q, hq⟩ : ∃ q, s.toList.isEmpty = q := ⟨_, rfl⟩
  cases q
  case true =>
    go_wp2_with fail
    exact LinkP.err rfl rfl (by decide) (HM2.out.1.s HF2.out)
  have c9 : W3.cell? ⟨k, 9, none⟩ = some (.bool x.slash) := HM2.out.1.cs.c9
  have C2 := pwrite_any W3 false x.slash (.slice va ps.length vc) 0 ps (by have := HM2.out.1.pt.1; rw [← HV.out]; exact this) HM2.out.1.pt.2 (by have h1 := HF2.out.len; have h2 := hlt; simp only at h1; omega)
  have HS1 := HS.out
  go_wp2_with (first | (go_at_call 123; (with_reducible refine C2.mono ?_); rintro e w4 ⟨s2, rfl, hs2, hb4⟩; have H4 := Lib.hid (And.intro (HM2.out.1.below hb4) (HM2.out.2.1.below hb4)); clear hb4; have hw : IntKind.i64.wrap ((s.size : Int) + (s2.size : Int)) = (s.size : Int) + (s2.size : Int) := (by rw [IntWalk.i64_left]; exact IntWalk.wrap64_in _ ⟨by omega, by omega⟩)))
  · exact LinkP.err rfl rfl (by decide) (H4.out.1.s HF2.out)
  refine (read_any s w4).mono ?_
  rintro e w5 ⟨r, sl, pv, qs, code, rfl, hpt, hql, hb5⟩
  have HR : Hid (Parts w5 w4.heap.size pv qs ∧ qs.length ≤ 5000 ∧ w0.heap.size ≤ w4.heap.size) := Lib.hid ⟨hpt, hql, H4.out.1.bel.size⟩
  have H5 := Lib.hid (And.intro (H4.out.1.below hb5) (H4.out.2.below hb5))
  obtain ⟨pa, pc, rfl⟩ := hpt.1.value
  clear hpt hql hb5 c9 C2
  go_upto_region 10 with fail
  have H6 : Hid (LkI w0 t tb k D w5.heap.size ps { x with fol := x.fol + 1 } dm dn r sl (.slice pa qs.length pc) qs (w5.alloc (.cells #[.bool r, .bool sl, .slice pa qs.length pc] 164))) := Lib.hid
    ⟨H5.out.1.below ((Below.refl _ _).alloc (Nat.le_refl _) _), H5.out.2.alloc _, Holds.new _ _ _, ⟨(HR.out.1.below ((Below.refl _ _).alloc (Nat.le_refl _) _)).1.of_base (Nat.zero_le _), HR.out.1.2⟩, HM2.out.2.2, H5.out.2.lt⟩
  obtain ⟨P, hP⟩ : ∃ P, w5.heap.size = P := ⟨_, rfl⟩
  generalize w5.alloc (.cells #[.bool r, .bool sl, .slice pa qs.length pc] 164) = W6 at H6 ⊢
  rw [hP] at H6 ⊢
  clear hP
  obtain ⟨q, hq2⟩ : ∃ q, decide (code = 0) = q := ⟨_, rfl⟩
  cases q
  case false =>
    have hcode : ¬ code = 0 := by simpa using hq2
    go_wp2_with fail
    exact LinkP.err rfl rfl hcode (H6.out.m.s HF2.out)
  obtain rfl : code = 0 := by simpa using hq2
  clear hq2
  have HB := Lib.hid (And.intro hlt HR.out.2.1)
  clear hfol k40 hlt q q2 HS1 hs2 hw HS
  go_upto_region 12 with fail
  go_cut [60] (fun v wx => ∃ b : Bool, v = .bool b ∧ wx = W6)
  case first =>
    have p1 : W6.cell? ⟨P, 1, none⟩ = some (.bool sl) := H6.out.hp.cell 1
    cases sl
    · go_wp2_with fail
      go_meet
      exact ⟨false, rfl, rfl⟩
    · go_wp2_with fail
      go_meet
      exact ⟨_, rfl, rfl⟩
  case rest =>
  obtain ⟨b, rfl, rfl⟩ := hcut
  go_upto_if 60 with fail
  go_cut [] (fun wx => ∃ sl' : Bool, Hid (LkI w0 t tb k D P ps { x with fol := x.fol + 1, slash := sl' } dm dn r sl (.slice pa qs.length pc) qs wx))
  case first =>
    have fr := H6.out.m.cs.fr
    have c9 : wc.cell? ⟨k, 9, none⟩ = some (.bool x.slash) := H6.out.m.cs.c9
    cases b
    · go_wp2_with fail
      go_meet
      exact ⟨x.slash, H6⟩
    · go_wp2_with fail
      go_meet
      exact ⟨true, Lib.hid (H6.out.set 9 (.bool true) _ (by simp [Wk.cells]) rfl)⟩
  case rest =>
    obtain ⟨sl', H7⟩ := hcut
    have d0 : wc.cell? ⟨D, 0, none⟩ = some (.int .i64 dm) := H7.out.hd.cell 0
    have d1 : wc.cell? ⟨D, 1, none⟩ = some (.int .i64 dn) := H7.out.hd.cell 1
    have p0 : wc.cell? ⟨P, 0, none⟩ = some (.bool r) := H7.out.hp.cell 0
    have c2 : wc.cell? ⟨k, 2, none⟩ = some (.int .i64 x.rm) := H7.out.m.cs.c2
    have c3 : wc.cell? ⟨k, 3, none⟩ = some (.int .i64 x.rn) := H7.out.m.cs.c3
    have c6 : wc.cell? ⟨k, 6, none⟩ = some (.int .i64 x.am) := H7.out.m.cs.c6
    have c7 : wc.cell? ⟨k, 7, none⟩ = some (.int .i64 x.an) := H7.out.m.cs.c7
    have fr := H7.out.m.cs.fr
    have npk : ¬ P = k := by have := H7.out.kd; have := H7.out.dp; omega
    go_upto_if 69 with fail
    have H8 : Hid (LkI w0 t tb k D P ps { x with fol := x.fol + 1, slash := sl', am := dm, an := dn } dm dn r sl (.slice pa qs.length pc) qs ((wc.setCell ⟨k, 6, none⟩ (.int .i64 dm)).setCell ⟨k, 7, none⟩ (.int .i64 dn))) := Lib.hid
      ((H7.out.set 6 (.int .i64 dm) { x with fol := x.fol + 1, slash := sl', am := dm } (by simp [Wk.cells]) rfl).set 7 (.int .i64 dn) _ (by simp [Wk.cells]) rfl)
    generalize (wc.setCell ⟨k, 6, none⟩ (.int .i64 dm)).setCell ⟨k, 7, none⟩ (.int .i64 dn) = W8 at H8 ⊢
    clear d0 d1 p0 c2 c3 c6 c7 fr npk
    go_cut [] (fun wx => ∃ am an : Int, Hid (PlaceOk T am an) ∧ Hid (LkI w0 t tb k D P ps { x with fol := x.fol + 1, slash := sl', am := am, an := an } dm dn r sl (.slice pa qs.length pc) qs wx))
    case first =>
      have c2 : W8.cell? ⟨k, 2, none⟩ = some (.int .i64 x.rm) := H8.out.m.cs.c2
      have c3 : W8.cell? ⟨k, 3, none⟩ = some (.int .i64 x.rn) := H8.out.m.cs.c3
      have c6 : W8.cell? ⟨k, 6, none⟩ = some (.int .i64 dm) := H8.out.m.cs.c6
      have c7 : W8.cell? ⟨k, 7, none⟩ = some (.int .i64 dn) := H8.out.m.cs.c7
      have fr := H8.out.m.cs.fr
      cases r
      · go_wp2_with fail
        go_meet
        exact ⟨dm, dn, HD, H8⟩
      · go_wp2_with fail
        go_meet
        exact ⟨x.rm, x.rn, Lib.hid HF2.out.root, Lib.hid ((H8.out.set 6 (.int .i64 x.rm) { x with fol := x.fol + 1, slash := sl', am := x.rm, an := dn } (by simp [Wk.cells]) rfl).set 7 (.int .i64 x.rn) _ (by simp [Wk.cells]) rfl)⟩
    case rest =>
      obtain ⟨am, an, HP9, H9⟩ := hcut
      have c15 : wc.cell? ⟨k, 15, none⟩ = some (.string x.last) := H9.out.m.cs.c15
      have fr := H9.out.m.cs.fr
      go_upto_region 18 with fail
      have H10 : Hid (LkI w0 t tb k D P ps { x with fol := x.fol + 1, slash := sl', am := am, an := an, last := ⟨#[]⟩ } dm dn r sl (.slice pa qs.length pc) qs (wc.setCell ⟨k, 15, none⟩ (.string ⟨#[]⟩))) := Lib.hid (H9.out.set 15 (.string ⟨#[]⟩) _ (by simp [Wk.cells]) rfl)
      generalize wc.setCell ⟨k, 15, none⟩ (.string ⟨#[]⟩) = V at H10 ⊢
      clear c15 fr
      have hb0 : Below V.heap.size V (V.alloc (.cells #[] 9)) := (Below.refl _ _).alloc (Nat.le_refl _) _
      have hps : ps.length ≤ 300000 := by have := HF2.out.len; have := HB.out.1; simp only at *; omega
      have hsz : w0.heap.size ≤ V.heap.size := H10.out.m.bel.size
      obtain ⟨f1, o1, cap1, w11, r1, r2, r3⟩ := str_app (ty := 36) (xs := []) (Win.empty V 9 1) (H10.out.pt.1.below hb0) rfl (by have := HB.out.2; simp; omega) (by simp)
      have hb1 : Below V.heap.size V w11 := hb0.trans r3
      have hpt : Win V 0 9 1 (.slice va ps.length vc) ps.length (strs ps) := by have := H10.out.m.pt.1; simp only [HV.out] at this; exact this
      obtain ⟨f2, o2, cap2, w12, s1, s2, s3⟩ := str_app (ty := 36) r2 (hpt.below hb1) rfl (by have := HB.out.2; simp; omega) hb1.size
      have hb2 : Below V.heap.size V w12 := hb1.trans s3
      rw [List.nil_append] at r1 r2 s1 s2
      have H11 := Lib.hid (WM.setL (H10.out.m.below hb2) (.slice (some ⟨f2, o2, none⟩) (qs ++ ps).length cap2) (ps' := qs ++ ps) ⟨s2.of_base (Nat.zero_le _), fun q hq => by
        rcases List.mem_append.1 hq with hq | hq
        · exact H10.out.pt.2 q hq
        · exact H10.out.m.pt.2 q hq⟩)
      have HR1 := Lib.hid r1
      have HR2 := Lib.hid s1
      have p2 : (V.alloc (.cells #[] 9)).cell? ⟨P, 2, none⟩ = some (.slice pa qs.length pc) := (H10.out.hp.alloc _).cell 2
      have nPV : ¬ P = V.heap.size := by have := H10.out.hp.lt; omega
      have kb := (H10.out.m.below hb2).blk
      have c8 : w12.cell? ⟨k, 8, none⟩ = some x.lv := kb.cell 8
      have fr := kb.free 8
      clear r1 r2 r3 s1 s2 s3 hb0 hb1 hb2 hpt kb hps hsz
      go_wp2_with (first | (at_builtin; go_must (first | (refine wpList_append_run rfl (.tmp 82) (.tmp 84) 36 rfl HR1.out ?_) | (refine wpList_append_run rfl (.tmp 85) (.tmp 86) 36 rfl HR2.out ?_))))
      refine bodyPost_ret (by simp [results, Tryz.results115, go_sem]; try rfl) rfl ?_
      have H12 := H11.out
      simp only [List.length_append] at H12
      refine ⟨0, { x with fol := x.fol + 1, slash := sl', am := am, an := an, last := ⟨#[]⟩, lv := _ }, _, rfl, H12.s ⟨HF2.out.root, HF2.out.nh, HP9.out, HF2.out.dir, Nat.zero_le 5000, HF2.out.fol, ?_⟩, fun _ => ⟨rfl, ?_⟩⟩
      · have := HL.out
        have := HB.out.2
        simp only [List.length_append]
        omega
      · have := HB.out.2
        simp only [List.length_append]
        omega
end Go.Proofs.YtfjghemojnhmbaaGreat
