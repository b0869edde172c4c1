/- Walks: from a path to a place. -/
import Derived.Test.YtfjghemojnhmbaaGreatWkD
namespace Go.Proofs.YtfjghemojnhmbaaGreat
open Go.RowKit

/-- What a walk found. -/
structure Fnd where
  dm : Int
  dn : Int
  last : ByteArray
  am : Int
  an : Int
  has : Bool
  slash : Bool
def Fnd.cells (f : Fnd) : List Value := [.int .i64 f.dm, .int .i64 f.dn, .string f.last, .int .i64 f.am, .int .i64 f.an, .bool f.has, .bool f.slash]
def Fnd.val (f : Fnd) : Value := .agg #[.int .i64 f.dm, .int .i64 f.dn, .string f.last, .int .i64 f.am, .int .i64 f.an, .bool f.has, .bool f.slash]
def Fnd.zero : Fnd := ⟨0, 0, ⟨#[]⟩, 0, 0, false, false⟩
structure FndOk (T : List (Option Nd)) (f : Fnd) : Prop where
  dir : 0 ≤ f.dm ∧ f.dm ≤ 1000000 ∧ 0 ≤ f.dn ∧ f.dn ≤ 1000000
  last : f.last.size ≤ 5000
  at_ : f.has = true → PlaceOk T f.am f.an
theorem FndOk.zero (T : List (Option Nd)) : FndOk T Fnd.zero := ⟨by simp [Fnd.zero], Nat.zero_le 5000, fun h => by cases h⟩
/-- What Walk answers. -/
def WalkP (T : List (Option Nd)) (w : World) (e : Ending) (w' : World) : Prop := ∃ (f : Fnd) (code steps : Int), e = .returned (.tuple #[f.val, .int .i64 code, .int .i64 steps]) ∧ FndOk T f ∧ Below w.heap.size w w'
theorem found_out {fn : Func} {tmps : Array Value} {w : World} {S a b c : Nat} {f : Fnd} {z u : Value} (hr : fn.results = #[.cell a 128, .tmp b, .tmp c]) (h4 : tmps.getD a undef = .pointer (some ⟨S, 0, none⟩)) (h5 : tmps.getD b undef = z) (h6 : tmps.getD c undef = u)
    (h : Holds w S f.cells.toArray) : (results fn tmps).run Tryz.prog w = .ok (.tuple #[f.val, z, u]) w := by
  have v0 : w.cell? ⟨S, 0, none⟩ = some (.int .i64 f.dm) := h.cell 0
  have v1 : w.cell? ⟨S, 1, none⟩ = some (.int .i64 f.dn) := h.cell 1
  have v2 : w.cell? ⟨S, 2, none⟩ = some (.string f.last) := h.cell 2
  have v3 : w.cell? ⟨S, 3, none⟩ = some (.int .i64 f.am) := h.cell 3
  have v4 : w.cell? ⟨S, 4, none⟩ = some (.int .i64 f.an) := h.cell 4
  have v5 : w.cell? ⟨S, 5, none⟩ = some (.bool f.has) := h.cell 5
  have v6 : w.cell? ⟨S, 6, none⟩ = some (.bool f.slash) := h.cell 6
  unfold results
  rw [hr]
  have h4' : tmps[a]?.getD undef = .pointer (some ⟨S, 0, none⟩) := by rw [← h4]; simp
  have h5' : tmps[b]?.getD undef = z := by rw [← h5]; simp
  have h6' : tmps[c]?.getD undef = u := by rw [← h6]; simp
  simp [asAddr, h4', h5', h6', go_sem, v0, v1, v2, v3, v4, v5, v6, Fnd.val]
theorem walk_ret {T : List (Option Nd)} {w wr : World} {Z : Nat} {fn : Func} {tmps : Array Value} {f : Fnd} {code steps : Int} (hr : fn.results = #[.cell 14 128, .tmp 15, .tmp 16]) (h4 : tmps.getD 14 undef = .pointer (some ⟨Z, 0, none⟩)) (h5 : tmps.getD 15 undef = .int .i64 code) (h6 : tmps.getD 16 undef = .int .i64 steps)
    (h : Holds wr Z f.cells.toArray) (hf : FndOk T f) (hb : Below w.heap.size w wr) : bodyPost Tryz.prog fn (WalkP T w) .ret ⟨tmps, []⟩ wr :=
  bodyPost_ret (found_out hr h4 h5 h6 h) rfl ⟨f, code, steps, rfl, hf, hb⟩
/-- How many symlinks a walker followed; how many parts are left. -/
def folAt (w : World) (k : Nat) : Nat := match w.cell? ⟨k, 11, none⟩ with
  | some (.int _ n) => n.toNat
  | _ => 0
def leftAt (w : World) (k : Nat) : Nat := match w.cell? ⟨k, 8, none⟩ with
  | some (.slice _ n _) => n
  | _ => 0
theorem WS.mes {T : List (Option Nd)} {w0 w : World} {t tb k : Nat} {ps : List ByteArray} {x : Wk} (h : WS T w0 t tb k ps x w) : 6000 * (41 - folAt w k) + leftAt w k = 6000 * (41 - x.fol) + ps.length := by
  obtain ⟨a, c, hv⟩ := h.pt.1.value
  simp [folAt, leftAt, h.cs.c11, h.cs.c8, hv]
/-- What lies ready for a walk. -/
structure WlI (w : World) (A B C Z : Nat) (rm rn fm fn : Int) (cr : Cr) (wr : World) : Prop where
  bel : Below w.heap.size w wr
  ha : Holds wr A #[.int .i64 rm, .int .i64 rn]
  hb : Holds wr B #[.int .i64 fm, .int .i64 fn]
  hc : Holds wr C #[.int .i64 cr.u, .int .i64 cr.g]
  hz : Blk wr Z 128 Fnd.zero.cells.toArray
  wz : w.heap.size ≤ Z
theorem WlI.below {w wr w' : World} {A B C Z : Nat} {rm rn fm fn : Int} {cr : Cr} (h : WlI w A B C Z rm rn fm fn cr wr) (hb : Below wr.heap.size wr w') : WlI w A B C Z rm rn fm fn cr w' :=
  ⟨h.bel.trans (hb.mono h.bel.size), h.ha.below hb, h.hb.below hb, h.hc.below hb, h.hz.below hb, h.wz⟩
/-- What was found is laid down. -/
def fst7 (wr : World) (Z : Nat) (f : Fnd) : World := ((((((wr.setCell ⟨Z, 0, none⟩ (.int .i64 f.dm)).setCell ⟨Z, 1, none⟩ (.int .i64 f.dn)).setCell ⟨Z, 2, none⟩ (.string f.last)).setCell ⟨Z, 3, none⟩ (.int .i64 f.am)).setCell ⟨Z, 4, none⟩ (.int .i64 f.an)).setCell ⟨Z, 5, none⟩ (.bool f.has)).setCell ⟨Z, 6, none⟩ (.bool f.slash)
theorem fst7_far (wr : World) {Z k : Nat} (f : Fnd) (hk : ¬ Z = k) (j : Nat) : (fst7 wr Z f).cell? ⟨k, j, none⟩ = wr.cell? ⟨k, j, none⟩ := by
  have e : ∀ (X : World) (i : Nat) (u : Value), (X.setCell ⟨Z, i, none⟩ u).cell? ⟨k, j, none⟩ = X.cell? ⟨k, j, none⟩ := fun X i u => by
    have e0 : (X.setCell ⟨Z, i, none⟩ u).heap[k]? = X.heap[k]? := Below.heap_setCell _ _ _ _ (fun q => hk q.symm)
    simp only [World.cell?, e0]
  unfold fst7
  rw [e, e, e, e, e, e, e]
theorem WlI.set {w wr : World} {A B C Z : Nat} {rm rn fm fn : Int} {cr : Cr} {f : Fnd} (h : WlI w A B C Z rm rn fm fn cr wr) : Blk (fst7 wr Z f) Z 128 f.cells.toArray ∧ Below w.heap.size w (fst7 wr Z f) := by
  have hz := h.wz
  unfold fst7
  refine ⟨?_, ((((((h.bel.setCell hz _).setCell hz _).setCell hz _).setCell hz _).setCell hz _).setCell hz _).setCell hz _⟩
  have := ((((((h.hz.set 0 (.int .i64 f.dm)).set 1 (.int .i64 f.dn)).set 2 (.string f.last)).set 3 (.int .i64 f.am)).set 4 (.int .i64 f.an)).set 5 (.bool f.has)).set 6 (.bool f.slash)
  simpa [Fnd.zero, Fnd.cells] using this
theorem WlI.ret {w wr : World} {A B C Z : Nat} {rm rn fm fn : Int} {cr : Cr} {f : Fnd} (h : WlI w A B C Z rm rn fm fn cr wr) : Holds (fst7 wr Z f) Z f.cells.toArray ∧ Below w.heap.size w (fst7 wr Z f) := by
  obtain ⟨r1, r2⟩ := h.set (f := f)
  exact ⟨r1.holds, r2⟩
theorem cell_drew {w : World} {p : Addr} {v : Option Value} (h : w.cell? p = v) : w.drew.cell? p = v := h
theorem holds_drew {w : World} {b : Nat} {cs : Array Value} (h : Holds w b cs) : Holds w.drew b cs := ⟨h.cell, h.free, h.lt⟩
theorem fnd_cells {w : World} {Z : Nat} {f : Fnd} (h : Blk w Z 128 f.cells.toArray) : w.cell? ⟨Z, 0, none⟩ = some (.int .i64 f.dm) ∧ w.cell? ⟨Z, 1, none⟩ = some (.int .i64 f.dn) ∧ w.cell? ⟨Z, 2, none⟩ = some (.string f.last) ∧ w.cell? ⟨Z, 3, none⟩ = some (.int .i64 f.am) ∧ w.cell? ⟨Z, 4, none⟩ = some (.int .i64 f.an) ∧ w.cell? ⟨Z, 5, none⟩ = some (.bool f.has) ∧ w.cell? ⟨Z, 6, none⟩ = some (.bool f.slash) ∧ ∀ j, w.frozen? ⟨Z, j, none⟩ = false :=
  ⟨h.cell 0, h.cell 1, h.cell 2, h.cell 3, h.cell 4, h.cell 5, h.cell 6, h.free⟩
theorem fzero_cells {w : World} {Z : Nat} (h : Blk w Z 128 Fnd.zero.cells.toArray) : w.cell? ⟨Z, 0, none⟩ = some (.int .i64 0) ∧ w.cell? ⟨Z, 1, none⟩ = some (.int .i64 0) ∧ w.cell? ⟨Z, 2, none⟩ = some (.string ⟨#[]⟩) ∧ w.cell? ⟨Z, 3, none⟩ = some (.int .i64 0) ∧ w.cell? ⟨Z, 4, none⟩ = some (.int .i64 0) ∧ w.cell? ⟨Z, 5, none⟩ = some (.bool false) ∧ w.cell? ⟨Z, 6, none⟩ = some (.bool false) ∧ ∀ j, w.frozen? ⟨Z, j, none⟩ = false := fnd_cells h
set_option maxRecDepth 100000 in
set_option maxHeartbeats 4000000 in
theorem walk_any {S : Nat → Prop} {w : World} {t c : Nat} {bs : List Nat} {T : List (Option Nd)} {tb : Nat} {tv : Value} {l : List Mt} (hc : Ctx S w t c bs T tb tv l) (rm rn fm fn : Int) (hrn : R64 rn) (hfn : R64 fn) (cr : Cr) (path : ByteArray) (follow : Bool) :
    Calls Tryz.prog 48 #[.pointer (some ⟨t, 0, none⟩), .pointer (some ⟨tb, 0, none⟩), .agg #[.int .i64 rm, .int .i64 rn], .agg #[.int .i64 fm, .int .i64 fn], cr.val, .string path, .bool follow] w (WalkP T w) := by
  have HC := Lib.hid hc
  have HR := Lib.hid (And.intro hrn hfn)
  unfold Cr.val
  clear hc hrn hfn
  go_enter Tryz.func48, Tryz.ntmps48
  go_upto_region 1 with fail
  have H1 : Hid (WlI w w.heap.size (w.heap.size + 1) (w.heap.size + 1 + 1) (w.heap.size + 1 + 1 + 1) rm rn fm fn cr ((((w.alloc (.cells #[.int .i64 rm, .int .i64 rn] 75)).alloc (.cells #[.int .i64 fm, .int .i64 fn] 75)).alloc (.cells #[.int .i64 cr.u, .int .i64 cr.g] 56)).alloc (.cells #[.int .i64 0, .int .i64 0, .string ⟨#[]⟩, .int .i64 0, .int .i64 0, .bool false, .bool false] 128))) := Lib.hid
    ⟨((((Below.refl _ _).alloc (Nat.le_refl _) _).alloc (by simp) _).alloc (by simp; omega) _).alloc (by simp; omega) _, (((Holds.new _ _ _).alloc _).alloc _).alloc _, by simpa using ((Holds.new (w.alloc (.cells #[.int .i64 rm, .int .i64 rn] 75)) #[.int .i64 fm, .int .i64 fn] 75).alloc _).alloc _, by simpa using (Holds.new ((w.alloc (.cells #[.int .i64 rm, .int .i64 rn] 75)).alloc (.cells #[.int .i64 fm, .int .i64 fn] 75)) #[.int .i64 cr.u, .int .i64 cr.g] 56).alloc _, by simpa [Fnd.zero, Fnd.cells] using Blk.new (((w.alloc (.cells #[.int .i64 rm, .int .i64 rn] 75)).alloc (.cells #[.int .i64 fm, .int .i64 fn] 75)).alloc (.cells #[.int .i64 cr.u, .int .i64 cr.g] 56)) #[.int .i64 0, .int .i64 0, .string ⟨#[]⟩, .int .i64 0, .int .i64 0, .bool false, .bool false] 128, by omega⟩
  generalize (((w.alloc (.cells #[.int .i64 rm, .int .i64 rn] 75)).alloc (.cells #[.int .i64 fm, .int .i64 fn] 75)).alloc (.cells #[.int .i64 cr.u, .int .i64 cr.g] 56)).alloc (.cells #[.int .i64 0, .int .i64 0, .string ⟨#[]⟩, .int .i64 0, .int .i64 0, .bool false, .bool false] 128) = W at H1 ⊢
  generalize w.heap.size + 1 + 1 + 1 = Z at H1 ⊢
  generalize w.heap.size + 1 + 1 = C at H1 ⊢
  generalize w.heap.size + 1 = B at H1 ⊢
  obtain ⟨A, hA⟩ : ∃ A, w.heap.size = A := ⟨_, rfl⟩
  replace H1 : Hid (WlI w A B C Z rm rn fm fn cr W) := Lib.hid (by rw [← hA]; exact H1.out)
  rw [hA]
  clear hA
  have HP1 : Hid (∀ X, Below w.heap.size w X → Calls Tryz.prog 82 #[.pointer (some ⟨t, 0, none⟩), .pointer (some ⟨tb, 0, none⟩), .agg #[.int .i64 rm, .int .i64 rn]] X (PlaceP T rm rn X)) := Lib.hid fun X hX => place_any (HC.out.below hX) rm rn HR.out.1
  have HP2 : Hid (∀ X, Below w.heap.size w X → Calls Tryz.prog 82 #[.pointer (some ⟨t, 0, none⟩), .pointer (some ⟨tb, 0, none⟩), .agg #[.int .i64 fm, .int .i64 fn]] X (PlaceP T fm fn X)) := Lib.hid fun X hX => place_any (HC.out.below hX) fm fn HR.out.2
  have C1 := HP1.out W H1.out.bel
  have a0 : W.cell? ⟨A, 0, none⟩ = some (.int .i64 rm) := H1.out.ha.cell 0
  have a1 : W.cell? ⟨A, 1, none⟩ = some (.int .i64 rn) := H1.out.ha.cell 1
  go_upto_region 1 with fail
  go_cut [43] (fun v wx => ∃ bad : Bool, v = .bool bad ∧ (bad = false → PlaceOk T rm rn ∧ PlaceOk T fm fn) ∧ Hid (WlI w A B C Z rm rn fm fn cr wx))
  case first =>
    go_wp2_with (first | (go_at_call 82; (with_reducible refine C1.mono ?_); rintro e w2 ⟨hb, ok1, rfl, hok1⟩; have H2 := Lib.hid (H1.out.below hb); have HO1 := Lib.hid hok1; clear hb hok1; have C2 := HP2.out w2 H2.out.bel; have b0 : w2.cell? ⟨B, 0, none⟩ = some (.int .i64 fm) := H2.out.hb.cell 0; have b1 : w2.cell? ⟨B, 1, none⟩ = some (.int .i64 fn) := H2.out.hb.cell 1; cases ok1) | (go_at_call 82; (with_reducible refine C2.mono ?_); rintro e w3 ⟨hb, ok2, rfl, hok2⟩; have H3 := Lib.hid (H2.out.below hb); have HO2 := Lib.hid hok2; clear hb hok2))
    · go_meet
      exact ⟨true, rfl, (fun h => by cases h), H2⟩
    · go_meet
      exact ⟨!ok2, rfl, fun h => ⟨HO1.out trivial, HO2.out (by simpa using h)⟩, H3⟩
  case rest =>
    obtain ⟨bad, rfl, hbad, H3⟩ := hcut
    clear a0 a1 C1 H1
    cases bad
    case true =>
      obtain ⟨z0, z1, z2, z3, z4, z5, z6, zf⟩ := fzero_cells H3.out.hz
      go_wp2_with fail
      obtain ⟨r1, r2⟩ := H3.out.set (f := Fnd.zero)
      exact walk_ret rfl rfl rfl rfl r1.holds (.zero T) r2
    have HPL := Lib.hid (hbad rfl)
    clear hbad
    go_upto_region 3 with fail
    have C3 := read_any path wc
    go_upto_region 4 with (first | (go_at_call 83; (with_reducible refine C3.mono ?_); rintro e w5 ⟨r, sl, pv, ps, code, rfl, hpt, hpl, hb⟩; have H5 := Lib.hid (H3.out.below hb); have HP5 := Lib.hid (And.intro hpt (And.intro hpl H3.out.bel.size)); obtain ⟨pa, pc, rfl⟩ := hpt.1.value; clear hpt hpl hb))
    have H6 : Hid (WlI w A B C Z rm rn fm fn cr (w5.alloc (.cells #[.bool r, .bool sl, .slice pa ps.length pc] 164)) ∧ Holds (w5.alloc (.cells #[.bool r, .bool sl, .slice pa ps.length pc] 164)) w5.heap.size #[.bool r, .bool sl, .slice pa ps.length pc] ∧ Parts (w5.alloc (.cells #[.bool r, .bool sl, .slice pa ps.length pc] 164)) w.heap.size (.slice pa ps.length pc) ps ∧ ps.length ≤ 5000) := Lib.hid
      ⟨H5.out.below ((Below.refl _ _).alloc (Nat.le_refl _) _), Holds.new _ _ _, ⟨(HP5.out.1.below ((Below.refl _ _).alloc (Nat.le_refl _) _)).1.of_base HP5.out.2.2, HP5.out.1.2⟩, HP5.out.2.1⟩
    obtain ⟨P, hP⟩ : ∃ P, w5.heap.size = P := ⟨_, rfl⟩
    generalize w5.alloc (.cells #[.bool r, .bool sl, .slice pa ps.length pc] 164) = W6 at H6 ⊢
    rw [hP] at H6 ⊢
    clear hP C3
    obtain ⟨d, hd⟩ : ∃ d, decide (code = 0) = d := ⟨_, rfl⟩
    cases d
    case false =>
      have hcode : ¬ code = 0 := by simpa using hd
      obtain ⟨z0, z1, z2, z3, z4, z5, z6, zf⟩ := fzero_cells H6.out.1.hz
      go_wp2_with fail
      obtain ⟨r1, r2⟩ := H6.out.1.set (f := Fnd.zero)
      exact walk_ret rfl rfl rfl rfl r1.holds (.zero T) r2
    obtain rfl : code = 0 := by simpa using hd
    clear hd
    go_upto_region 6 with fail
    go_cut [19] (fun v wx => ∃ (k : Nat) (x : Wk) (w1 : World), v = .pointer (some ⟨k, 0, none⟩) ∧ Hid (WS T w1 t tb k ps x wx ∧ WlI w A B C Z rm rn fm fn cr w1 ∧ Holds w1 P #[.bool r, .bool sl, .slice pa ps.length pc]))
    case first =>
      have HQ : Hid (∀ X, Below W6.heap.size W6 X → X.cell? ⟨A, 0, none⟩ = some (.int .i64 rm) ∧ X.cell? ⟨A, 1, none⟩ = some (.int .i64 rn) ∧ X.cell? ⟨B, 0, none⟩ = some (.int .i64 fm) ∧ X.cell? ⟨B, 1, none⟩ = some (.int .i64 fn) ∧ X.cell? ⟨C, 0, none⟩ = some (.int .i64 cr.u) ∧ X.cell? ⟨C, 1, none⟩ = some (.int .i64 cr.g) ∧ X.cell? ⟨P, 1, none⟩ = some (.bool sl) ∧ X.cell? ⟨P, 2, none⟩ = some (.slice pa ps.length pc)) := Lib.hid fun X hX => ⟨(H6.out.1.below hX).ha.cell 0, (H6.out.1.below hX).ha.cell 1, (H6.out.1.below hX).hb.cell 0, (H6.out.1.below hX).hb.cell 1, (H6.out.1.below hX).hc.cell 0, (H6.out.1.below hX).hc.cell 1, (H6.out.2.1.below hX).cell 1, (H6.out.2.1.below hX).cell 2⟩
      have CR : Hid (∀ X, Below W6.heap.size W6 X → Calls Tryz.prog 84 #[.pointer (some ⟨tb, 0, none⟩), .agg #[.int .i64 rm, .int .i64 rn]] X (DownP l rm rn X)) := Lib.hid fun X hX => down_any S X tb tv l (HC.out.below (H6.out.1.below hX).bel).tab HC.out.mi rm rn
      have CF : Hid (∀ X, Below W6.heap.size W6 X → Calls Tryz.prog 84 #[.pointer (some ⟨tb, 0, none⟩), .agg #[.int .i64 fm, .int .i64 fn]] X (DownP l fm fn X)) := Lib.hid fun X hX => down_any S X tb tv l (HC.out.below (H6.out.1.below hX).bel).tab HC.out.mi fm fn
      have CR0 := CR.out W6.drew (Below.refl _ _).drew
      have CF0 := CF.out W6.drew (Below.refl _ _).drew
      obtain ⟨a0, a1, b0, b1, c0, c1, p1, p2⟩ := HQ.out W6 (Below.refl _ _)
      go_region_held3 (fun X => X.cell? ⟨A, 0, none⟩ = some (.int .i64 rm) ∧ X.cell? ⟨A, 1, none⟩ = some (.int .i64 rn) ∧ X.cell? ⟨B, 0, none⟩ = some (.int .i64 fm) ∧ X.cell? ⟨B, 1, none⟩ = some (.int .i64 fn) ∧ X.cell? ⟨C, 0, none⟩ = some (.int .i64 cr.u) ∧ X.cell? ⟨C, 1, none⟩ = some (.int .i64 cr.g) ∧ X.cell? ⟨P, 1, none⟩ = some (.bool sl) ∧ X.cell? ⟨P, 2, none⟩ = some (.slice pa ps.length pc)) (first | (refine HQ.out _ ?_; first | (with_reducible exact (Below.refl _ _).drew) | (with_reducible exact HB7.out) | (with_reducible exact HB8.out) | (with_reducible exact HB8.out.alloc HB8.out.size _))) (first | (go_at_call 84; (with_reducible refine CR0.mono ?_); rintro e w7 ⟨pm, pn, rfl, hb, hq⟩; have HB7 : Hid (Below W6.heap.size W6 w7) := Lib.hid ((Below.refl W6.heap.size W6).drew.trans hb); have Hp := Lib.hid hq; clear hb hq; have CF1 := CF.out w7 HB7.out) | (go_at_call 84; (with_reducible refine CF0.mono ?_); rintro e w7 ⟨qm, qn, rfl, hb, hq⟩; have HB7 : Hid (Below W6.heap.size W6 w7) := Lib.hid ((Below.refl W6.heap.size W6).drew.trans hb); have Hq := Lib.hid hq; clear hb hq; have CR1 := CR.out w7 HB7.out) | (go_at_call 84; (with_reducible refine CF1.mono ?_); rintro e w8 ⟨qm, qn, rfl, hb, hq⟩; have HB8 : Hid (Below W6.heap.size W6 w8) := Lib.hid (HB7.out.trans (hb.mono HB7.out.size)); have Hq := Lib.hid hq; clear hb hq) | (go_at_call 84; (with_reducible refine CR1.mono ?_); rintro e w8 ⟨pm, pn, rfl, hb, hq⟩; have HB8 : Hid (Below W6.heap.size W6 w8) := Lib.hid (HB7.out.trans (hb.mono HB7.out.size)); have Hp := Lib.hid hq; clear hb hq))
      all_goals
        go_wp2_with fail
        go_meet
        exact ⟨w8.heap.size, ⟨pm, pn, cr.u, cr.g, qm, qn, .slice pa ps.length pc, sl, follow, 0, 0, 0, 0, ⟨#[]⟩, 0, 0, false, false⟩, w8, rfl, Lib.hid ⟨⟨(Below.refl _ _).alloc (Nat.le_refl _) _, Blk.new _ _ _, Nat.le_refl _, ⟨(H6.out.2.2.1.below (HB8.out.alloc HB8.out.size _)).1.of_base (Nat.zero_le _), H6.out.2.2.1.2⟩, Hp.out.ok HC.out HPL.out.1, rfl, Hq.out.ok HC.out HPL.out.2, ⟨Int.le_refl 0, by show (0 : Int) ≤ 1000000; omega, Int.le_refl 0, by show (0 : Int) ≤ 1000000; omega⟩, Nat.zero_le 5000, Nat.zero_le 40, by have := H6.out.2.2.2; show ps.length ≤ 5000 * (0 + 1); omega⟩, H6.out.1.below HB8.out, H6.out.2.1.below HB8.out⟩⟩
    case rest =>
      obtain ⟨k, x, w1, rfl, H7⟩ := hcut
      have HC1 := Lib.hid (HC.out.below H7.out.2.1.bel)
      have HW := Lib.hid H7.out.2.1
      have p0 : wc.cell? ⟨P, 0, none⟩ = some (.bool r) := (H7.out.2.2.below H7.out.1.bel).cell 0
      replace H7 := Lib.hid H7.out.1
      clear H6 HC HPL HP5 H5 H3 HP1 HP2
      go_upto_if 71 with fail
      go_cut [] (fun wx => ∃ x : Wk, Hid (WS T w1 t tb k ps x wx))
      case first =>
        cases r
        · go_wp2_with fail
          go_meet
          exact ⟨x, H7⟩
        · have c2 : wc.cell? ⟨k, 2, none⟩ = some (.int .i64 x.rm) := H7.out.cs.c2
          have c3 : wc.cell? ⟨k, 3, none⟩ = some (.int .i64 x.rn) := H7.out.cs.c3
          have c6 : wc.cell? ⟨k, 6, none⟩ = some (.int .i64 x.am) := H7.out.cs.c6
          have c7 : wc.cell? ⟨k, 7, none⟩ = some (.int .i64 x.an) := H7.out.cs.c7
          have fr := H7.out.cs.fr
          go_wp2_with fail
          go_meet
          exact ⟨_, Lib.hid (((H7.out.m.set 6 (.int .i64 x.rm) { x with am := x.rm } (by simp [Wk.cells]) rfl).set 7 (.int .i64 x.rn) { x with am := x.rm, an := x.rn } (by simp [Wk.cells]) rfl).s ⟨H7.out.root, H7.out.nh, H7.out.root, H7.out.dir, H7.out.last, H7.out.fol, H7.out.len⟩)⟩
      case rest =>
        obtain ⟨x, H8⟩ := hcut
        have c6 : wc.cell? ⟨k, 6, none⟩ = some (.int .i64 x.am) := H8.out.cs.c6
        have c7 : wc.cell? ⟨k, 7, none⟩ = some (.int .i64 x.an) := H8.out.cs.c7
        have c13 : wc.cell? ⟨k, 13, none⟩ = some (.int .i64 x.dm) := H8.out.cs.c13
        have c14 : wc.cell? ⟨k, 14, none⟩ = some (.int .i64 x.dn) := H8.out.cs.c14
        have fr := H8.out.cs.fr
        clear H7 p0
        have H9 := Lib.hid (((H8.out.m.set 13 (.int .i64 x.am) { x with dm := x.am } (by simp [Wk.cells]) rfl).set 14 (.int .i64 x.an) { x with dm := x.am, dn := x.an } (by simp [Wk.cells]) rfl).s ⟨H8.out.root, H8.out.nh, H8.out.at_, by
          have h1 := H8.out.at_
          have h2 := h1.2.2.rg
          have h3 := HC1.out.tl
          exact ⟨h1.1, h1.2.1, by show 0 ≤ x.an; omega, by show x.an ≤ 1000000; omega⟩, H8.out.last, H8.out.fol, H8.out.len⟩)
        go_wp2_with fail
        generalize (wc.setCell ⟨k, 13, none⟩ (.int .i64 x.am)).setCell ⟨k, 14, none⟩ (.int .i64 x.an) = W9 at H9 ⊢
        clear c6 c7 c13 c14 fr H8
        go_loopw [] (fun wr => ∃ (x : Wk) (ps : List ByteArray), Hid (WS T w1 t tb k ps x wr)) (fun wr => 6000 * (41 - folAt wr k) + leftAt wr k)
        case atStart => exact ⟨_, _, H9⟩
        case round =>
          clear H9
          obtain ⟨x, ps, H9⟩ := hrel
          have HWr := Lib.hid (HW.out.below H9.out.bel)
          have HCr := Lib.hid (HC1.out.below H9.out.bel)
          have hm9 := H9.out.mes
          have HM9 := Lib.hid hm9
          clear hm9
          have nZk : ¬ Z = k := by have := HW.out.hz.lt; have := H9.out.kb; omega
          obtain ⟨va, vc, hv⟩ := H9.out.pt.1.value
          have c8 : wr.cell? ⟨k, 8, none⟩ = some (.slice va ps.length vc) := by have := H9.out.cs.c8; rw [hv] at this; exact this
          cases ps with
          | cons q ps =>
            have q1 : (0 : Int) < ((q :: ps).length : Int) := by simp only [List.length_cons]; omega
            have C9 := wpart_any HC1.out H9.out
            clear hv
            go_upto_region 12 with (first | (go_at_call 85; (with_reducible refine C9.mono ?_); rintro e w2 ⟨code, over, x2, ps2, rfl, hs, hmm⟩; have H2 := Lib.hid hs; have HMM := Lib.hid hmm; clear hs hmm))
            obtain ⟨d, hd⟩ : ∃ d, decide (code = 0) = d := ⟨_, rfl⟩
            have H2W := Lib.hid (HW.out.below H2.out.bel)
            obtain ⟨z0, z1, z2, z3, z4, z5, z6, zf⟩ := fzero_cells H2W.out.hz
            have c12 : w2.cell? ⟨k, 12, none⟩ = some (.int .i64 x2.steps) := H2.out.cs.c12
            cases d
            case false =>
              have hcode : ¬ code = 0 := by simpa using hd
              go_upto_region 13 with fail
              have HQ : Hid (w2.drew.cell? ⟨k, 12, none⟩ = some (.int .i64 x2.steps)) := Lib.hid c12
              have HQ2 : Hid ((fst7 w2 Z Fnd.zero).cell? ⟨k, 12, none⟩ = some (.int .i64 x2.steps)) := Lib.hid ((fst7_far _ _ nZk _).trans c12)
              unfold fst7 Fnd.zero at HQ2
              have HQ3 := Lib.hid (cell_drew HQ2.out)
              go_region_held3 (fun X => X.cell? ⟨k, 12, none⟩ = some (.int .i64 x2.steps)) (first | (with_reducible exact HQ.out) | (with_reducible exact HQ2.out) | (with_reducible exact HQ3.out)) (fail)
              all_goals
                go_wp2_with fail
                exact walk_ret rfl rfl rfl rfl (holds_drew (H2W.out.ret (f := Fnd.zero)).1) (.zero T) (H2W.out.ret (f := Fnd.zero)).2.drew
            obtain rfl : code = 0 := by simpa using hd
            cases over
            case true =>
              have c6 : w2.cell? ⟨k, 9, none⟩ = some (.bool x2.slash) := H2.out.cs.c9
              have c19 : w2.cell? ⟨k, 19, none⟩ = some (.bool x2.fsl) := H2.out.cs.c19
              have fr := H2.out.cs.fr
              go_upto_region 16 with fail
              clear z0 z1 z2 z3 z4 z5 z6 zf c12 c6 c19 fr hd
              have H3 := Lib.hid (H2.out.m.set 19 (.bool x2.slash) { x2 with fsl := x2.slash } (by simp [Wk.cells]) rfl)
              have HF3 : Hid (FndOk T ⟨x2.dm, x2.dn, x2.last, x2.fm, x2.fn, x2.has, x2.slash⟩) := Lib.hid ⟨H2.out.dir, H2.out.last, fun h => by have := H2.out.nh; simp only at h; rw [h] at this; cases this⟩
              generalize w2.setCell ⟨k, 19, none⟩ (.bool x2.slash) = W3 at H3 ⊢
              replace H2W := Lib.hid (HW.out.below H3.out.bel)
              obtain ⟨z0, z1, z2, z3, z4, z5, z6, zf⟩ := fzero_cells H2W.out.hz
              have d0 := H3.out.cs.c13
              have d1 := H3.out.cs.c14
              have d2 := H3.out.cs.c15
              have d3 := H3.out.cs.c16
              have d4 := H3.out.cs.c17
              have d5 := H3.out.cs.c18
              have d6 := H3.out.cs.c19
              have d7 := H3.out.cs.c12
              simp only at d0 d1 d2 d3 d4 d5 d6 d7
              have HQ : Hid ((fun X => X.cell? ⟨k, 13, none⟩ = some (.int .i64 x2.dm) ∧ X.cell? ⟨k, 14, none⟩ = some (.int .i64 x2.dn) ∧ X.cell? ⟨k, 15, none⟩ = some (.string x2.last) ∧ X.cell? ⟨k, 16, none⟩ = some (.int .i64 x2.fm) ∧ X.cell? ⟨k, 17, none⟩ = some (.int .i64 x2.fn) ∧ X.cell? ⟨k, 18, none⟩ = some (.bool x2.has) ∧ X.cell? ⟨k, 19, none⟩ = some (.bool x2.slash) ∧ X.cell? ⟨k, 12, none⟩ = some (.int .i64 x2.steps)) W3) := Lib.hid ⟨d0, d1, d2, d3, d4, d5, d6, d7⟩
              have HQ1 : Hid ((fun X => X.cell? ⟨k, 13, none⟩ = some (.int .i64 x2.dm) ∧ X.cell? ⟨k, 14, none⟩ = some (.int .i64 x2.dn) ∧ X.cell? ⟨k, 15, none⟩ = some (.string x2.last) ∧ X.cell? ⟨k, 16, none⟩ = some (.int .i64 x2.fm) ∧ X.cell? ⟨k, 17, none⟩ = some (.int .i64 x2.fn) ∧ X.cell? ⟨k, 18, none⟩ = some (.bool x2.has) ∧ X.cell? ⟨k, 19, none⟩ = some (.bool x2.slash) ∧ X.cell? ⟨k, 12, none⟩ = some (.int .i64 x2.steps)) W3.drew) := Lib.hid ⟨d0, d1, d2, d3, d4, d5, d6, d7⟩
              have HQ3 : Hid ((fun X => X.cell? ⟨k, 13, none⟩ = some (.int .i64 x2.dm) ∧ X.cell? ⟨k, 14, none⟩ = some (.int .i64 x2.dn) ∧ X.cell? ⟨k, 15, none⟩ = some (.string x2.last) ∧ X.cell? ⟨k, 16, none⟩ = some (.int .i64 x2.fm) ∧ X.cell? ⟨k, 17, none⟩ = some (.int .i64 x2.fn) ∧ X.cell? ⟨k, 18, none⟩ = some (.bool x2.has) ∧ X.cell? ⟨k, 19, none⟩ = some (.bool x2.slash) ∧ X.cell? ⟨k, 12, none⟩ = some (.int .i64 x2.steps)) (fst7 W3 Z ⟨x2.dm, x2.dn, x2.last, x2.fm, x2.fn, x2.has, x2.slash⟩)) := Lib.hid ⟨(fst7_far _ _ nZk _).trans d0, (fst7_far _ _ nZk _).trans d1, (fst7_far _ _ nZk _).trans d2, (fst7_far _ _ nZk _).trans d3, (fst7_far _ _ nZk _).trans d4, (fst7_far _ _ nZk _).trans d5, (fst7_far _ _ nZk _).trans d6, (fst7_far _ _ nZk _).trans d7⟩
              have HQ4 : Hid ((fun X => X.cell? ⟨k, 13, none⟩ = some (.int .i64 x2.dm) ∧ X.cell? ⟨k, 14, none⟩ = some (.int .i64 x2.dn) ∧ X.cell? ⟨k, 15, none⟩ = some (.string x2.last) ∧ X.cell? ⟨k, 16, none⟩ = some (.int .i64 x2.fm) ∧ X.cell? ⟨k, 17, none⟩ = some (.int .i64 x2.fn) ∧ X.cell? ⟨k, 18, none⟩ = some (.bool x2.has) ∧ X.cell? ⟨k, 19, none⟩ = some (.bool x2.slash) ∧ X.cell? ⟨k, 12, none⟩ = some (.int .i64 x2.steps)) (fst7 W3 Z ⟨x2.dm, x2.dn, x2.last, x2.fm, x2.fn, x2.has, x2.slash⟩).drew) := Lib.hid (by obtain ⟨q0, q1, q2, q3, q4, q5, q6, q7⟩ := HQ3.out; exact ⟨cell_drew q0, cell_drew q1, cell_drew q2, cell_drew q3, cell_drew q4, cell_drew q5, cell_drew q6, cell_drew q7⟩)
              unfold fst7 at HQ3 HQ4
              dsimp only at HQ3 HQ4
              go_region_held3 (fun X => X.cell? ⟨k, 13, none⟩ = some (.int .i64 x2.dm) ∧ X.cell? ⟨k, 14, none⟩ = some (.int .i64 x2.dn) ∧ X.cell? ⟨k, 15, none⟩ = some (.string x2.last) ∧ X.cell? ⟨k, 16, none⟩ = some (.int .i64 x2.fm) ∧ X.cell? ⟨k, 17, none⟩ = some (.int .i64 x2.fn) ∧ X.cell? ⟨k, 18, none⟩ = some (.bool x2.has) ∧ X.cell? ⟨k, 19, none⟩ = some (.bool x2.slash) ∧ X.cell? ⟨k, 12, none⟩ = some (.int .i64 x2.steps)) (first | (with_reducible exact HQ.out) | (with_reducible exact HQ1.out) | (with_reducible exact HQ3.out) | (with_reducible exact HQ4.out)) (fail)
              all_goals
                go_wp2_with fail
                exact walk_ret rfl rfl rfl rfl (holds_drew (H2W.out.ret (f := ⟨x2.dm, x2.dn, x2.last, x2.fm, x2.fn, x2.has, x2.slash⟩)).1) HF3.out (H2W.out.ret (f := ⟨x2.dm, x2.dn, x2.last, x2.fm, x2.fn, x2.has, x2.slash⟩)).2.drew
            case false =>
              clear hd z0 z1 z2 z3 z4 z5 z6 zf c12
              go_wp2_with fail
              go_roundw
              case rel => exact ⟨x2, ps2, H2⟩
              case measure =>
                rw [H2.out.mes, HM9.out]
                exact HMM.out rfl rfl
          | nil =>
            have q1 : ¬ (0 : Int) < (([] : List ByteArray).length : Int) := by simp
            clear hv
            have CS : Calls Tryz.prog 86 #[.pointer (some ⟨t, 0, none⟩), .int .i64 x.an] wr (StatP T x.an wr) := by
              obtain ⟨M, p, v, ht⟩ := HCr.out.tr
              obtain ⟨R, hi⟩ := HCr.out.inv
              exact stat_any ht (by have := HCr.out.cc; omega) hi.el x.an (H9.out.at_.r64 HCr.out)
            have c7 : wr.cell? ⟨k, 7, none⟩ = some (.int .i64 x.an) := H9.out.cs.c7
            go_upto_region 17 with fail
            go_upto_region 18 with (first | (go_at_call 86; (with_reducible refine CS.mono ?_); rintro e w2 ⟨hb, hs⟩; have H2 := Lib.hid (And.intro (H9.out.below hb) hb); clear hb; obtain ⟨ok, s, rfl⟩ : ∃ (ok : Bool) (s : Stt), e = .returned (.tuple #[s.val, .bool ok]) := (by rcases hs with ⟨_, rfl⟩ | ⟨i, x, lk, sz, _, hx, _, _, rfl⟩ <;> exact ⟨_, _, rfl⟩); clear hs; unfold Stt.val) | fail)
            have H3 : Hid (WS T w1 t tb k [] x (w2.alloc (.cells #[.int .i64 s.node, .int .i64 s.kind, .int .i64 s.mode, .int .i64 s.uid, .int .i64 s.gid, .int .i64 s.links, .int .i64 s.size] 38)) ∧ Holds (w2.alloc (.cells #[.int .i64 s.node, .int .i64 s.kind, .int .i64 s.mode, .int .i64 s.uid, .int .i64 s.gid, .int .i64 s.links, .int .i64 s.size] 38)) w2.heap.size #[.int .i64 s.node, .int .i64 s.kind, .int .i64 s.mode, .int .i64 s.uid, .int .i64 s.gid, .int .i64 s.links, .int .i64 s.size]) := Lib.hid ⟨H2.out.1.below ((Below.refl _ _).alloc (Nat.le_refl _) _), Holds.new _ _ _⟩
            clear H2 CS c7 c8
            obtain ⟨SB, hSB⟩ : ∃ SB, w2.heap.size = SB := ⟨_, rfl⟩
            generalize w2.alloc (.cells #[.int .i64 s.node, .int .i64 s.kind, .int .i64 s.mode, .int .i64 s.uid, .int .i64 s.gid, .int .i64 s.links, .int .i64 s.size] 38) = W3 at H3 ⊢
            rw [hSB] at H3 ⊢
            clear hSB
            have k1 : W3.cell? ⟨SB, 1, none⟩ = some (.int .i64 s.kind) := H3.out.2.cell 1
            have H4 := Lib.hid H3.out.1
            clear H3
            have c9 : W3.cell? ⟨k, 9, none⟩ = some (.bool x.slash) := H4.out.cs.c9
            have c12 : W3.cell? ⟨k, 12, none⟩ = some (.int .i64 x.steps) := H4.out.cs.c12
            obtain ⟨sl, hsl⟩ : ∃ sl, x.slash = sl := ⟨_, rfl⟩
            rw [hsl] at c9
            obtain ⟨kd, hkd⟩ : ∃ kd, (s.kind != 1) = kd := ⟨_, rfl⟩
            by_cases hbad : sl = true ∧ kd = true
            · obtain ⟨rfl, rfl⟩ := hbad
              have H2W := Lib.hid (HW.out.below H4.out.bel)
              obtain ⟨z0, z1, z2, z3, z4, z5, z6, zf⟩ := fzero_cells H2W.out.hz
              go_upto_region 19 with fail
              have HQ : Hid (W3.drew.cell? ⟨k, 12, none⟩ = some (.int .i64 x.steps)) := Lib.hid c12
              have HQ2 : Hid ((fst7 W3 Z Fnd.zero).cell? ⟨k, 12, none⟩ = some (.int .i64 x.steps)) := Lib.hid ((fst7_far _ _ nZk _).trans c12)
              unfold fst7 Fnd.zero at HQ2
              have HQ3 := Lib.hid (cell_drew HQ2.out)
              go_region_held3 (fun X => X.cell? ⟨k, 12, none⟩ = some (.int .i64 x.steps)) (first | (with_reducible exact HQ.out) | (with_reducible exact HQ2.out) | (with_reducible exact HQ3.out)) (fail)
              all_goals
                go_wp2_with fail
                exact walk_ret rfl rfl rfl rfl (holds_drew (H2W.out.ret (f := Fnd.zero)).1) (.zero T) (H2W.out.ret (f := Fnd.zero)).2.drew
            have HW3 : Hid (sl = false ∨ (sl = true ∧ kd = false)) := Lib.hid (by cases sl <;> cases kd <;> simp at hbad ⊢)
            clear hbad
            rcases HW3.out with rfl | ⟨rfl, rfl⟩
            all_goals
              go_upto_region 20 with fail
              clear HW3
              rw [← hsl] at c9
              clear k1 hsl hkd
              have c6 : W3.cell? ⟨k, 6, none⟩ = some (.int .i64 x.am) := H4.out.cs.c6
              have c7 : W3.cell? ⟨k, 7, none⟩ = some (.int .i64 x.an) := H4.out.cs.c7
              have c16 : W3.cell? ⟨k, 16, none⟩ = some (.int .i64 x.fm) := H4.out.cs.c16
              have c17 : W3.cell? ⟨k, 17, none⟩ = some (.int .i64 x.fn) := H4.out.cs.c17
              have c18 : W3.cell? ⟨k, 18, none⟩ = some (.bool x.has) := H4.out.cs.c18
              have c19 : W3.cell? ⟨k, 19, none⟩ = some (.bool x.fsl) := H4.out.cs.c19
              have fr := H4.out.cs.fr
              have H5 := Lib.hid ((((H4.out.m.set 16 (.int .i64 x.am) { x with fm := x.am } (by simp [Wk.cells]) rfl).set 17 (.int .i64 x.an) { x with fm := x.am, fn := x.an } (by simp [Wk.cells]) rfl).set 18 (.bool true) { x with fm := x.am, fn := x.an, has := true } (by simp [Wk.cells]) rfl).set 19 (.bool x.slash) { x with fm := x.am, fn := x.an, has := true, fsl := x.slash } (by simp [Wk.cells]) rfl)
              have HF5 : Hid (x.last.size ≤ 5000 ∧ PlaceOk T x.am x.an ∧ (0 ≤ x.dm ∧ x.dm ≤ 1000000 ∧ 0 ≤ x.dn ∧ x.dn ≤ 1000000) ∧ 0 ≤ x.an ∧ x.an ≤ 1000000) := Lib.hid ⟨H4.out.last, H4.out.at_, H4.out.dir, by have h2 := H4.out.at_.2.2.rg; omega, by have h2 := H4.out.at_.2.2.rg; have h3 := HC1.out.tl; omega⟩
              go_upto_region 23 with fail
              generalize (((W3.setCell ⟨k, 16, none⟩ (.int .i64 x.am)).setCell ⟨k, 17, none⟩ (.int .i64 x.an)).setCell ⟨k, 18, none⟩ (.bool true)).setCell ⟨k, 19, none⟩ (.bool x.slash) = W6 at H5 ⊢
              clear c6 c7 c16 c17 c18 c19 fr c9 c12 H4
              have c6 : W6.cell? ⟨k, 6, none⟩ = some (.int .i64 x.am) := H5.out.cs.c6
              have c7 : W6.cell? ⟨k, 7, none⟩ = some (.int .i64 x.an) := H5.out.cs.c7
              have c13 : W6.cell? ⟨k, 13, none⟩ = some (.int .i64 x.dm) := H5.out.cs.c13
              have c14 : W6.cell? ⟨k, 14, none⟩ = some (.int .i64 x.dn) := H5.out.cs.c14
              have c15 : W6.cell? ⟨k, 15, none⟩ = some (.string x.last) := H5.out.cs.c15
              have fr := H5.out.cs.fr
              go_upto_if 172 with fail
              go_cut [] (fun wx => ∃ y : Wk, Hid (WM w1 t tb k [] y wx ∧ FndOk T ⟨y.dm, y.dn, y.last, y.fm, y.fn, y.has, y.fsl⟩))
              case first =>
                have R1 : Hid (FndOk T ⟨x.dm, x.dn, x.last, x.am, x.an, true, x.slash⟩) := Lib.hid ⟨HF5.out.2.2.1, HF5.out.1, fun _ => HF5.out.2.1⟩
                have R2 : Hid (FndOk T ⟨x.am, x.an, x.last, x.am, x.an, true, x.slash⟩) := Lib.hid ⟨⟨HF5.out.2.1.1, HF5.out.2.1.2.1, HF5.out.2.2.2⟩, HF5.out.1, fun _ => HF5.out.2.1⟩
                have P2 : Hid (WM w1 t tb k [] { x with fm := x.am, fn := x.an, has := true, fsl := x.slash, dm := x.am, dn := x.an } ((W6.setCell ⟨k, 13, none⟩ (.int .i64 x.am)).setCell ⟨k, 14, none⟩ (.int .i64 x.an))) := Lib.hid ((H5.out.set 13 (.int .i64 x.am) { x with fm := x.am, fn := x.an, has := true, fsl := x.slash, dm := x.am } (by simp [Wk.cells]) rfl).set 14 (.int .i64 x.an) { x with fm := x.am, fn := x.an, has := true, fsl := x.slash, dm := x.am, dn := x.an } (by simp [Wk.cells]) rfl)
                go_wp2_with fail
                all_goals
                  go_meet
                  first
                    | with_reducible exact ⟨_, Lib.hid ⟨H5.out, R1.out⟩⟩
                    | with_reducible exact ⟨_, Lib.hid ⟨P2.out, R2.out⟩⟩
              case rest =>
                clear c6 c7 c13 c14 c15 fr H5 HF5
                obtain ⟨y, H6⟩ := hcut
                go_upto_region 25 with fail
                have H7 := Lib.hid H6.out.1
                have HF7 := Lib.hid H6.out.2
                clear H6
                replace H2W := Lib.hid (HW.out.below H7.out.bel)
                obtain ⟨z0, z1, z2, z3, z4, z5, z6, zf⟩ := fzero_cells H2W.out.hz
                have d0 := H7.out.cs.c13
                have d1 := H7.out.cs.c14
                have d2 := H7.out.cs.c15
                have d3 := H7.out.cs.c16
                have d4 := H7.out.cs.c17
                have d5 := H7.out.cs.c18
                have d6 := H7.out.cs.c19
                have d7 := H7.out.cs.c12
                have HQ : Hid ((fun X => X.cell? ⟨k, 13, none⟩ = some (.int .i64 y.dm) ∧ X.cell? ⟨k, 14, none⟩ = some (.int .i64 y.dn) ∧ X.cell? ⟨k, 15, none⟩ = some (.string y.last) ∧ X.cell? ⟨k, 16, none⟩ = some (.int .i64 y.fm) ∧ X.cell? ⟨k, 17, none⟩ = some (.int .i64 y.fn) ∧ X.cell? ⟨k, 18, none⟩ = some (.bool y.has) ∧ X.cell? ⟨k, 19, none⟩ = some (.bool y.fsl) ∧ X.cell? ⟨k, 12, none⟩ = some (.int .i64 y.steps)) wc) := Lib.hid ⟨d0, d1, d2, d3, d4, d5, d6, d7⟩
                have HQ1 : Hid ((fun X => X.cell? ⟨k, 13, none⟩ = some (.int .i64 y.dm) ∧ X.cell? ⟨k, 14, none⟩ = some (.int .i64 y.dn) ∧ X.cell? ⟨k, 15, none⟩ = some (.string y.last) ∧ X.cell? ⟨k, 16, none⟩ = some (.int .i64 y.fm) ∧ X.cell? ⟨k, 17, none⟩ = some (.int .i64 y.fn) ∧ X.cell? ⟨k, 18, none⟩ = some (.bool y.has) ∧ X.cell? ⟨k, 19, none⟩ = some (.bool y.fsl) ∧ X.cell? ⟨k, 12, none⟩ = some (.int .i64 y.steps)) wc.drew) := Lib.hid ⟨d0, d1, d2, d3, d4, d5, d6, d7⟩
                have HQ3 : Hid ((fun X => X.cell? ⟨k, 13, none⟩ = some (.int .i64 y.dm) ∧ X.cell? ⟨k, 14, none⟩ = some (.int .i64 y.dn) ∧ X.cell? ⟨k, 15, none⟩ = some (.string y.last) ∧ X.cell? ⟨k, 16, none⟩ = some (.int .i64 y.fm) ∧ X.cell? ⟨k, 17, none⟩ = some (.int .i64 y.fn) ∧ X.cell? ⟨k, 18, none⟩ = some (.bool y.has) ∧ X.cell? ⟨k, 19, none⟩ = some (.bool y.fsl) ∧ X.cell? ⟨k, 12, none⟩ = some (.int .i64 y.steps)) (fst7 wc Z ⟨y.dm, y.dn, y.last, y.fm, y.fn, y.has, y.fsl⟩)) := Lib.hid ⟨(fst7_far _ _ nZk _).trans d0, (fst7_far _ _ nZk _).trans d1, (fst7_far _ _ nZk _).trans d2, (fst7_far _ _ nZk _).trans d3, (fst7_far _ _ nZk _).trans d4, (fst7_far _ _ nZk _).trans d5, (fst7_far _ _ nZk _).trans d6, (fst7_far _ _ nZk _).trans d7⟩
                have HQ4 : Hid ((fun X => X.cell? ⟨k, 13, none⟩ = some (.int .i64 y.dm) ∧ X.cell? ⟨k, 14, none⟩ = some (.int .i64 y.dn) ∧ X.cell? ⟨k, 15, none⟩ = some (.string y.last) ∧ X.cell? ⟨k, 16, none⟩ = some (.int .i64 y.fm) ∧ X.cell? ⟨k, 17, none⟩ = some (.int .i64 y.fn) ∧ X.cell? ⟨k, 18, none⟩ = some (.bool y.has) ∧ X.cell? ⟨k, 19, none⟩ = some (.bool y.fsl) ∧ X.cell? ⟨k, 12, none⟩ = some (.int .i64 y.steps)) (fst7 wc Z ⟨y.dm, y.dn, y.last, y.fm, y.fn, y.has, y.fsl⟩).drew) := Lib.hid (by obtain ⟨q0, q1, q2, q3, q4, q5, q6, q7⟩ := HQ3.out; exact ⟨cell_drew q0, cell_drew q1, cell_drew q2, cell_drew q3, cell_drew q4, cell_drew q5, cell_drew q6, cell_drew q7⟩)
                unfold fst7 at HQ3 HQ4
                dsimp only at HQ3 HQ4
                go_region_held3 (fun X => X.cell? ⟨k, 13, none⟩ = some (.int .i64 y.dm) ∧ X.cell? ⟨k, 14, none⟩ = some (.int .i64 y.dn) ∧ X.cell? ⟨k, 15, none⟩ = some (.string y.last) ∧ X.cell? ⟨k, 16, none⟩ = some (.int .i64 y.fm) ∧ X.cell? ⟨k, 17, none⟩ = some (.int .i64 y.fn) ∧ X.cell? ⟨k, 18, none⟩ = some (.bool y.has) ∧ X.cell? ⟨k, 19, none⟩ = some (.bool y.fsl) ∧ X.cell? ⟨k, 12, none⟩ = some (.int .i64 y.steps)) (first | (with_reducible exact HQ.out) | (with_reducible exact HQ1.out) | (with_reducible exact HQ3.out) | (with_reducible exact HQ4.out)) (fail)
                all_goals
                  go_wp2_with fail
                  exact walk_ret rfl rfl rfl rfl (holds_drew (H2W.out.ret (f := ⟨y.dm, y.dn, y.last, y.fm, y.fn, y.has, y.fsl⟩)).1) HF7.out (H2W.out.ret (f := ⟨y.dm, y.dn, y.last, y.fm, y.fn, y.has, y.fsl⟩)).2.drew
end Go.Proofs.YtfjghemojnhmbaaGreat
