/- Paths are written. -/
import Derived.Laws.Concat
import Derived.Test.YtfjghemojnhmbaaGreatFt
import Derived.Test.YtfjghemojnhmbaaGreatTrM
namespace Go.Proofs.YtfjghemojnhmbaaGreat
open Go.RowKit

/-- Some string, with new memory alone. -/
def StrP (w : World) (e : Ending) (w' : World) : Prop := ∃ s : ByteArray, e = .returned (.string s) ∧ s.size ≤ 2000000000 ∧ Below w.heap.size w w'
set_option maxRecDepth 100000 in
theorem pwrite_any (w : World) (r sl : Bool) (v : Value) (base : Nat) (ps : List ByteArray) (h : Win w base 9 1 v ps.length (strs ps)) (hp : ∀ p ∈ ps, p.size ≤ 5000) (hl : ps.length ≤ 300000) : Calls Tryz.prog 123 #[.agg #[.bool r, .bool sl, v]] w (StrP w) := by
  have HB : Hid (Below w.heap.size w (w.alloc (.cells #[.bool r, .bool sl, v] 164))) := Lib.hid ((Below.refl _ _).alloc (Nat.le_refl _) _)
  have HZ := Lib.hid (Holds.new w #[.bool r, .bool sl, v] 164)
  have HW := Lib.hid (h.alloc (.cells #[.bool r, .bool sl, v] 164))
  have HP := Lib.hid hp
  obtain ⟨va, vc, rfl⟩ := h.value
  clear h hp
  go_enter Tryz.func123, Tryz.ntmps123
  go_upto_region 2 with fail
  generalize w.alloc (.cells #[.bool r, .bool sl, .slice va ps.length vc] 164) = W at *
  obtain ⟨Z, hZ⟩ : ∃ Z, w.heap.size = Z := ⟨_, rfl⟩
  have HZZ := Lib.hid hZ
  rw [hZ] at HZ ⊢
  clear hZ
  have z0 : W.cell? ⟨Z, 0, none⟩ = some (.bool r) := HZ.out.cell 0
  have z1 : W.cell? ⟨Z, 1, none⟩ = some (.bool sl) := HZ.out.cell 1
  have z2 : W.cell? ⟨Z, 2, none⟩ = some (.slice va ps.length vc) := HZ.out.cell 2
  cases r
  all_goals
    go_wp2_with fail
    go_loopw [4, 3] (fun iv sv wr => ∃ (i : Nat) (s : ByteArray), i ≤ ps.length ∧ s.size ≤ 1 + i * 5001 ∧ iv = .int .i64 i ∧ sv = .string s ∧ wr = W) (fun iv _ _ => ps.length - (intOf iv).toNat)
    case atStart => exact ⟨0, _, by omega, by decide, rfl, rfl, rfl⟩
    case round =>
      obtain ⟨i, s, hi, hs, rfl, rfl, rfl⟩ := hrel
      by_cases hlt : i < ps.length
      · have k0 : (0 : Int) ≤ (i : Int) := by omega
        have k1 : (i : Int) < (ps.length : Int) := by omega
        obtain ⟨f, o, cap, hv⟩ := HW.out.form (by omega)
        cases hv
        have hc := HW.out.cells i (by omega)
        have hpi : ps[i]? = some ps[i] := List.getElem?_eq_getElem hlt
        have hsz := HP.out _ (List.getElem_mem hlt)
        replace hc : wr.cell? ⟨f, o + i, none⟩ = some (.string ps[i]) := by rw [hc, strs, List.getElem?_map, hpi]; rfl
        generalize ps[i] = q at hc hsz
        by_cases h0 : i = 0
        · subst h0
          have k2 : ¬ (0 : Int) < ((0 : Nat) : Int) := by omega
          rw [Nat.add_zero] at hc
          have h1 : s.size + q.size ≤ 9223372036854775807 := by omega
          go_wp2_with fail
          go_roundw
          case rel => exact ⟨0 + 1, s ++ q, by omega, by simp; omega, by go_num, rfl, by first | trivial | rfl⟩
          case measure => simp [intOf]; omega
        · have k2 : (0 : Int) < (i : Int) := by omega
          have e1 : (⟨#[47]⟩ : ByteArray).size = 1 := by decide
          have h0' : s.size + (⟨#[47]⟩ : ByteArray).size ≤ 9223372036854775807 := by omega
          have h1 : (s ++ ⟨#[47]⟩).size + q.size ≤ 9223372036854775807 := by simp; omega
          go_wp2_with fail
          go_roundw
          case rel => exact ⟨i + 1, (s ++ ⟨#[47]⟩) ++ q, by omega, by simp; omega, by go_num, rfl, by first | trivial | rfl⟩
          case measure => simp [intOf]; omega
      · have k1 : ¬ (i : Int) < (ps.length : Int) := by omega
        have e1 : (⟨#[47]⟩ : ByteArray).size = 1 := by decide
        have h0' : s.size + (⟨#[47]⟩ : ByteArray).size ≤ 9223372036854775807 := by omega
        by_cases hz : 0 < ps.length
        · have k3 : (0 : Int) < (ps.length : Int) := by omega
          cases sl
          · go_wp2_with fail
            go_ret
            exact ⟨s, rfl, by omega, HB.out⟩
          · go_wp2_with fail
            go_ret
            exact ⟨s ++ ⟨#[47]⟩, rfl, by simp; omega, HB.out⟩
        · have k3 : ¬ (0 : Int) < (ps.length : Int) := by omega
          cases sl
          · go_wp2_with fail
            go_ret
            exact ⟨s, rfl, by omega, HB.out⟩
          · go_wp2_with fail
            go_ret
            exact ⟨s, rfl, by omega, HB.out⟩
end Go.Proofs.YtfjghemojnhmbaaGreat
/- Walks: what they stand on; is it a place? -/
namespace Go.Proofs.YtfjghemojnhmbaaGreat
open Go.RowKit

/-- A live node's number; a live Dir's. -/
def Liv (T : List (Option Nd)) (n : Int) : Prop := ∃ (i : Nat) (x : Nd), n = (i : Int) + 1 ∧ T[i]? = some (some x)
def LivD (T : List (Option Nd)) (n : Int) : Prop := ∃ (i : Nat) (x : Nd), n = (i : Int) + 1 ∧ T[i]? = some (some x) ∧ x.kind = 1
theorem LivD.liv {T : List (Option Nd)} {n : Int} (h : LivD T n) : Liv T n := by obtain ⟨i, x, h1, h2, _⟩ := h; exact ⟨i, x, h1, h2⟩
/-- Mounts lead to live Dirs, and lie at such. -/
def ML (T : List (Option Nd)) (l : List Mt) : Prop := ∀ (i : Nat) (x : Mt), l[i]? = some x → x.live = true → LivD T x.node ∧ 0 ≤ x.am ∧ x.am ≤ 1000000 ∧ (1 ≤ i → LivD T x.an)
/-- The tree and the mounts, as a walk finds them. -/
structure Ctx (S : Nat → Prop) (w : World) (t c : Nat) (bs : List Nat) (T : List (Option Nd)) (tb : Nat) (tv : Value) (l : List Mt) : Prop where
  tr : TR S w t c bs T
  inv : ∃ R, TInv T R none
  tab : TabAt S w tb tv l
  mi : MInv l
  ml : ML T l
  cc : c ≤ 99000
theorem Ctx.below {S : Nat → Prop} {w w' : World} {t c : Nat} {bs : List Nat} {T : List (Option Nd)} {tb : Nat} {tv : Value} {l : List Mt} (h : Ctx S w t c bs T tb tv l) (hb : Below w.heap.size w w') : Ctx S w' t c bs T tb tv l :=
  ⟨h.tr.below hb, h.inv, h.tab.below hb, h.mi, h.ml, h.cc⟩
theorem Ctx.tl {S : Nat → Prop} {w : World} {t c : Nat} {bs : List Nat} {T : List (Option Nd)} {tb : Nat} {tv : Value} {l : List Mt} (h : Ctx S w t c bs T tb tv l) : T.length ≤ 99000 := by
  obtain ⟨M, p, v, ht⟩ := h.tr
  exact Nat.le_trans ht.tl h.cc
theorem Liv.rg {T : List (Option Nd)} {n : Int} (h : Liv T n) : 1 ≤ n ∧ n ≤ T.length := by
  obtain ⟨i, x, rfl, hx⟩ := h
  have := (List.getElem?_eq_some_iff.1 hx).1
  omega
/-- A place that a walk may stand at. -/
def PlaceOk (T : List (Option Nd)) (m n : Int) : Prop := 0 ≤ m ∧ m ≤ 1000000 ∧ Liv T n
theorem PlaceOk.r64 {S : Nat → Prop} {w : World} {t c : Nat} {bs : List Nat} {T : List (Option Nd)} {tb : Nat} {tv : Value} {l : List Mt} (hc : Ctx S w t c bs T tb tv l) {m n : Int} (h : PlaceOk T m n) : R64 n := by
  have h1 := h.2.2.rg
  have h2 := hc.tl
  exact ⟨by omega, by omega⟩
theorem DownQ.ok {S : Nat → Prop} {w : World} {t c : Nat} {bs : List Nat} {T : List (Option Nd)} {tb : Nat} {tv : Value} {l : List Mt} (hc : Ctx S w t c bs T tb tv l) {pm pn qm qn : Int} (h : DownQ l pm pn qm qn) (hp : PlaceOk T pm pn) : PlaceOk T qm qn := by
  rcases h with ⟨rfl, rfl⟩ | ⟨i, x, rfl, h1, hx, hl, rfl⟩
  · exact hp
  · have := (List.getElem?_eq_some_iff.1 hx).1
    have := hc.tab.le
    exact ⟨by omega, by omega, (hc.ml i x hx hl).1.liv⟩
theorem DownQ.okD {S : Nat → Prop} {w : World} {t c : Nat} {bs : List Nat} {T : List (Option Nd)} {tb : Nat} {tv : Value} {l : List Mt} (hc : Ctx S w t c bs T tb tv l) {pm pn qm qn : Int} (h : DownQ l pm pn qm qn) (hp : LivD T pn) : LivD T qn := by
  rcases h with ⟨rfl, rfl⟩ | ⟨i, x, rfl, h1, hx, hl, rfl⟩
  · exact hp
  · exact (hc.ml i x hx hl).1
/-- What Place answers. -/
def PlaceP (T : List (Option Nd)) (m n : Int) (w : World) (e : Ending) (w' : World) : Prop := Below w.heap.size w w' ∧ ∃ r : Bool, e = .returned (.bool r) ∧ (r = true → PlaceOk T m n)
set_option maxRecDepth 100000 in
theorem place_any {S : Nat → Prop} {w : World} {t c : Nat} {bs : List Nat} {T : List (Option Nd)} {tb : Nat} {tv : Value} {l : List Mt} (h : Ctx S w t c bs T tb tv l) (m n : Int) (hn : R64 n) :
    Calls Tryz.prog 82 #[.pointer (some ⟨t, 0, none⟩), .pointer (some ⟨tb, 0, none⟩), .agg #[.int .i64 m, .int .i64 n]] w (PlaceP T m n w) := by
  have HB : Hid (Below w.heap.size w (w.alloc (.cells #[.int .i64 m, .int .i64 n] 75))) := Lib.hid ((Below.refl _ _).alloc (Nat.le_refl _) _)
  have HP := Lib.hid (Holds.new w #[.int .i64 m, .int .i64 n] 75)
  have HC := Lib.hid (h.below HB.out)
  clear h
  go_enter Tryz.func82, Tryz.ntmps82
  go_upto_region 1 with fail
  generalize w.alloc (.cells #[.int .i64 m, .int .i64 n] 75) = W at *
  obtain ⟨P, hP⟩ : ∃ P, w.heap.size = P := ⟨_, rfl⟩
  rw [hP] at HP ⊢
  clear hP
  obtain ⟨p0, p1, pf⟩ := two_cells HP.out
  have C1 : Calls Tryz.prog 86 #[.pointer (some ⟨t, 0, none⟩), .int .i64 n] W (StatP T n W) := by
    obtain ⟨M, p, v, ht⟩ := HC.out.tr
    obtain ⟨R, hi⟩ := HC.out.inv
    exact stat_any ht (by have := HC.out.cc; omega) hi.el n hn
  go_wp2_with fail
  refine C1.mono ?_
  rintro e w1 ⟨hb1, hs⟩
  have H1 := Lib.hid (And.intro (HB.out.trans (hb1.mono HB.out.size)) (And.intro (HC.out.below hb1) (HP.out.below hb1)))
  clear hb1 C1
  obtain ⟨ok, s, rfl, hok⟩ : ∃ (ok : Bool) (s : Stt), e = .returned (.tuple #[s.val, .bool ok]) ∧ (ok = true → Liv T n) := by
    rcases hs with ⟨_, rfl⟩ | ⟨i, x, lk, sz, rfl, hx, _, _, rfl⟩
    · exact ⟨false, _, rfl, fun h => by cases h⟩
    · exact ⟨true, _, rfl, fun _ => ⟨i, x, rfl, hx⟩⟩
  have HO := Lib.hid hok
  clear hs hok
  unfold Stt.val
  go_upto_region 2 with fail
  have H2 := Lib.hid (And.intro (H1.out.1.alloc H1.out.1.size (.cells #[.int .i64 s.node, .int .i64 s.kind, .int .i64 s.mode, .int .i64 s.uid, .int .i64 s.gid, .int .i64 s.links, .int .i64 s.size] 38)) (And.intro (H1.out.2.1.below ((Below.refl w1.heap.size w1).alloc (Nat.le_refl _) (.cells #[.int .i64 s.node, .int .i64 s.kind, .int .i64 s.mode, .int .i64 s.uid, .int .i64 s.gid, .int .i64 s.links, .int .i64 s.size] 38))) (H1.out.2.2.alloc (.cells #[.int .i64 s.node, .int .i64 s.kind, .int .i64 s.mode, .int .i64 s.uid, .int .i64 s.gid, .int .i64 s.links, .int .i64 s.size] 38))))
  generalize w1.alloc (.cells #[.int .i64 s.node, .int .i64 s.kind, .int .i64 s.mode, .int .i64 s.uid, .int .i64 s.gid, .int .i64 s.links, .int .i64 s.size] 38) = W2 at H2 ⊢
  clear p0 p1 pf
  obtain ⟨p0, p1, pf⟩ := two_cells H2.out.2.2
  have C2 := root_any S W2 tb tv l H2.out.2.1.tab m
  go_wp2_with fail
  refine C2.mono ?_
  rintro e w3 ⟨rfl, ⟨hm, rfl⟩ | ⟨i, x, rfl, hx, hl, rfl⟩⟩
  · clear hm
    cases ok
    · go_wp2_with fail
      go_ret
      exact ⟨H2.out.1, _, rfl, fun h => by cases h⟩
    · go_wp2_with fail
      go_ret
      exact ⟨H2.out.1, _, rfl, fun h => by cases h⟩
  · have HX := Lib.hid hx
    clear hx hl
    cases ok
    · go_wp2_with fail
      go_ret
      exact ⟨H2.out.1, _, rfl, fun h => by cases h⟩
    · go_wp2_with fail
      go_ret
      refine ⟨H2.out.1, _, rfl, fun _ => ⟨by omega, ?_, HO.out trivial⟩⟩
      have := (List.getElem?_eq_some_iff.1 HX.out).1
      have := H2.out.2.1.tab.le
      omega
end Go.Proofs.YtfjghemojnhmbaaGreat
/- Walks: the walker; the place above. -/
namespace Go.Proofs.YtfjghemojnhmbaaGreat
open Go.RowKit

/-- A walker. -/
structure Wk where
  rm : Int
  rn : Int
  cu : Int
  cg : Int
  am : Int
  an : Int
  lv : Value
  slash : Bool
  follow : Bool
  fol : Nat
  steps : Int
  dm : Int
  dn : Int
  last : ByteArray
  fm : Int
  fn : Int
  has : Bool
  fsl : Bool
def Wk.cells (x : Wk) (t tb : Nat) : Array Value := #[.pointer (some ⟨t, 0, none⟩), .pointer (some ⟨tb, 0, none⟩), .int .i64 x.rm, .int .i64 x.rn, .int .i64 x.cu, .int .i64 x.cg, .int .i64 x.am, .int .i64 x.an, x.lv, .bool x.slash, .bool x.follow, .int .i64 (x.fol : Int), .int .i64 x.steps, .int .i64 x.dm, .int .i64 x.dn, .string x.last, .int .i64 x.fm, .int .i64 x.fn, .bool x.has, .bool x.fsl]
/-- A walk under way: the walker at k, the parts that are left. -/
structure WS (T : List (Option Nd)) (w0 : World) (t tb k : Nat) (ps : List ByteArray) (x : Wk) (w : World) : Prop where
  bel : Below w0.heap.size w0 w
  blk : Blk w k 170 (x.cells t tb)
  kb : w0.heap.size ≤ k
  pt : Parts w 0 x.lv ps
  root : PlaceOk T x.rm x.rn
  nh : x.has = false
  at_ : PlaceOk T x.am x.an
  dir : 0 ≤ x.dm ∧ x.dm ≤ 1000000 ∧ 0 ≤ x.dn ∧ x.dn ≤ 1000000
  last : x.last.size ≤ 5000
  fol : x.fol ≤ 40
  len : ps.length ≤ 5000 * (x.fol + 1)
theorem WS.below {T : List (Option Nd)} {w0 w w' : World} {t tb k : Nat} {ps : List ByteArray} {x : Wk} (h : WS T w0 t tb k ps x w) (hb : Below w.heap.size w w') : WS T w0 t tb k ps x w' :=
  ⟨h.bel.trans (hb.mono h.bel.size), h.blk.below hb, h.kb, h.pt.below hb, h.root, h.nh, h.at_, h.dir, h.last, h.fol, h.len⟩
/-- A walker's cells. -/
structure WkC (w : World) (k t tb : Nat) (x : Wk) : Prop where
  c0 : w.cell? ⟨k, 0, none⟩ = some (.pointer (some ⟨t, 0, none⟩))
  c1 : w.cell? ⟨k, 1, none⟩ = some (.pointer (some ⟨tb, 0, none⟩))
  c2 : w.cell? ⟨k, 2, none⟩ = some (.int .i64 x.rm)
  c3 : w.cell? ⟨k, 3, none⟩ = some (.int .i64 x.rn)
  c4 : w.cell? ⟨k, 4, none⟩ = some (.int .i64 x.cu)
  c5 : w.cell? ⟨k, 5, none⟩ = some (.int .i64 x.cg)
  c6 : w.cell? ⟨k, 6, none⟩ = some (.int .i64 x.am)
  c7 : w.cell? ⟨k, 7, none⟩ = some (.int .i64 x.an)
  c8 : w.cell? ⟨k, 8, none⟩ = some x.lv
  c9 : w.cell? ⟨k, 9, none⟩ = some (.bool x.slash)
  c10 : w.cell? ⟨k, 10, none⟩ = some (.bool x.follow)
  c11 : w.cell? ⟨k, 11, none⟩ = some (.int .i64 (x.fol : Int))
  c12 : w.cell? ⟨k, 12, none⟩ = some (.int .i64 x.steps)
  c13 : w.cell? ⟨k, 13, none⟩ = some (.int .i64 x.dm)
  c14 : w.cell? ⟨k, 14, none⟩ = some (.int .i64 x.dn)
  c15 : w.cell? ⟨k, 15, none⟩ = some (.string x.last)
  c16 : w.cell? ⟨k, 16, none⟩ = some (.int .i64 x.fm)
  c17 : w.cell? ⟨k, 17, none⟩ = some (.int .i64 x.fn)
  c18 : w.cell? ⟨k, 18, none⟩ = some (.bool x.has)
  c19 : w.cell? ⟨k, 19, none⟩ = some (.bool x.fsl)
  fr : ∀ j, w.frozen? ⟨k, j, none⟩ = false
theorem WS.cs {T : List (Option Nd)} {w0 w : World} {t tb k : Nat} {ps : List ByteArray} {x : Wk} (h : WS T w0 t tb k ps x w) : WkC w k t tb x := by
  have b := h.blk
  exact ⟨b.cell 0, b.cell 1, b.cell 2, b.cell 3, b.cell 4, b.cell 5, b.cell 6, b.cell 7, b.cell 8, b.cell 9, b.cell 10, b.cell 11, b.cell 12, b.cell 13, b.cell 14, b.cell 15, b.cell 16, b.cell 17, b.cell 18, b.cell 19, b.free⟩
/-- A step up from a mount's root. -/
theorem UpP.ok {S : Nat → Prop} {w : World} {t c : Nat} {bs : List Nat} {T : List (Option Nd)} {tb : Nat} {tv : Value} {l : List Mt} (hc : Ctx S w t c bs T tb tv l) {i : Nat} {x : Mt} (h1 : 1 ≤ i) (hx : l[i]? = some x) (hl : x.live = true) : PlaceOk T x.am x.an ∧ LivD T x.an ∧ 0 ≤ x.am ∧ x.am < i := by
  obtain ⟨q1, q2, q3, q4⟩ := hc.ml i x hx hl
  have q5 := hc.mi i x h1 hx hl
  exact ⟨⟨q2, q3, (q4 h1).liv⟩, q4 h1, q5.1, q5.2⟩
/-- What stands while dotdot goes up. -/
structure DdI (T : List (Option Nd)) (w wr : World) (P Z k t tb : Nat) (x : Wk) (pm pn : Int) : Prop where
  bel : Below w.heap.size w wr
  hp : Holds wr P #[.int .i64 pm, .int .i64 pn]
  hz : Holds wr Z #[.int .i64 0, .int .i64 0]
  ze : w.heap.size = Z
  pe : Z < P
  pl : PlaceOk T pm pn
  dir : LivD T pn
  wk : WkC wr k t tb x
theorem WkC.below {w w' : World} {k t tb B : Nat} {x : Wk} (h : WkC w k t tb x) (hk : k < B) (hb : Below B w w') : WkC w' k t tb x := by
  have e : ∀ j, w'.cell? ⟨k, j, none⟩ = w.cell? ⟨k, j, none⟩ := fun j => hb.cell (p := ⟨k, j, none⟩) hk
  exact ⟨(e _).trans h.c0, (e _).trans h.c1, (e _).trans h.c2, (e _).trans h.c3, (e _).trans h.c4, (e _).trans h.c5, (e _).trans h.c6, (e _).trans h.c7, (e _).trans h.c8, (e _).trans h.c9, (e _).trans h.c10, (e _).trans h.c11, (e _).trans h.c12, (e _).trans h.c13, (e _).trans h.c14, (e _).trans h.c15, (e _).trans h.c16, (e _).trans h.c17, (e _).trans h.c18, (e _).trans h.c19, fun j => (hb.frozen (p := ⟨k, j, none⟩) hk).trans (h.fr j)⟩
theorem DdI.below {T : List (Option Nd)} {w wr w' : World} {P Z k t tb : Nat} {x : Wk} {pm pn : Int} (h : DdI T w wr P Z k t tb x pm pn) (hk : k < w.heap.size) (hb : Below wr.heap.size wr w') : DdI T w w' P Z k t tb x pm pn :=
  ⟨h.bel.trans (hb.mono h.bel.size), h.hp.below hb, h.hz.below hb, h.ze, h.pe, h.pl, h.dir, h.wk.below (Nat.lt_of_lt_of_le hk h.bel.size) hb⟩
theorem DdI.next {T : List (Option Nd)} {w wr : World} {P Z k t tb : Nat} {x : Wk} {pm pn qm qn : Int} (h : DdI T w wr P Z k t tb x pm pn) (hk : k < w.heap.size) (hq : PlaceOk T qm qn) (hd : LivD T qn) :
    DdI T w ((wr.setCell ⟨P, 0, none⟩ (.int .i64 qm)).setCell ⟨P, 1, none⟩ (.int .i64 qn)) P Z k t tb x qm qn := by
  have hz := h.ze
  have hp := h.pe
  have b : Below w.heap.size wr ((wr.setCell ⟨P, 0, none⟩ (.int .i64 qm)).setCell ⟨P, 1, none⟩ (.int .i64 qn)) := ((Below.refl _ _).setCell (by simp; omega) _).setCell (by simp; omega) _
  exact ⟨h.bel.trans b, by simpa using (h.hp.set 0 (.int .i64 qm) (by simp)).set 1 (.int .i64 qn) (by simp), (h.hz.other (by simp; omega) _).other (by simp; omega) _, hz, hp, hq, hd, h.wk.below hk b⟩
/-- What Up answers, once more. -/
def Up2P (l : List Mt) (pm : Int) (w : World) (e : Ending) (w' : World) : Prop := ∃ (qm qn : Int) (ok : Bool), e = .returned (.tuple #[.agg #[.int .i64 qm, .int .i64 qn], .bool ok]) ∧ Below w.heap.size w w' ∧ (ok = true → ∃ (i : Nat) (y : Mt), pm = i ∧ 1 ≤ i ∧ l[i]? = some y ∧ y.live = true ∧ qm = y.am ∧ qn = y.an)
theorem up2_any (S : Nat → Prop) (w : World) (tb : Nat) (v : Value) (l : List Mt) (h : TabAt S w tb v l) (pm pn : Int) : Calls Tryz.prog 121 #[.pointer (some ⟨tb, 0, none⟩), .agg #[.int .i64 pm, .int .i64 pn]] w (Up2P l pm w) := by
  refine (up_any S w tb v l h pm pn).mono ?_
  rintro e w' ⟨hb, rfl | ⟨i, y, e1, e2, e3, e4, rfl⟩⟩
  · exact ⟨_, _, false, rfl, hb, fun h => by cases h⟩
  · exact ⟨_, _, true, rfl, hb, fun _ => ⟨i, y, e1, e2, e3, e4, rfl, rfl⟩⟩
/-- The place above a live Dir is live. -/
theorem uptd_any {S : Nat → Prop} {w : World} {t c : Nat} {bs : List Nat} {T : List (Option Nd)} {tb : Nat} {tv : Value} {l : List Mt} (h : Ctx S w t c bs T tb tv l) {n : Int} (hn : LivD T n) : Calls Tryz.prog 122 #[.pointer (some ⟨t, 0, none⟩), .int .i64 n] w fun e w' => ∃ n' : Int, e = .returned (.int .i64 n') ∧ Liv T n' ∧ w' = w := by
  obtain ⟨M, p, v, ht⟩ := h.tr
  obtain ⟨R, hi⟩ := h.inv
  have hr := hn.liv.rg
  have htl := h.tl
  refine (upt_any ht (by have := h.cc; omega) n ⟨by omega, by omega⟩).mono ?_
  obtain ⟨i, x, rfl, hx, hk⟩ := hn
  rintro e w' ⟨rfl, ⟨hl, rfl⟩ | ⟨y, hy, hky, rfl⟩⟩
  · exact absurd hk (hl x (lv_of hx))
  · rw [lv_of hx] at hy; cases hy
    refine ⟨_, rfl, ?_, rfl⟩
    rcases hi.up i x hx (by simp) hk with e | ⟨j, y, s, e1, e2, _⟩
    · exact ⟨i, x, by omega, hx⟩
    · exact ⟨j, y, by omega, e2⟩
/-- Are two places one? -/
theorem run_eql_place (a b c d : Int) (w : World) : (binOp .eql 75 (.agg #[.int .i64 a, .int .i64 b]) (.agg #[.int .i64 c, .int .i64 d])).run Tryz.prog w = .ok (.bool (decide (a = c) && decide (b = d))) w := by
  by_cases h1 : a = c <;> by_cases h2 : b = d <;> simp [go_sem, h1, h2]
attribute [local go_sem ↓] run_eql_place
/-- What dotdot answers. -/
def DotP (T : List (Option Nd)) (w : World) (e : Ending) (w' : World) : Prop := ∃ qm qn : Int, e = .returned (.agg #[.int .i64 qm, .int .i64 qn]) ∧ PlaceOk T qm qn ∧ Below w.heap.size w w'
theorem DdI.ret {T : List (Option Nd)} {w wr : World} {P Z k t tb : Nat} {x : Wk} {pm pn qm qn : Int} (h : DdI T w wr P Z k t tb x pm pn) (hq : PlaceOk T qm qn) {tmps : Array Value} (h4 : tmps.getD 2 undef = .pointer (some ⟨Z, 0, none⟩)) :
    bodyPost Tryz.prog Tryz.f114 (DotP T w) .ret ⟨tmps, []⟩ ((wr.setCell ⟨Z, 0, none⟩ (.int .i64 qm)).setCell ⟨Z, 1, none⟩ (.int .i64 qn)) := by
  obtain ⟨q1, q2⟩ := Mt.at_least h.hz h.bel (by rw [h.ze]; exact Nat.le_refl _) (.int .i64 qm) (.int .i64 qn)
  exact place_ret rfl h4 q1 ⟨qm, qn, rfl, hq, q2⟩
set_option maxRecDepth 100000 in
set_option maxHeartbeats 1000000 in
theorem dotdot_any {S : Nat → Prop} {w0 w : World} {t c : Nat} {bs : List Nat} {T : List (Option Nd)} {tb : Nat} {tv : Value} {l : List Mt} {k : Nat} {ps : List ByteArray} {x : Wk} (hc : Ctx S w0 t c bs T tb tv l) (h : WS T w0 t tb k ps x w) (hd : LivD T x.an) :
    Calls Tryz.prog 114 #[.pointer (some ⟨k, 0, none⟩)] w (DotP T w) := by
  have kl : k < w.heap.size := h.blk.lt
  have HC : Hid (Ctx S w t c bs T tb tv l) := Lib.hid (by
    obtain ⟨M, p, v, ht⟩ := hc.tr
    have hb := h.bel
    exact ⟨⟨M, p, v, ht.below hb⟩, hc.inv, hc.tab.below hb, hc.mi, hc.ml, hc.cc⟩)
  have HO : Hid (DdI T w ((w.alloc (.cells #[.int .i64 0, .int .i64 0] 75)).alloc (.cells #[.int .i64 x.am, .int .i64 x.an] 75)) (w.heap.size + 1) w.heap.size k t tb x x.am x.an) := Lib.hid
    ⟨((Below.refl _ _).alloc (Nat.le_refl _) _).alloc (by simp) _, by simpa using Holds.new (w.alloc (.cells #[.int .i64 0, .int .i64 0] 75)) #[.int .i64 x.am, .int .i64 x.an] 75, (Holds.new _ _ _).alloc _, rfl, by omega, h.at_, hd, h.cs.below kl (((Below.refl _ _).alloc (Nat.le_refl _) _).alloc (by simp) _)⟩
  have HR := Lib.hid h.root
  have HK := Lib.hid kl
  have c6 := h.cs.c6
  have c7 := h.cs.c7
  have nk : ¬ k = w.heap.size := by omega
  have nk2 : ¬ k = w.heap.size + 1 := by omega
  clear h hd hc
  go_enter Tryz.func114, Tryz.ntmps114
  go_upto_region 2 with fail
  generalize (w.alloc (.cells #[.int .i64 0, .int .i64 0] 75)).alloc (.cells #[.int .i64 x.am, .int .i64 x.an] 75) = W at HO ⊢
  obtain ⟨Z, hZ⟩ : ∃ Z, w.heap.size = Z := ⟨_, rfl⟩
  obtain ⟨P, hP⟩ : ∃ P, Z + 1 = P := ⟨_, rfl⟩
  rw [hZ] at HO ⊢
  rw [hP] at HO ⊢
  clear hZ hP c6 c7 nk nk2
  have p0 : W.cell? ⟨P, 0, none⟩ = some (.int .i64 x.am) := HO.out.hp.cell 0
  have p1 : W.cell? ⟨P, 1, none⟩ = some (.int .i64 x.an) := HO.out.hp.cell 1
  have c2 := HO.out.wk.c2
  have c3 := HO.out.wk.c3
  go_quiet (fail)
  have HO := Lib.hid (HO.out.below HK.out (below_drewN (Below.refl _ _) nq))
  generalize W.drewN nq = V at HO ⊢
  clear p0 p1 c2 c3
  have p0 : V.cell? ⟨P, 0, none⟩ = some (.int .i64 x.am) := HO.out.hp.cell 0
  have p1 : V.cell? ⟨P, 1, none⟩ = some (.int .i64 x.an) := HO.out.hp.cell 1
  obtain ⟨z0, z1, zf⟩ := two_cells HO.out.hz
  go_wp2_with fail
  · exact HO.out.ret HR.out rfl
  clear p0 p1 z0 z1 zf
  go_loopw [] (fun wr => ∃ pm pn : Int, Hid (DdI T w wr P Z k t tb x pm pn)) (fun wr => (intAt wr P).toNat)
  case atStart => exact ⟨x.am, x.an, HO⟩
  case round =>
    obtain ⟨pm, pn, HI⟩ := hrel
    have c1 := HI.out.wk.c1
    have p0 : wr.cell? ⟨P, 0, none⟩ = some (.int .i64 pm) := HI.out.hp.cell 0
    have p1 : wr.cell? ⟨P, 1, none⟩ = some (.int .i64 pn) := HI.out.hp.cell 1
    have hint := intAt_of p0
    have HCw := Lib.hid (HC.out.below HI.out.bel)
    have C1 := up2_any S wr.drew tb tv l (HCw.out.below (Below.refl _ _).drew).tab pm pn
    have HBA : Hid (Below wr.heap.size wr (wr.alloc (.cells #[.int .i64 0, .int .i64 0] 75)).drew) := Lib.hid ((Below.refl _ _).alloc (Nat.le_refl _) _).drew
    have C1a := up2_any S (wr.alloc (.cells #[.int .i64 0, .int .i64 0] 75)).drew tb tv l (HCw.out.below HBA.out).tab pm pn
    have HSX : Hid (∀ X, Below wr.heap.size wr X → X.cell? ⟨k, 1, none⟩ = some (.pointer (some ⟨tb, 0, none⟩)) ∧ X.cell? ⟨P, 0, none⟩ = some (.int .i64 pm) ∧ X.cell? ⟨P, 1, none⟩ = some (.int .i64 pn)) := Lib.hid fun X hX => by
      have := HI.out.below HK.out hX
      exact ⟨this.wk.c1, this.hp.cell 0, this.hp.cell 1⟩
    go_upto_region 4 with fail
    go_region_held3 (fun X => X.cell? ⟨k, 1, none⟩ = some (.pointer (some ⟨tb, 0, none⟩)) ∧ X.cell? ⟨P, 0, none⟩ = some (.int .i64 pm) ∧ X.cell? ⟨P, 1, none⟩ = some (.int .i64 pn)) (first | exact ⟨c1, p0, p1⟩ | exact HSX.out _ HBA.out | exact HSX.out _ HB2.out | exact HSX.out _ (HB2.out.alloc HB2.out.size _) | exact HSX.out _ ((HB2.out.setCell (Nat.le_refl _) _).setCell (Nat.le_refl _) _) | exact HSX.out _ (((HB2.out.alloc HB2.out.size _).setCell HB2.out.size _).setCell HB2.out.size _)) (first | (go_at_call 121; (with_reducible refine C1.mono ?_); rintro e w2 ⟨qm, qn, ok, rfl, hb2, hq⟩; have HB2 : Hid (Below wr.heap.size wr w2) := Lib.hid ((Below.refl wr.heap.size wr).drew.trans hb2); have HQ := Lib.hid hq; clear hb2 hq) | (go_at_call 121; (with_reducible refine C1a.mono ?_); rintro e w2 ⟨qm, qn, ok, rfl, hb2, hq⟩; have HB2 : Hid (Below wr.heap.size wr w2) := Lib.hid (HBA.out.trans (hb2.mono HBA.out.size)); have HQZ := Lib.hid ((Holds.new wr #[.int .i64 0, .int .i64 0] 75).drew.below hb2); have HQ := Lib.hid hq; clear hb2 hq; obtain ⟨g0, g1, gf⟩ := two_cells HQZ.out))
    · have HV : Hid (Below wr.heap.size wr (w2.alloc (.cells #[.int .i64 qm, .int .i64 qn] 75)) ∧ Holds (w2.alloc (.cells #[.int .i64 qm, .int .i64 qn] 75)) w2.heap.size #[.int .i64 qm, .int .i64 qn] ∧ wr.heap.size ≤ w2.heap.size) := Lib.hid ⟨HB2.out.alloc HB2.out.size _, Holds.new _ _ _, HB2.out.size⟩
      obtain ⟨Q, hQ⟩ : ∃ Q, w2.heap.size = Q := ⟨_, rfl⟩
      generalize w2.alloc (.cells #[.int .i64 qm, .int .i64 qn] 75) = V at HV ⊢
      rw [hQ] at HV ⊢
      clear hQ
      have HD := Lib.hid (HI.out.below HK.out HV.out.1)
      have HZQ : Hid (Z < Q ∧ P < Q) := Lib.hid (by
        have h1 := HV.out.2.2
        have h2 := HI.out.bel.size
        have h3 := HI.out.ze
        have h4 := HI.out.pe
        have h5 := HI.out.hp.lt
        omega)
      clear p0 p1 c1
      obtain ⟨q0, q1, qf⟩ := two_cells HV.out.2.1
      obtain ⟨z0, z1, zf⟩ := two_cells HD.out.hz
      have c1 := HD.out.wk.c1
      have c2 := HD.out.wk.c2
      have c3 := HD.out.wk.c3
      cases ok
      · have c0 := HD.out.wk.c0
        have p0 : V.cell? ⟨P, 0, none⟩ = some (.int .i64 pm) := HD.out.hp.cell 0
        have p1 : V.cell? ⟨P, 1, none⟩ = some (.int .i64 pn) := HD.out.hp.cell 1
        clear q0 q1 qf
        have C2 := uptd_any ((HCw.out.below HV.out.1).below (Below.refl _ _).drew) HD.out.dir
        have C3 := fun (n : Int) => down_any S V.drew tb tv l ((HCw.out.below HV.out.1).below (Below.refl _ _).drew).tab HC.out.mi pm n
        have C3 := Lib.hid C3
        have HS9 : Hid (∀ X, Below V.heap.size V X → X.cell? ⟨k, 0, none⟩ = some (.pointer (some ⟨t, 0, none⟩)) ∧ X.cell? ⟨k, 1, none⟩ = some (.pointer (some ⟨tb, 0, none⟩)) ∧ X.cell? ⟨P, 0, none⟩ = some (.int .i64 pm) ∧ X.cell? ⟨P, 1, none⟩ = some (.int .i64 pn)) := Lib.hid fun X hX => by
          have := HD.out.below HK.out hX
          exact ⟨this.wk.c0, this.wk.c1, this.hp.cell 0, this.hp.cell 1⟩
        have nkz : Hid (k ≠ Z ∧ P ≠ Z) := Lib.hid (by
          have := HK.out
          have := HD.out.ze
          have := HD.out.pe
          omega)
        go_upto_region 9 with fail
        go_region_held3 (fun X => X.cell? ⟨k, 0, none⟩ = some (.pointer (some ⟨t, 0, none⟩)) ∧ X.cell? ⟨k, 1, none⟩ = some (.pointer (some ⟨tb, 0, none⟩)) ∧ X.cell? ⟨P, 0, none⟩ = some (.int .i64 pm) ∧ X.cell? ⟨P, 1, none⟩ = some (.int .i64 pn)) (first | exact ⟨c0, c1, p0, p1⟩ | exact HS7.out | exact ⟨far2 HS7.out.1 nkz.out.1, far2 HS7.out.2.1 nkz.out.1, far2 HS7.out.2.2.1 nkz.out.2, far2 HS7.out.2.2.2 nkz.out.2⟩) (first | (go_at_call 122; (with_reducible refine C2.mono ?_); rintro e w6 ⟨n', rfl, hln, rfl⟩; have HLn := Lib.hid hln; clear hln) | (go_at_call 84; (with_reducible refine (C3.out _).mono ?_); rintro e w7 ⟨am', an', rfl, hb7, hq7⟩; have HB7 : Hid (Below V.heap.size V w7) := Lib.hid ((Below.refl V.heap.size V).drew.trans hb7); have HS7 := Lib.hid (HS9.out w7 HB7.out); have HP7 := Lib.hid (DownQ.ok HC.out hq7 ⟨HD.out.pl.1, HD.out.pl.2.1, HLn.out⟩); have HD7 := Lib.hid (HD.out.below HK.out HB7.out); obtain ⟨z0, z1, zf⟩ := two_cells HD7.out.hz; clear hb7 hq7))
        go_wp2_with fail
        exact HD7.out.ret HP7.out rfl
      · have HQ2 := HQ.out rfl
        have HQ3 : Hid (PlaceOk T qm qn ∧ LivD T qn ∧ qm < pm ∧ 0 ≤ qm) := Lib.hid (by
          obtain ⟨i, y, e1, e2, e3, e4, e5, e6⟩ := HQ2
          obtain ⟨r1, r2, r3, r4⟩ := UpP.ok HCw.out e2 e3 e4
          subst e5; subst e6; subst e1
          exact ⟨r1, r2, r4, r3⟩)
        clear HQ2
        have C2 := down_any S V.drew tb tv l ((HCw.out.below HV.out.1).below (Below.refl _ _).drew).tab HC.out.mi qm qn
        have HS9 : Hid (∀ X, Below V.heap.size V X → X.cell? ⟨k, 1, none⟩ = some (.pointer (some ⟨tb, 0, none⟩)) ∧ X.cell? ⟨k, 2, none⟩ = some (.int .i64 x.rm) ∧ X.cell? ⟨k, 3, none⟩ = some (.int .i64 x.rn) ∧ X.cell? ⟨Q, 0, none⟩ = some (.int .i64 qm) ∧ X.cell? ⟨Q, 1, none⟩ = some (.int .i64 qn)) := Lib.hid fun X hX => by
          have := HD.out.below HK.out hX
          have hq := HV.out.2.1.below hX
          exact ⟨this.wk.c1, this.wk.c2, this.wk.c3, hq.cell 0, hq.cell 1⟩
        go_upto_region 6 with fail
        go_region_held3 (fun X => X.cell? ⟨k, 1, none⟩ = some (.pointer (some ⟨tb, 0, none⟩)) ∧ X.cell? ⟨k, 2, none⟩ = some (.int .i64 x.rm) ∧ X.cell? ⟨k, 3, none⟩ = some (.int .i64 x.rn) ∧ X.cell? ⟨Q, 0, none⟩ = some (.int .i64 qm) ∧ X.cell? ⟨Q, 1, none⟩ = some (.int .i64 qn)) (first | exact ⟨c1, c2, c3, q0, q1⟩ | exact HS7.out) (first | (go_at_call 84; (with_reducible refine C2.mono ?_); rintro e w7 ⟨am', an', rfl, hb7, hq7⟩; have HB7 : Hid (Below V.heap.size V w7) := Lib.hid ((Below.refl V.heap.size V).drew.trans hb7); have HS7 := Lib.hid (HS9.out w7 HB7.out); have HD7 := Lib.hid (HD.out.below HK.out HB7.out); have HV7 := Lib.hid (HV.out.2.1.below HB7.out); clear hb7 hq7))
        clear z0 z1 zf q0 q1 qf c1 c2 c3
        obtain ⟨z0, z1, zf⟩ := two_cells HD7.out.hz
        obtain ⟨q0, q1, qf⟩ := two_cells HV7.out
        have c2 := HD7.out.wk.c2
        have c3 := HD7.out.wk.c3
        have p0 : w7.cell? ⟨P, 0, none⟩ = some (.int .i64 pm) := HD7.out.hp.cell 0
        have p1 : w7.cell? ⟨P, 1, none⟩ = some (.int .i64 pn) := HD7.out.hp.cell 1
        have pf := HD7.out.hp.free
        go_wp2_with fail
        · exact HD7.out.ret HR.out rfl
        · have HN := Lib.hid (HD7.out.next HK.out HQ3.out.1 HQ3.out.2.1)
          refine ⟨⟨qm, qn, HN⟩, ?_⟩
          rw [hint, intAt_of (HN.out.hp.cell 0)]
          have := HQ3.out.2.2
          omega
    · have HV : Hid (Below wr.heap.size wr ((w2.setCell ⟨wr.heap.size, 0, none⟩ (.int .i64 qm)).setCell ⟨wr.heap.size, 1, none⟩ (.int .i64 qn)) ∧ Holds ((w2.setCell ⟨wr.heap.size, 0, none⟩ (.int .i64 qm)).setCell ⟨wr.heap.size, 1, none⟩ (.int .i64 qn)) wr.heap.size #[.int .i64 qm, .int .i64 qn] ∧ wr.heap.size ≤ wr.heap.size) := Lib.hid ⟨(HB2.out.setCell (Nat.le_refl _) _).setCell (Nat.le_refl _) _, by simpa using (HQZ.out.set 0 (.int .i64 qm) (by simp)).set 1 (.int .i64 qn) (by simp), Nat.le_refl _⟩
      clear g0 g1 gf
      generalize (w2.setCell ⟨wr.heap.size, 0, none⟩ (.int .i64 qm)).setCell ⟨wr.heap.size, 1, none⟩ (.int .i64 qn) = V at HV ⊢
      obtain ⟨Q, hQ⟩ : ∃ Q, wr.heap.size = Q ∧ wr.heap.size ≤ Q := ⟨_, rfl, Nat.le_refl _⟩
      replace HV : Hid (Below wr.heap.size wr V ∧ Holds V Q #[.int .i64 qm, .int .i64 qn] ∧ wr.heap.size ≤ Q) := Lib.hid ⟨HV.out.1, by rw [← hQ.1]; exact HV.out.2.1, hQ.2⟩
      rw [hQ.1]
      clear hQ
      have HD := Lib.hid (HI.out.below HK.out HV.out.1)
      have HZQ : Hid (Z < Q ∧ P < Q) := Lib.hid (by
        have h1 := HV.out.2.2
        have h2 := HI.out.bel.size
        have h3 := HI.out.ze
        have h4 := HI.out.pe
        have h5 := HI.out.hp.lt
        omega)
      clear p0 p1 c1
      obtain ⟨q0, q1, qf⟩ := two_cells HV.out.2.1
      obtain ⟨z0, z1, zf⟩ := two_cells HD.out.hz
      have c1 := HD.out.wk.c1
      have c2 := HD.out.wk.c2
      have c3 := HD.out.wk.c3
      cases ok
      · have c0 := HD.out.wk.c0
        have p0 : V.cell? ⟨P, 0, none⟩ = some (.int .i64 pm) := HD.out.hp.cell 0
        have p1 : V.cell? ⟨P, 1, none⟩ = some (.int .i64 pn) := HD.out.hp.cell 1
        clear q0 q1 qf
        have C2 := uptd_any ((HCw.out.below HV.out.1).below (Below.refl _ _).drew) HD.out.dir
        have C3 := fun (n : Int) => down_any S V.drew tb tv l ((HCw.out.below HV.out.1).below (Below.refl _ _).drew).tab HC.out.mi pm n
        have C3 := Lib.hid C3
        have HS9 : Hid (∀ X, Below V.heap.size V X → X.cell? ⟨k, 0, none⟩ = some (.pointer (some ⟨t, 0, none⟩)) ∧ X.cell? ⟨k, 1, none⟩ = some (.pointer (some ⟨tb, 0, none⟩)) ∧ X.cell? ⟨P, 0, none⟩ = some (.int .i64 pm) ∧ X.cell? ⟨P, 1, none⟩ = some (.int .i64 pn)) := Lib.hid fun X hX => by
          have := HD.out.below HK.out hX
          exact ⟨this.wk.c0, this.wk.c1, this.hp.cell 0, this.hp.cell 1⟩
        have nkz : Hid (k ≠ Z ∧ P ≠ Z) := Lib.hid (by
          have := HK.out
          have := HD.out.ze
          have := HD.out.pe
          omega)
        go_upto_region 9 with fail
        go_region_held3 (fun X => X.cell? ⟨k, 0, none⟩ = some (.pointer (some ⟨t, 0, none⟩)) ∧ X.cell? ⟨k, 1, none⟩ = some (.pointer (some ⟨tb, 0, none⟩)) ∧ X.cell? ⟨P, 0, none⟩ = some (.int .i64 pm) ∧ X.cell? ⟨P, 1, none⟩ = some (.int .i64 pn)) (first | exact ⟨c0, c1, p0, p1⟩ | exact HS7.out | exact ⟨far2 HS7.out.1 nkz.out.1, far2 HS7.out.2.1 nkz.out.1, far2 HS7.out.2.2.1 nkz.out.2, far2 HS7.out.2.2.2 nkz.out.2⟩) (first | (go_at_call 122; (with_reducible refine C2.mono ?_); rintro e w6 ⟨n', rfl, hln, rfl⟩; have HLn := Lib.hid hln; clear hln) | (go_at_call 84; (with_reducible refine (C3.out _).mono ?_); rintro e w7 ⟨am', an', rfl, hb7, hq7⟩; have HB7 : Hid (Below V.heap.size V w7) := Lib.hid ((Below.refl V.heap.size V).drew.trans hb7); have HS7 := Lib.hid (HS9.out w7 HB7.out); have HP7 := Lib.hid (DownQ.ok HC.out hq7 ⟨HD.out.pl.1, HD.out.pl.2.1, HLn.out⟩); have HD7 := Lib.hid (HD.out.below HK.out HB7.out); obtain ⟨z0, z1, zf⟩ := two_cells HD7.out.hz; clear hb7 hq7))
        go_wp2_with fail
        exact HD7.out.ret HP7.out rfl
      · have HQ2 := HQ.out rfl
        have HQ3 : Hid (PlaceOk T qm qn ∧ LivD T qn ∧ qm < pm ∧ 0 ≤ qm) := Lib.hid (by
          obtain ⟨i, y, e1, e2, e3, e4, e5, e6⟩ := HQ2
          obtain ⟨r1, r2, r3, r4⟩ := UpP.ok HCw.out e2 e3 e4
          subst e5; subst e6; subst e1
          exact ⟨r1, r2, r4, r3⟩)
        clear HQ2
        have C2 := down_any S V.drew tb tv l ((HCw.out.below HV.out.1).below (Below.refl _ _).drew).tab HC.out.mi qm qn
        have HS9 : Hid (∀ X, Below V.heap.size V X → X.cell? ⟨k, 1, none⟩ = some (.pointer (some ⟨tb, 0, none⟩)) ∧ X.cell? ⟨k, 2, none⟩ = some (.int .i64 x.rm) ∧ X.cell? ⟨k, 3, none⟩ = some (.int .i64 x.rn) ∧ X.cell? ⟨Q, 0, none⟩ = some (.int .i64 qm) ∧ X.cell? ⟨Q, 1, none⟩ = some (.int .i64 qn)) := Lib.hid fun X hX => by
          have := HD.out.below HK.out hX
          have hq := HV.out.2.1.below hX
          exact ⟨this.wk.c1, this.wk.c2, this.wk.c3, hq.cell 0, hq.cell 1⟩
        go_upto_region 6 with fail
        go_region_held3 (fun X => X.cell? ⟨k, 1, none⟩ = some (.pointer (some ⟨tb, 0, none⟩)) ∧ X.cell? ⟨k, 2, none⟩ = some (.int .i64 x.rm) ∧ X.cell? ⟨k, 3, none⟩ = some (.int .i64 x.rn) ∧ X.cell? ⟨Q, 0, none⟩ = some (.int .i64 qm) ∧ X.cell? ⟨Q, 1, none⟩ = some (.int .i64 qn)) (first | exact ⟨c1, c2, c3, q0, q1⟩ | exact HS7.out) (first | (go_at_call 84; (with_reducible refine C2.mono ?_); rintro e w7 ⟨am', an', rfl, hb7, hq7⟩; have HB7 : Hid (Below V.heap.size V w7) := Lib.hid ((Below.refl V.heap.size V).drew.trans hb7); have HS7 := Lib.hid (HS9.out w7 HB7.out); have HD7 := Lib.hid (HD.out.below HK.out HB7.out); have HV7 := Lib.hid (HV.out.2.1.below HB7.out); clear hb7 hq7))
        clear z0 z1 zf q0 q1 qf c1 c2 c3
        obtain ⟨z0, z1, zf⟩ := two_cells HD7.out.hz
        obtain ⟨q0, q1, qf⟩ := two_cells HV7.out
        have c2 := HD7.out.wk.c2
        have c3 := HD7.out.wk.c3
        have p0 : w7.cell? ⟨P, 0, none⟩ = some (.int .i64 pm) := HD7.out.hp.cell 0
        have p1 : w7.cell? ⟨P, 1, none⟩ = some (.int .i64 pn) := HD7.out.hp.cell 1
        have pf := HD7.out.hp.free
        go_wp2_with fail
        · exact HD7.out.ret HR.out rfl
        · have HN := Lib.hid (HD7.out.next HK.out HQ3.out.1 HQ3.out.2.1)
          refine ⟨⟨qm, qn, HN⟩, ?_⟩
          rw [hint, intAt_of (HN.out.hp.cell 0)]
          have := HQ3.out.2.2
          omega
end Go.Proofs.YtfjghemojnhmbaaGreat
