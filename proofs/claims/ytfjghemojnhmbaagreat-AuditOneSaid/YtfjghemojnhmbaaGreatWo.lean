/- The world of chapter 13: what asks alone. -/
import Derived.Test.YtfjghemojnhmbaaGreatWkE
namespace Go.Proofs.YtfjghemojnhmbaaGreat
open Go.RowKit

/-- What was boxed. -/
theorem box1 (w : World) (a : Array Value) (ta : TypeId) : Below w.heap.size w (w.alloc (.cells a ta)) ∧ Blk (w.alloc (.cells a ta)) w.heap.size ta a :=
  ⟨(Below.refl _ _).alloc (Nat.le_refl _) _, Blk.new _ _ _⟩
theorem box2 (w : World) (a : Array Value) (ta : TypeId) (b : Array Value) (tb : TypeId) : Below w.heap.size w ((w.alloc (.cells a ta)).alloc (.cells b tb)) ∧ Blk ((w.alloc (.cells a ta)).alloc (.cells b tb)) w.heap.size ta a ∧ Blk ((w.alloc (.cells a ta)).alloc (.cells b tb)) (w.heap.size + 1) tb b := by
  obtain ⟨h1, h2⟩ := box1 w a ta
  exact ⟨h1.alloc h1.size _, h2.alloc _, by simpa using Blk.new (w.alloc (.cells a ta)) b tb⟩
theorem box3 (w : World) (a : Array Value) (ta : TypeId) (b : Array Value) (tb : TypeId) (c : Array Value) (tc : TypeId) : Below w.heap.size w (((w.alloc (.cells a ta)).alloc (.cells b tb)).alloc (.cells c tc)) ∧ Blk (((w.alloc (.cells a ta)).alloc (.cells b tb)).alloc (.cells c tc)) w.heap.size ta a ∧ Blk (((w.alloc (.cells a ta)).alloc (.cells b tb)).alloc (.cells c tc)) (w.heap.size + 1) tb b ∧ Blk (((w.alloc (.cells a ta)).alloc (.cells b tb)).alloc (.cells c tc)) (w.heap.size + 1 + 1) tc c := by
  obtain ⟨h1, h2, h3⟩ := box2 w a ta b tb
  exact ⟨h1.alloc h1.size _, h2.alloc _, h3.alloc _, by simpa using Blk.new ((w.alloc (.cells a ta)).alloc (.cells b tb)) c tc⟩
theorem box4 (w : World) (a : Array Value) (ta : TypeId) (b : Array Value) (tb : TypeId) (c : Array Value) (tc : TypeId) (d : Array Value) (td : TypeId) : Below w.heap.size w ((((w.alloc (.cells a ta)).alloc (.cells b tb)).alloc (.cells c tc)).alloc (.cells d td)) ∧ Blk ((((w.alloc (.cells a ta)).alloc (.cells b tb)).alloc (.cells c tc)).alloc (.cells d td)) w.heap.size ta a ∧ Blk ((((w.alloc (.cells a ta)).alloc (.cells b tb)).alloc (.cells c tc)).alloc (.cells d td)) (w.heap.size + 1) tb b ∧ Blk ((((w.alloc (.cells a ta)).alloc (.cells b tb)).alloc (.cells c tc)).alloc (.cells d td)) (w.heap.size + 1 + 1) tc c ∧ Blk ((((w.alloc (.cells a ta)).alloc (.cells b tb)).alloc (.cells c tc)).alloc (.cells d td)) (w.heap.size + 1 + 1 + 1) td d := by
  obtain ⟨h1, h2, h3, h4⟩ := box3 w a ta b tb c tc
  exact ⟨h1.alloc h1.size _, h2.alloc _, h3.alloc _, h4.alloc _, by simpa using Blk.new (((w.alloc (.cells a ta)).alloc (.cells b tb)).alloc (.cells c tc)) d td⟩
theorem box1g {w : World} {a : Array Value} {ta : TypeId} {K : World → Prop} (h : ∀ W, Below w.heap.size w W → Blk W w.heap.size ta a → K W) : K (w.alloc (.cells a ta)) := h _ (box1 w a ta).1 (box1 w a ta).2
theorem box2g {w : World} {a b : Array Value} {ta tb : TypeId} {K : World → Prop} (h : ∀ W, Below w.heap.size w W → Blk W w.heap.size ta a ∧ Blk W (w.heap.size + 1) tb b → K W) : K ((w.alloc (.cells a ta)).alloc (.cells b tb)) := h _ (box2 w a ta b tb).1 (box2 w a ta b tb).2
theorem box3g {w : World} {a b c : Array Value} {ta tb tc : TypeId} {K : World → Prop} (h : ∀ W, Below w.heap.size w W → Blk W w.heap.size ta a ∧ Blk W (w.heap.size + 1) tb b ∧ Blk W (w.heap.size + 1 + 1) tc c → K W) : K (((w.alloc (.cells a ta)).alloc (.cells b tb)).alloc (.cells c tc)) := h _ (box3 w a ta b tb c tc).1 (box3 w a ta b tb c tc).2
theorem box4g {w : World} {a b c d : Array Value} {ta tb tc td : TypeId} {K : World → Prop} (h : ∀ W, Below w.heap.size w W → Blk W w.heap.size ta a ∧ Blk W (w.heap.size + 1) tb b ∧ Blk W (w.heap.size + 1 + 1) tc c ∧ Blk W (w.heap.size + 1 + 1 + 1) td d → K W) : K ((((w.alloc (.cells a ta)).alloc (.cells b tb)).alloc (.cells c tc)).alloc (.cells d td)) := h _ (box4 w a ta b tb c tc d td).1 (box4 w a ta b tb c tc d td).2
theorem Blk.k2 {w : World} {D : Nat} {e : TypeId} {a0 a1 : Value} (k : Blk w D e #[a0, a1]) : w.cell? ⟨D, 0, none⟩ = some a0 ∧ w.cell? ⟨D, 1, none⟩ = some a1 := ⟨k.cell 0, k.cell 1⟩
theorem Blk.k4 {w : World} {D : Nat} {e : TypeId} {a0 a1 a2 a3 : Value} (k : Blk w D e #[a0, a1, a2, a3]) : w.cell? ⟨D, 0, none⟩ = some a0 ∧ w.cell? ⟨D, 1, none⟩ = some a1 ∧ w.cell? ⟨D, 2, none⟩ = some a2 ∧ w.cell? ⟨D, 3, none⟩ = some a3 := ⟨k.cell 0, k.cell 1, k.cell 2, k.cell 3⟩
theorem Blk.k5 {w : World} {D : Nat} {e : TypeId} {a0 a1 a2 a3 a4 : Value} (k : Blk w D e #[a0, a1, a2, a3, a4]) : w.cell? ⟨D, 0, none⟩ = some a0 ∧ w.cell? ⟨D, 1, none⟩ = some a1 ∧ w.cell? ⟨D, 2, none⟩ = some a2 ∧ w.cell? ⟨D, 3, none⟩ = some a3 ∧ w.cell? ⟨D, 4, none⟩ = some a4 := ⟨k.cell 0, k.cell 1, k.cell 2, k.cell 3, k.cell 4⟩
theorem Blk.k7 {w : World} {D : Nat} {e : TypeId} {a0 a1 a2 a3 a4 a5 a6 : Value} (k : Blk w D e #[a0, a1, a2, a3, a4, a5, a6]) : w.cell? ⟨D, 0, none⟩ = some a0 ∧ w.cell? ⟨D, 1, none⟩ = some a1 ∧ w.cell? ⟨D, 2, none⟩ = some a2 ∧ w.cell? ⟨D, 3, none⟩ = some a3 ∧ w.cell? ⟨D, 4, none⟩ = some a4 ∧ w.cell? ⟨D, 5, none⟩ = some a5 ∧ w.cell? ⟨D, 6, none⟩ = some a6 := ⟨k.cell 0, k.cell 1, k.cell 2, k.cell 3, k.cell 4, k.cell 5, k.cell 6⟩
theorem Blk.k9 {w : World} {D : Nat} {e : TypeId} {a0 a1 a2 a3 a4 a5 a6 a7 a8 : Value} (k : Blk w D e #[a0, a1, a2, a3, a4, a5, a6, a7, a8]) : w.cell? ⟨D, 0, none⟩ = some a0 ∧ w.cell? ⟨D, 1, none⟩ = some a1 ∧ w.cell? ⟨D, 2, none⟩ = some a2 ∧ w.cell? ⟨D, 3, none⟩ = some a3 ∧ w.cell? ⟨D, 4, none⟩ = some a4 ∧ w.cell? ⟨D, 5, none⟩ = some a5 ∧ w.cell? ⟨D, 6, none⟩ = some a6 ∧ w.cell? ⟨D, 7, none⟩ = some a7 ∧ w.cell? ⟨D, 8, none⟩ = some a8 := ⟨k.cell 0, k.cell 1, k.cell 2, k.cell 3, k.cell 4, k.cell 5, k.cell 6, k.cell 7, k.cell 8⟩
theorem Blk.k11 {w : World} {D : Nat} {e : TypeId} {a0 a1 a2 a3 a4 a5 a6 a7 a8 a9 a10 : Value} (k : Blk w D e #[a0, a1, a2, a3, a4, a5, a6, a7, a8, a9, a10]) : w.cell? ⟨D, 0, none⟩ = some a0 ∧ w.cell? ⟨D, 1, none⟩ = some a1 ∧ w.cell? ⟨D, 2, none⟩ = some a2 ∧ w.cell? ⟨D, 3, none⟩ = some a3 ∧ w.cell? ⟨D, 4, none⟩ = some a4 ∧ w.cell? ⟨D, 5, none⟩ = some a5 ∧ w.cell? ⟨D, 6, none⟩ = some a6 ∧ w.cell? ⟨D, 7, none⟩ = some a7 ∧ w.cell? ⟨D, 8, none⟩ = some a8 ∧ w.cell? ⟨D, 9, none⟩ = some a9 ∧ w.cell? ⟨D, 10, none⟩ = some a10 := ⟨k.cell 0, k.cell 1, k.cell 2, k.cell 3, k.cell 4, k.cell 5, k.cell 6, k.cell 7, k.cell 8, k.cell 9, k.cell 10⟩
/-- The world of chapter 13. -/
def Wld (t tb : Nat) (ua : Option Addr) (un uc : Nat) : Value := .agg #[.pointer (some ⟨t, 0, none⟩), .pointer (some ⟨tb, 0, none⟩), .int .i64 0, .int .i64 1, .slice ua un uc]
/-- Who calls. -/
def Who (cm cn : Int) (cr : Cr) : Value := .agg #[.int .i64 cm, .int .i64 cn, .int .i64 cr.u, .int .i64 cr.g]
theorem found_out2 {fn : Func} {tmps : Array Value} {w : World} {S a b : Nat} {f : Fnd} {z : Value} (hr : fn.results = #[.cell a 128, .tmp b]) (h4 : tmps.getD a undef = .pointer (some ⟨S, 0, none⟩)) (h5 : tmps.getD b undef = z)
    (h : Holds w S f.cells.toArray) : (results fn tmps).run Tryz.prog w = .ok (.tuple #[f.val, z]) w := by
  have v0 : w.cell? ⟨S, 0, none⟩ = some (.int .i64 f.dm) := h.cell 0
  have v1 : w.cell? ⟨S, 1, none⟩ = some (.int .i64 f.dn) := h.cell 1
  have v2 : w.cell? ⟨S, 2, none⟩ = some (.string f.last) := h.cell 2
  have v3 : w.cell? ⟨S, 3, none⟩ = some (.int .i64 f.am) := h.cell 3
  have v4 : w.cell? ⟨S, 4, none⟩ = some (.int .i64 f.an) := h.cell 4
  have v5 : w.cell? ⟨S, 5, none⟩ = some (.bool f.has) := h.cell 5
  have v6 : w.cell? ⟨S, 6, none⟩ = some (.bool f.slash) := h.cell 6
  unfold results
  rw [hr]
  have h4' : tmps[a]?.getD undef = .pointer (some ⟨S, 0, none⟩) := by rw [← h4]; simp
  have h5' : tmps[b]?.getD undef = z := by rw [← h5]; simp
  simp [asAddr, h4', h5', go_sem, v0, v1, v2, v3, v4, v5, v6, Fnd.val]
/-- What a walk in a world answers. -/
def WwP (T : List (Option Nd)) (w : World) (e : Ending) (w' : World) : Prop := ∃ (f : Fnd) (code : Int), e = .returned (.tuple #[f.val, .int .i64 code]) ∧ FndOk T f ∧ Below w.heap.size w w'
theorem ww_ret {T : List (Option Nd)} {w wr : World} {Z a b : Nat} {fn : Func} {tmps : Array Value} {f : Fnd} {code : Int} (hr : fn.results = #[.cell a 128, .tmp b]) (h4 : tmps.getD a undef = .pointer (some ⟨Z, 0, none⟩)) (h5 : tmps.getD b undef = .int .i64 code)
    (h : Holds wr Z f.cells.toArray) (hf : FndOk T f) (hb : Below w.heap.size w wr) : bodyPost Tryz.prog fn (WwP T w) .ret ⟨tmps, []⟩ wr :=
  bodyPost_ret (found_out2 hr h4 h5 h) rfl ⟨f, code, rfl, hf, hb⟩
theorem Blk.found {w : World} {Z : Nat} (h : Blk w Z 128 Fnd.zero.cells.toArray) {f : Fnd} : Blk (fst7 w Z f) Z 128 f.cells.toArray := by
  have := ((((((h.set 0 (.int .i64 f.dm)).set 1 (.int .i64 f.dn)).set 2 (.string f.last)).set 3 (.int .i64 f.am)).set 4 (.int .i64 f.an)).set 5 (.bool f.has)).set 6 (.bool f.slash)
  unfold fst7
  simpa [Fnd.zero, Fnd.cells] using this
theorem below_found {B : Nat} {w w' : World} (h : Below B w w') {Z : Nat} (hz : B ≤ Z) {f : Fnd} : Below B w (fst7 w' Z f) := by
  unfold fst7
  exact ((((((h.setCell hz _).setCell hz _).setCell hz _).setCell hz _).setCell hz _).setCell hz _).setCell hz _
set_option maxRecDepth 100000 in
theorem wwalk_any {S : Nat → Prop} {w : World} {t c : Nat} {bs : List Nat} {T : List (Option Nd)} {tb : Nat} {tv : Value} {l : List Mt} (hc : Ctx S w t c bs T tb tv l) (ua : Option Addr) (un uc : Nat) (cm cn : Int) (hcn : R64 cn) (cr : Cr) (path : ByteArray) (follow : Bool) :
    Calls Tryz.prog 58 #[Wld t tb ua un uc, Who cm cn cr, .string path, .bool follow] w (WwP T w) := by
  have HC := Lib.hid (fun X hX => walk_any (hc.below (w' := X) hX) 0 1 cm cn ⟨by decide, by decide⟩ hcn cr path follow)
  clear hc hcn
  unfold Wld Who
  unfold Cr.val at HC
  go_enter Tryz.func58, Tryz.ntmps58
  go_upto_region 1 with fail
  refine box3g (fun W hbx hnx => ?_)
  have H1B := Lib.hid hbx
  have H1 := Lib.hid hnx
  clear hbx hnx
  generalize hC : w.heap.size + 1 + 1 = C at H1 ⊢
  generalize hB : w.heap.size + 1 = B at H1 ⊢
  obtain ⟨A, hA⟩ : ∃ A, w.heap.size = A := ⟨_, rfl⟩
  rw [hA] at H1 ⊢
  have H1E : Hid (w.heap.size = A ∧ w.heap.size + 1 = B ∧ w.heap.size + 2 = C) := Lib.hid (by omega)
  clear hA hB hC
  have C1 := HC.out W H1B.out
  have a0 : W.cell? ⟨A, 0, none⟩ = some (.pointer (some ⟨t, 0, none⟩)) := H1.out.1.cell 0
  have a1 : W.cell? ⟨A, 1, none⟩ = some (.pointer (some ⟨tb, 0, none⟩)) := H1.out.1.cell 1
  have a2 : W.cell? ⟨A, 2, none⟩ = some (.int .i64 0) := H1.out.1.cell 2
  have a3 : W.cell? ⟨A, 3, none⟩ = some (.int .i64 1) := H1.out.1.cell 3
  have b0 : W.cell? ⟨B, 0, none⟩ = some (.int .i64 cm) := H1.out.2.1.cell 0
  have b1 : W.cell? ⟨B, 1, none⟩ = some (.int .i64 cn) := H1.out.2.1.cell 1
  have b2 : W.cell? ⟨B, 2, none⟩ = some (.int .i64 cr.u) := H1.out.2.1.cell 2
  have b3 : W.cell? ⟨B, 3, none⟩ = some (.int .i64 cr.g) := H1.out.2.1.cell 3
  go_upto_region 2 with (first | (go_at_call 48; (with_reducible refine C1.mono ?_); rintro e w2 ⟨f, code, steps, rfl, hf, hb⟩; have H2 := Lib.hid (And.intro hf hb); clear hf hb; unfold Fnd.val))
  have H3 := Lib.hid (And.intro (H1B.out.trans (H2.out.2.mono H1B.out.size)) (H1.out.2.2.below H2.out.2))
  refine box1g (fun W3 hbx hnx => ?_)
  have H4B := Lib.hid hbx
  have H4 := Lib.hid hnx
  clear hbx hnx
  obtain ⟨D, hD⟩ : ∃ D, w2.heap.size = D := ⟨_, rfl⟩
  rw [hD] at H4 ⊢
  have H4E : Hid (w2.heap.size = D) := Lib.hid (by omega)
  clear hD
  have nCD : ¬ D = C := by have h1 := H3.out.2.lt; have h2 := H4E.out; omega
  have d0 : W3.cell? ⟨D, 0, none⟩ = some (.int .i64 f.dm) := H4.out.cell 0
  have d1 : W3.cell? ⟨D, 1, none⟩ = some (.int .i64 f.dn) := H4.out.cell 1
  have d2 : W3.cell? ⟨D, 2, none⟩ = some (.string f.last) := H4.out.cell 2
  have d3 : W3.cell? ⟨D, 3, none⟩ = some (.int .i64 f.am) := H4.out.cell 3
  have d4 : W3.cell? ⟨D, 4, none⟩ = some (.int .i64 f.an) := H4.out.cell 4
  have d5 : W3.cell? ⟨D, 5, none⟩ = some (.bool f.has) := H4.out.cell 5
  have d6 : W3.cell? ⟨D, 6, none⟩ = some (.bool f.slash) := H4.out.cell 6
  have H5 := Lib.hid (H3.out.2.below H4B.out)
  have HB5 := Lib.hid (H3.out.1.trans (H4B.out.mono H3.out.1.size))
  obtain ⟨z0, z1, z2, z3, z4, z5, z6, zf⟩ := fnd_cells (f := Fnd.zero) H5.out
  go_wp2_with fail
  exact ww_ret rfl rfl rfl (H5.out.found (f := f)).holds H2.out.1 (below_found HB5.out (by have h2 := H1E.out; omega))
/-- What Stat tells of a node. -/
def StQ (T : List (Option Nd)) (n : Int) (s : Stt) : Prop := (s = Stt.zero ∧ lv T n = none) ∨ ∃ (i : Nat) (x : Nd) (lk sz : Int), n = (i : Int) + 1 ∧ T[i]? = some (some x) ∧ 0 ≤ sz ∧ sz ≤ 1000000 ∧ s = x.stt (i + 1) lk sz
theorem StQ.dir {T : List (Option Nd)} {n : Int} {s : Stt} (h : StQ T n s) (hk : s.kind = 1) : LivD T n := by
  rcases h with ⟨rfl, _⟩ | ⟨i, x, lk, sz, h1, h2, _, _, rfl⟩
  · cases hk
  · exact ⟨i, x, h1, h2, hk⟩
theorem StQ.of {T : List (Option Nd)} {n : Int} {w w' : World} {e : Ending} (h : StatP T n w e w') : ∃ (ok : Bool) (s : Stt), e = .returned (.tuple #[s.val, .bool ok]) ∧ StQ T n s ∧ Below w.heap.size w w' := by
  rcases h with ⟨hb, ⟨h1, h2⟩ | ⟨i, x, lk, sz, h1, h2, h3, h4, h5⟩⟩
  · exact ⟨_, _, h2, .inl ⟨rfl, h1⟩, hb⟩
  · exact ⟨_, _, h5, .inr ⟨i, x, lk, sz, h1, h2, h3, h4, rfl⟩, hb⟩
theorem Ctx.stat {S : Nat → Prop} {w : World} {t c : Nat} {bs : List Nat} {T : List (Option Nd)} {tb : Nat} {tv : Value} {l : List Mt} (hc : Ctx S w t c bs T tb tv l) (n : Int) (hn : R64 n) :
    Calls Tryz.prog 86 #[.pointer (some ⟨t, 0, none⟩), .int .i64 n] w fun e w' => ∃ (ok : Bool) (s : Stt), e = .returned (.tuple #[s.val, .bool ok]) ∧ StQ T n s ∧ Below w.heap.size w w' := by
  obtain ⟨M, p, v, ht⟩ := hc.tr
  obtain ⟨R, hi⟩ := hc.inv
  exact (stat_any ht (by have := hc.cc; omega) hi.el n hn).mono fun e w' h => StQ.of h
theorem stt_out {fn : Func} {tmps : Array Value} {w : World} {S a : Nat} {s : Stt} (hr : fn.results = #[.cell a 38]) (h4 : tmps.getD a undef = .pointer (some ⟨S, 0, none⟩))
    (h : Holds w S s.cells.toArray) : (results fn tmps).run Tryz.prog w = .ok s.val w := by
  have v0 : w.cell? ⟨S, 0, none⟩ = some (.int .i64 s.node) := h.cell 0
  have v1 : w.cell? ⟨S, 1, none⟩ = some (.int .i64 s.kind) := h.cell 1
  have v2 : w.cell? ⟨S, 2, none⟩ = some (.int .i64 s.mode) := h.cell 2
  have v3 : w.cell? ⟨S, 3, none⟩ = some (.int .i64 s.uid) := h.cell 3
  have v4 : w.cell? ⟨S, 4, none⟩ = some (.int .i64 s.gid) := h.cell 4
  have v5 : w.cell? ⟨S, 5, none⟩ = some (.int .i64 s.links) := h.cell 5
  have v6 : w.cell? ⟨S, 6, none⟩ = some (.int .i64 s.size) := h.cell 6
  unfold results
  rw [hr]
  have h4' : tmps[a]?.getD undef = .pointer (some ⟨S, 0, none⟩) := by rw [← h4]; simp
  simp [asAddr, h4', go_sem, v0, v1, v2, v3, v4, v5, v6, Stt.val]
def stt7 (wr : World) (Z : Nat) (f : Stt) : World := ((((((wr.setCell ⟨Z, 0, none⟩ (.int .i64 f.node)).setCell ⟨Z, 1, none⟩ (.int .i64 f.kind)).setCell ⟨Z, 2, none⟩ (.int .i64 f.mode)).setCell ⟨Z, 3, none⟩ (.int .i64 f.uid)).setCell ⟨Z, 4, none⟩ (.int .i64 f.gid)).setCell ⟨Z, 5, none⟩ (.int .i64 f.links)).setCell ⟨Z, 6, none⟩ (.int .i64 f.size)
theorem Blk.stt {w : World} {Z : Nat} (h : Blk w Z 38 Stt.zero.cells.toArray) {f : Stt} : Blk (stt7 w Z f) Z 38 f.cells.toArray := by
  have := ((((((h.set 0 (.int .i64 f.node)).set 1 (.int .i64 f.kind)).set 2 (.int .i64 f.mode)).set 3 (.int .i64 f.uid)).set 4 (.int .i64 f.gid)).set 5 (.int .i64 f.links)).set 6 (.int .i64 f.size)
  unfold stt7
  simpa [Stt.zero, Stt.cells] using this
theorem below_stt {B : Nat} {w w' : World} (h : Below B w w') {Z : Nat} (hz : B ≤ Z) {f : Stt} : Below B w (stt7 w' Z f) := by
  unfold stt7
  exact ((((((h.setCell hz _).setCell hz _).setCell hz _).setCell hz _).setCell hz _).setCell hz _).setCell hz _
theorem stt_cells {w : World} {Z : Nat} {f : Stt} (h : Blk w Z 38 f.cells.toArray) : w.cell? ⟨Z, 0, none⟩ = some (.int .i64 f.node) ∧ w.cell? ⟨Z, 1, none⟩ = some (.int .i64 f.kind) ∧ w.cell? ⟨Z, 2, none⟩ = some (.int .i64 f.mode) ∧ w.cell? ⟨Z, 3, none⟩ = some (.int .i64 f.uid) ∧ w.cell? ⟨Z, 4, none⟩ = some (.int .i64 f.gid) ∧ w.cell? ⟨Z, 5, none⟩ = some (.int .i64 f.links) ∧ w.cell? ⟨Z, 6, none⟩ = some (.int .i64 f.size) ∧ ∀ j, w.frozen? ⟨Z, j, none⟩ = false :=
  ⟨h.cell 0, h.cell 1, h.cell 2, h.cell 3, h.cell 4, h.cell 5, h.cell 6, h.free⟩
theorem szero_cells {w : World} {Z : Nat} (h : Blk w Z 38 Stt.zero.cells.toArray) : w.cell? ⟨Z, 0, none⟩ = some (.int .i64 0) ∧ w.cell? ⟨Z, 1, none⟩ = some (.int .i64 0) ∧ w.cell? ⟨Z, 2, none⟩ = some (.int .i64 0) ∧ w.cell? ⟨Z, 3, none⟩ = some (.int .i64 0) ∧ w.cell? ⟨Z, 4, none⟩ = some (.int .i64 0) ∧ w.cell? ⟨Z, 5, none⟩ = some (.int .i64 0) ∧ w.cell? ⟨Z, 6, none⟩ = some (.int .i64 0) ∧ ∀ j, w.frozen? ⟨Z, j, none⟩ = false := stt_cells h
/-- What a node's stat is, asked in a world. -/
def WsP (T : List (Option Nd)) (n : Int) (w : World) (e : Ending) (w' : World) : Prop := ∃ s : Stt, e = .returned s.val ∧ StQ T n s ∧ Below w.heap.size w w'
set_option maxRecDepth 100000 in
theorem wstat_any {S : Nat → Prop} {w : World} {t c : Nat} {bs : List Nat} {T : List (Option Nd)} {tb : Nat} {tv : Value} {l : List Mt} (hc : Ctx S w t c bs T tb tv l) (ua : Option Addr) (un uc : Nat) (m n : Int) (hn : R64 n) :
    Calls Tryz.prog 59 #[Wld t tb ua un uc, .agg #[.int .i64 m, .int .i64 n]] w (WsP T n w) := by
  have HC := Lib.hid (fun X hX => (hc.below (w' := X) hX).stat n hn)
  clear hc hn
  unfold Wld
  go_enter Tryz.func59, Tryz.ntmps59
  go_upto_region 1 with fail
  refine box3g (fun W hbx hnx => ?_)
  have H1B := Lib.hid hbx
  have H1 := Lib.hid hnx
  clear hbx hnx
  generalize hC : w.heap.size + 1 + 1 = C at H1 ⊢
  generalize hB : w.heap.size + 1 = B at H1 ⊢
  obtain ⟨A, hA⟩ : ∃ A, w.heap.size = A := ⟨_, rfl⟩
  rw [hA] at H1 ⊢
  have H1E : Hid (w.heap.size = A ∧ w.heap.size + 1 = B ∧ w.heap.size + 2 = C) := Lib.hid (by omega)
  clear hA hB hC
  have C1 := HC.out W H1B.out
  have a0 : W.cell? ⟨A, 0, none⟩ = some (.pointer (some ⟨t, 0, none⟩)) := H1.out.1.cell 0
  have b1 : W.cell? ⟨B, 1, none⟩ = some (.int .i64 n) := H1.out.2.1.cell 1
  go_upto_region 2 with (first | (go_at_call 86; (with_reducible refine C1.mono ?_); rintro e w2 ⟨ok, f, rfl, hf, hb⟩; have H2 := Lib.hid (And.intro hf hb); clear hf hb; unfold Stt.val))
  have H3 := Lib.hid (And.intro (H1B.out.trans (H2.out.2.mono H1B.out.size)) (H1.out.2.2.below H2.out.2))
  refine box1g (fun W3 hbx hnx => ?_)
  have H4B := Lib.hid hbx
  have H4 := Lib.hid hnx
  clear hbx hnx
  obtain ⟨D, hD⟩ : ∃ D, w2.heap.size = D := ⟨_, rfl⟩
  rw [hD] at H4 ⊢
  have H4E : Hid (w2.heap.size = D) := Lib.hid (by omega)
  clear hD
  have nCD : ¬ D = C := by have h1 := H3.out.2.lt; have h2 := H4E.out; omega
  have d0 : W3.cell? ⟨D, 0, none⟩ = some (.int .i64 f.node) := H4.out.cell 0
  have d1 : W3.cell? ⟨D, 1, none⟩ = some (.int .i64 f.kind) := H4.out.cell 1
  have d2 : W3.cell? ⟨D, 2, none⟩ = some (.int .i64 f.mode) := H4.out.cell 2
  have d3 : W3.cell? ⟨D, 3, none⟩ = some (.int .i64 f.uid) := H4.out.cell 3
  have d4 : W3.cell? ⟨D, 4, none⟩ = some (.int .i64 f.gid) := H4.out.cell 4
  have d5 : W3.cell? ⟨D, 5, none⟩ = some (.int .i64 f.links) := H4.out.cell 5
  have d6 : W3.cell? ⟨D, 6, none⟩ = some (.int .i64 f.size) := H4.out.cell 6
  have H5 := Lib.hid (H3.out.2.below H4B.out)
  have HB5 := Lib.hid (H3.out.1.trans (H4B.out.mono H3.out.1.size))
  obtain ⟨z0, z1, z2, z3, z4, z5, z6, zf⟩ := szero_cells H5.out
  go_wp2_with fail
  exact bodyPost_ret (stt_out rfl rfl (H5.out.stt (f := f)).holds) rfl ⟨f, rfl, H2.out.1, below_stt HB5.out (by have h2 := H1E.out; omega)⟩
set_option maxRecDepth 100000 in
theorem win_any {S : Nat → Prop} {w : World} {t c : Nat} {bs : List Nat} {T : List (Option Nd)} {tb : Nat} {tv : Value} {l : List Mt} (hc : Ctx S w t c bs T tb tv l) (ua : Option Addr) (un uc : Nat) (cm cn : Int) (cr : Cr) (m n : Int) (hn : R64 n) :
    Calls Tryz.prog 61 #[Wld t tb ua un uc, Who cm cn cr, .agg #[.int .i64 m, .int .i64 n]] w (SomeB w) := by
  have HC := Lib.hid (fun X hX => wstat_any (hc.below (w' := X) hX) ua un uc m n hn)
  have HM := Lib.hid (fun (s : Stt) (X : World) => may_any cr s 2 X)
  clear hc hn
  unfold Wld at HC ⊢
  unfold Who
  unfold Cr.val Stt.val at HM
  go_enter Tryz.func61, Tryz.ntmps61
  go_upto_region 1 with fail
  refine box3g (fun W hbx hnx => ?_)
  have H1B := Lib.hid hbx
  have H1 := Lib.hid hnx
  clear hbx hnx
  generalize hC : w.heap.size + 1 + 1 = C at H1 ⊢
  generalize hB : w.heap.size + 1 = B at H1 ⊢
  obtain ⟨A, hA⟩ : ∃ A, w.heap.size = A := ⟨_, rfl⟩
  rw [hA] at H1 ⊢
  have H1E : Hid (w.heap.size = A ∧ w.heap.size + 1 = B ∧ w.heap.size + 2 = C) := Lib.hid (by omega)
  clear hA hB hC
  have C1 : Calls Tryz.prog 59 #[.agg #[.pointer (some ⟨t, 0, none⟩), .pointer (some ⟨tb, 0, none⟩), .int .i64 0, .int .i64 1, .slice ua un uc], .agg #[.int .i64 m, .int .i64 n]] W.drew (WsP T n W.drew) := HC.out W.drew H1B.out.drew
  have HQ : Hid (∀ X, Below W.heap.size W X → X.cell? ⟨A, 0, none⟩ = some (.pointer (some ⟨t, 0, none⟩)) ∧ X.cell? ⟨A, 1, none⟩ = some (.pointer (some ⟨tb, 0, none⟩)) ∧ X.cell? ⟨A, 2, none⟩ = some (.int .i64 0) ∧ X.cell? ⟨A, 3, none⟩ = some (.int .i64 1) ∧ X.cell? ⟨A, 4, none⟩ = some (.slice ua un uc) ∧ X.cell? ⟨B, 2, none⟩ = some (.int .i64 cr.u) ∧ X.cell? ⟨B, 3, none⟩ = some (.int .i64 cr.g) ∧ X.cell? ⟨C, 0, none⟩ = some (.int .i64 m) ∧ X.cell? ⟨C, 1, none⟩ = some (.int .i64 n)) := Lib.hid fun X hX => ⟨(H1.out.1.below hX).cell 0, (H1.out.1.below hX).cell 1, (H1.out.1.below hX).cell 2, (H1.out.1.below hX).cell 3, (H1.out.1.below hX).cell 4, (H1.out.2.1.below hX).cell 2, (H1.out.2.1.below hX).cell 3, (H1.out.2.2.below hX).cell 0, (H1.out.2.2.below hX).cell 1⟩
  obtain ⟨q0, q1, q2, q3, q4, q5, q6, q7, q8⟩ := HQ.out W (Below.refl _ _)
  go_region_held3 (fun X => X.cell? ⟨A, 0, none⟩ = some (.pointer (some ⟨t, 0, none⟩)) ∧ X.cell? ⟨A, 1, none⟩ = some (.pointer (some ⟨tb, 0, none⟩)) ∧ X.cell? ⟨A, 2, none⟩ = some (.int .i64 0) ∧ X.cell? ⟨A, 3, none⟩ = some (.int .i64 1) ∧ X.cell? ⟨A, 4, none⟩ = some (.slice ua un uc) ∧ X.cell? ⟨B, 2, none⟩ = some (.int .i64 cr.u) ∧ X.cell? ⟨B, 3, none⟩ = some (.int .i64 cr.g) ∧ X.cell? ⟨C, 0, none⟩ = some (.int .i64 m) ∧ X.cell? ⟨C, 1, none⟩ = some (.int .i64 n)) (first | (refine HQ.out _ ?_; first | (with_reducible exact (Below.refl _ _).drew) | (with_reducible exact HB2.out) | (with_reducible exact HB3.out))) (first | (go_at_call 59; (with_reducible refine C1.mono ?_); rintro e w2 ⟨s, rfl, hs, hb⟩; have HB2 : Hid (Below W.heap.size W w2) := Lib.hid ((Below.refl W.heap.size W).drew.trans hb); clear hs hb; have C2 := HM.out s w2; unfold Stt.val) | (go_at_call 75; (with_reducible refine C2.mono ?_); rintro e w3 ⟨⟨r, rfl⟩, hb⟩; have HB3 : Hid (Below W.heap.size W w3) := Lib.hid (HB2.out.trans (hb.mono HB2.out.size)); clear hb))
  go_wp2_with fail
  go_ret
  exact .mk rfl (H1B.out.trans (HB3.out.mono H1B.out.size))
set_option maxRecDepth 100000 in
set_option maxHeartbeats 1000000 in
theorem wsticky_any {S : Nat → Prop} {w : World} {t c : Nat} {bs : List Nat} {T : List (Option Nd)} {tb : Nat} {tv : Value} {l : List Mt} (hc : Ctx S w t c bs T tb tv l) (ua : Option Addr) (un uc : Nat) (cm cn : Int) (cr : Cr) (f : Fnd) (hd : R64 f.dn) (ha : R64 f.an) :
    Calls Tryz.prog 69 #[Wld t tb ua un uc, Who cm cn cr, f.val] w (SomeB w) := by
  have HD := Lib.hid (fun X hX => wstat_any (hc.below (w' := X) hX) ua un uc f.dm f.dn hd)
  have HA := Lib.hid (fun X hX => wstat_any (hc.below (w' := X) hX) ua un uc f.am f.an ha)
  have HM := Lib.hid (fun (d s : Stt) (X : World) => sticky_any cr d s X)
  clear hc hd ha
  unfold Wld at HD HA ⊢
  unfold Who Fnd.val
  unfold Cr.val Stt.val at HM
  go_enter Tryz.func69, Tryz.ntmps69
  go_upto_region 1 with fail
  refine box3g (fun W hbx hnx => ?_)
  have H1B := Lib.hid hbx
  have H1 := Lib.hid hnx
  clear hbx hnx
  generalize hC : w.heap.size + 1 + 1 = C at H1 ⊢
  generalize hB : w.heap.size + 1 = B at H1 ⊢
  obtain ⟨A, hA⟩ : ∃ A, w.heap.size = A := ⟨_, rfl⟩
  rw [hA] at H1 ⊢
  have H1E : Hid (w.heap.size = A ∧ w.heap.size + 1 = B ∧ w.heap.size + 2 = C) := Lib.hid (by omega)
  clear hA hB hC
  have CD : Calls Tryz.prog 59 #[.agg #[.pointer (some ⟨t, 0, none⟩), .pointer (some ⟨tb, 0, none⟩), .int .i64 0, .int .i64 1, .slice ua un uc], .agg #[.int .i64 f.dm, .int .i64 f.dn]] W.drew (WsP T f.dn W.drew) := HD.out W.drew H1B.out.drew
  have CA : Calls Tryz.prog 59 #[.agg #[.pointer (some ⟨t, 0, none⟩), .pointer (some ⟨tb, 0, none⟩), .int .i64 0, .int .i64 1, .slice ua un uc], .agg #[.int .i64 f.am, .int .i64 f.an]] W.drew (WsP T f.an W.drew) := HA.out W.drew H1B.out.drew
  have HQ : Hid (∀ X, Below W.heap.size W X → X.cell? ⟨A, 0, none⟩ = some (.pointer (some ⟨t, 0, none⟩)) ∧ X.cell? ⟨A, 1, none⟩ = some (.pointer (some ⟨tb, 0, none⟩)) ∧ X.cell? ⟨A, 2, none⟩ = some (.int .i64 0) ∧ X.cell? ⟨A, 3, none⟩ = some (.int .i64 1) ∧ X.cell? ⟨A, 4, none⟩ = some (.slice ua un uc) ∧ X.cell? ⟨B, 2, none⟩ = some (.int .i64 cr.u) ∧ X.cell? ⟨B, 3, none⟩ = some (.int .i64 cr.g) ∧ X.cell? ⟨C, 0, none⟩ = some (.int .i64 f.dm) ∧ X.cell? ⟨C, 1, none⟩ = some (.int .i64 f.dn) ∧ X.cell? ⟨C, 3, none⟩ = some (.int .i64 f.am) ∧ X.cell? ⟨C, 4, none⟩ = some (.int .i64 f.an)) := Lib.hid fun X hX => ⟨(H1.out.1.below hX).cell 0, (H1.out.1.below hX).cell 1, (H1.out.1.below hX).cell 2, (H1.out.1.below hX).cell 3, (H1.out.1.below hX).cell 4, (H1.out.2.1.below hX).cell 2, (H1.out.2.1.below hX).cell 3, (H1.out.2.2.below hX).cell 0, (H1.out.2.2.below hX).cell 1, (H1.out.2.2.below hX).cell 3, (H1.out.2.2.below hX).cell 4⟩
  obtain ⟨q0, q1, q2, q3, q4, q5, q6, q7, q8, q9, q10⟩ := HQ.out W (Below.refl _ _)
  go_region_held3 (fun X => X.cell? ⟨A, 0, none⟩ = some (.pointer (some ⟨t, 0, none⟩)) ∧ X.cell? ⟨A, 1, none⟩ = some (.pointer (some ⟨tb, 0, none⟩)) ∧ X.cell? ⟨A, 2, none⟩ = some (.int .i64 0) ∧ X.cell? ⟨A, 3, none⟩ = some (.int .i64 1) ∧ X.cell? ⟨A, 4, none⟩ = some (.slice ua un uc) ∧ X.cell? ⟨B, 2, none⟩ = some (.int .i64 cr.u) ∧ X.cell? ⟨B, 3, none⟩ = some (.int .i64 cr.g) ∧ X.cell? ⟨C, 0, none⟩ = some (.int .i64 f.dm) ∧ X.cell? ⟨C, 1, none⟩ = some (.int .i64 f.dn) ∧ X.cell? ⟨C, 3, none⟩ = some (.int .i64 f.am) ∧ X.cell? ⟨C, 4, none⟩ = some (.int .i64 f.an)) (first | (refine HQ.out _ ?_; first | (with_reducible exact (Below.refl _ _).drew) | (with_reducible exact HB2.out) | (with_reducible exact HB3.out) | (with_reducible exact HB4.out))) (first | (go_at_call 59; (with_reducible refine CD.mono ?_); rintro e w2 ⟨s1, rfl, hs, hb⟩; have HB2 : Hid (Below W.heap.size W w2) := Lib.hid ((Below.refl W.heap.size W).drew.trans hb); clear hs hb; have CA1 := HA.out w2 (H1B.out.trans (HB2.out.mono H1B.out.size)); unfold Stt.val) | (go_at_call 59; (with_reducible refine CA.mono ?_); rintro e w2 ⟨s2, rfl, hs, hb⟩; have HB2 : Hid (Below W.heap.size W w2) := Lib.hid ((Below.refl W.heap.size W).drew.trans hb); clear hs hb; have CD1 := HD.out w2 (H1B.out.trans (HB2.out.mono H1B.out.size)); unfold Stt.val) | (go_at_call 59; (with_reducible refine CA1.mono ?_); rintro e w3 ⟨s2, rfl, hs, hb⟩; have HB3 : Hid (Below W.heap.size W w3) := (Lib.hid (HB2.out.trans (hb.mono HB2.out.size))); clear hs hb; have CM := HM.out s1 s2 w3; unfold Stt.val) | (go_at_call 59; (with_reducible refine CD1.mono ?_); rintro e w3 ⟨s1, rfl, hs, hb⟩; have HB3 : Hid (Below W.heap.size W w3) := (Lib.hid (HB2.out.trans (hb.mono HB2.out.size))); clear hs hb; have CM := HM.out s1 s2 w3; unfold Stt.val) | (go_at_call 108; (with_reducible refine CM.mono ?_); rintro e w4 ⟨⟨r, rfl⟩, hb⟩; have HB4 : Hid (Below W.heap.size W w4) := Lib.hid (HB3.out.trans (hb.mono HB3.out.size)); clear hb))
  all_goals
    go_wp2_with fail
    go_ret
    exact .mk rfl (H1B.out.trans (HB4.out.mono H1B.out.size))
set_option maxRecDepth 100000 in
theorem busy_any {S : Nat → Prop} {w : World} {t c : Nat} {bs : List Nat} {T : List (Option Nd)} {tb : Nat} {tv : Value} {l : List Mt} (hc : Ctx S w t c bs T tb tv l) (ua : Option Addr) (un uc : Nat) (f : Fnd) :
    Calls Tryz.prog 68 #[Wld t tb ua un uc, f.val] w (SomeB w) := by
  have HC := Lib.hid (fun X hX => covered_any S X tb tv l (hc.below (w' := X) hX).tab f.an)
  clear hc
  unfold Wld Fnd.val
  go_enter Tryz.func68, Tryz.ntmps68
  go_upto_region 1 with fail
  refine box2g (fun W hbx hnx => ?_)
  have H1B := Lib.hid hbx
  have H1 := Lib.hid hnx
  clear hbx hnx
  generalize hB : w.heap.size + 1 = B at H1 ⊢
  obtain ⟨A, hA⟩ : ∃ A, w.heap.size = A := ⟨_, rfl⟩
  rw [hA] at H1 ⊢
  have H1E : Hid (w.heap.size = A ∧ w.heap.size + 1 = B) := Lib.hid (by omega)
  clear hA hB
  have C1 := HC.out W H1B.out
  have a1 : W.cell? ⟨A, 1, none⟩ = some (.pointer (some ⟨tb, 0, none⟩)) := H1.out.1.cell 1
  have b0 : W.cell? ⟨B, 0, none⟩ = some (.int .i64 f.dm) := H1.out.2.cell 0
  have b3 : W.cell? ⟨B, 3, none⟩ = some (.int .i64 f.am) := H1.out.2.cell 3
  have b4 : W.cell? ⟨B, 4, none⟩ = some (.int .i64 f.an) := H1.out.2.cell 4
  obtain ⟨q, hq⟩ : ∃ q, (f.am != f.dm) = q := ⟨_, rfl⟩
  cases q
  · go_wp2_with (first | (go_at_call 107; (with_reducible refine C1.mono ?_); rintro e w2 ⟨r, rfl, rfl⟩))
    go_ret
    exact .mk rfl H1B.out
  · go_wp2_with (first | (go_at_call 107; (with_reducible refine C1.mono ?_); rintro e w2 ⟨r, rfl, rfl⟩))
    go_ret
    exact .mk rfl H1B.out
set_option maxRecDepth 100000 in
theorem usedl_any {w : World} {v : Value} {xs : List Int} {base : Nat} (h : Ints w base v xs) (m : Int) : Calls Tryz.prog 102 #[v, .int .i64 m] w (TruthP w) := by
  have HH := Lib.hid h
  have hl := h.2.2
  obtain ⟨ua, uc, rfl⟩ := h.1.value
  clear h
  go_enter Tryz.func102, Tryz.ntmps102
  go_wp2_with fail
  go_loopw [5] (fun iv wr => ∃ i : Nat, i ≤ xs.length ∧ iv = .int .i64 i ∧ wr = w) (fun iv _ => xs.length - (intOf iv).toNat)
  case atStart => exact ⟨0, by omega, rfl, rfl⟩
  case round =>
    obtain ⟨i, hi, rfl, rfl⟩ := hrel
    by_cases hlt : i < xs.length
    · have k0 : (0 : Int) ≤ (i : Int) := by omega
      have k1 : (i : Int) < (xs.length : Int) := by omega
      obtain ⟨f, o, cap, hv⟩ := HH.out.1.form (by omega)
      cases hv
      have hcell := HH.out.1.cells i (by omega)
      obtain ⟨x, hx⟩ : ∃ x, xs[i]? = some x := ⟨_, List.getElem?_eq_getElem hlt⟩
      replace hcell : wr.cell? ⟨f, o + i, none⟩ = some (.int .i64 x) := by rw [hcell, List.getElem?_map, hx]; rfl
      rcases hq : (x == m) with _ | _
      · go_wp2_with fail
        go_roundw
        case rel => exact ⟨i + 1, by omega, by go_num, by first | trivial | rfl⟩
        case measure => simp [intOf]; omega
      · go_wp2_with fail
        go_ret
        exact ⟨_, rfl, rfl⟩
    · have k1 : ¬ (i : Int) < (xs.length : Int) := by omega
      go_wp2_with fail
      go_ret
      exact ⟨_, rfl, rfl⟩
end Go.Proofs.YtfjghemojnhmbaaGreat
/- The world of chapter 13: where a new name is to be; what a path leads to. -/
namespace Go.Proofs.YtfjghemojnhmbaaGreat
open Go.RowKit

set_option maxRecDepth 100000 in
set_option maxHeartbeats 1000000 in
theorem target_any {S : Nat → Prop} {w : World} {t c : Nat} {bs : List Nat} {T : List (Option Nd)} {tb : Nat} {tv : Value} {l : List Mt} (hc : Ctx S w t c bs T tb tv l) (ua : Option Addr) (un uc : Nat) (cm cn : Int) (hcn : R64 cn) (cr : Cr) (path : ByteArray) :
    Calls Tryz.prog 60 #[Wld t tb ua un uc, Who cm cn cr, .string path] w (WwP T w) := by
  have HC := Lib.hid (fun X hX => wwalk_any (hc.below (w' := X) hX) ua un uc cm cn hcn cr path false)
  clear hc hcn
  unfold Wld Who at HC ⊢
  go_enter Tryz.func60, Tryz.ntmps60
  go_upto_region 1 with fail
  refine box3g (fun W hbx hnx => ?_)
  have H1B := Lib.hid hbx
  have H1 := Lib.hid hnx
  clear hbx hnx
  generalize hC : w.heap.size + 1 + 1 = C at H1 ⊢
  generalize hB : w.heap.size + 1 = B at H1 ⊢
  obtain ⟨A, hA⟩ : ∃ A, w.heap.size = A := ⟨_, rfl⟩
  rw [hA] at H1 ⊢
  have H1E : Hid (w.heap.size = A ∧ w.heap.size + 1 = B ∧ w.heap.size + 2 = C) := Lib.hid (by omega)
  clear hA hB hC
  have C1 := HC.out W H1B.out
  have a0 : W.cell? ⟨A, 0, none⟩ = some (.pointer (some ⟨t, 0, none⟩)) := H1.out.1.cell 0
  have a1 : W.cell? ⟨A, 1, none⟩ = some (.pointer (some ⟨tb, 0, none⟩)) := H1.out.1.cell 1
  have a2 : W.cell? ⟨A, 2, none⟩ = some (.int .i64 0) := H1.out.1.cell 2
  have a3 : W.cell? ⟨A, 3, none⟩ = some (.int .i64 1) := H1.out.1.cell 3
  have a4 : W.cell? ⟨A, 4, none⟩ = some (.slice ua un uc) := H1.out.1.cell 4
  have b0 : W.cell? ⟨B, 0, none⟩ = some (.int .i64 cm) := H1.out.2.1.cell 0
  have b1 : W.cell? ⟨B, 1, none⟩ = some (.int .i64 cn) := H1.out.2.1.cell 1
  have b2 : W.cell? ⟨B, 2, none⟩ = some (.int .i64 cr.u) := H1.out.2.1.cell 2
  have b3 : W.cell? ⟨B, 3, none⟩ = some (.int .i64 cr.g) := H1.out.2.1.cell 3
  go_upto_region 2 with (first | (go_at_call 58; (with_reducible refine C1.mono ?_); rintro e w2 ⟨f, code, rfl, hf, hb⟩; have H2 := Lib.hid (And.intro hf hb); clear hf hb; unfold Fnd.val))
  have H3 := Lib.hid (And.intro (H1B.out.trans (H2.out.2.mono H1B.out.size)) (H1.out.2.2.below H2.out.2))
  refine box1g (fun W3 hbx hnx => ?_)
  have H4B := Lib.hid hbx
  have H4 := Lib.hid hnx
  clear hbx hnx
  obtain ⟨D, hD⟩ : ∃ D, w2.heap.size = D := ⟨_, rfl⟩
  rw [hD] at H4 ⊢
  have H4E : Hid (w2.heap.size = D) := Lib.hid (by omega)
  clear hD
  have nCD : ¬ D = C := by have h1 := H3.out.2.lt; have h2 := H4E.out; omega
  have d0 : W3.cell? ⟨D, 0, none⟩ = some (.int .i64 f.dm) := H4.out.cell 0
  have d1 : W3.cell? ⟨D, 1, none⟩ = some (.int .i64 f.dn) := H4.out.cell 1
  have d2 : W3.cell? ⟨D, 2, none⟩ = some (.string f.last) := H4.out.cell 2
  have d3 : W3.cell? ⟨D, 3, none⟩ = some (.int .i64 f.am) := H4.out.cell 3
  have d4 : W3.cell? ⟨D, 4, none⟩ = some (.int .i64 f.an) := H4.out.cell 4
  have d5 : W3.cell? ⟨D, 5, none⟩ = some (.bool f.has) := H4.out.cell 5
  have d6 : W3.cell? ⟨D, 6, none⟩ = some (.bool f.slash) := H4.out.cell 6
  have H5 := Lib.hid (H3.out.2.below H4B.out)
  have HB5 := Lib.hid (H3.out.1.trans (H4B.out.mono H3.out.1.size))
  obtain ⟨z0, z1, z2, z3, z4, z5, z6, zf⟩ := fnd_cells (f := Fnd.zero) H5.out
  have HX : Hid (∀ tm : Array Value, ∀ code2 : Int, tm.getD 6 undef = .pointer (some ⟨C, 0, none⟩) → tm.getD 7 undef = .int .i64 code2 → bodyPost Tryz.prog Tryz.f60 (WwP T w) .ret ⟨tm, []⟩ (fst7 W3 C f)) := Lib.hid (fun tm code2 h1 h2 =>
    ww_ret rfl h1 h2 (H5.out.found (f := f)).holds H2.out.1 (below_found HB5.out (by have h2 := H1E.out; omega)))
  obtain ⟨dm, dn, last, am, an, has, slash⟩ := f
  unfold fst7 at HX
  dsimp only at HX d0 d1 d2 d3 d4 d5 d6
  cases has
  all_goals cases slash
  all_goals
    go_wp2_with fail
  all_goals
    with_reducible exact HX.out _ _ rfl rfl
/-- What a path leads to: it is there where nothing is refused. -/
def WtP (T : List (Option Nd)) (w : World) (e : Ending) (w' : World) : Prop := ∃ (f : Fnd) (code : Int), e = .returned (.tuple #[f.val, .int .i64 code]) ∧ FndOk T f ∧ (code = 0 → f.has = true) ∧ Below w.heap.size w w'
theorem wt_ret {T : List (Option Nd)} {w wr : World} {Z a b : Nat} {fn : Func} {tmps : Array Value} {f : Fnd} {code : Int} (hr : fn.results = #[.cell a 128, .tmp b]) (h4 : tmps.getD a undef = .pointer (some ⟨Z, 0, none⟩)) (h5 : tmps.getD b undef = .int .i64 code)
    (h : Holds wr Z f.cells.toArray) (hf : FndOk T f) (h0 : code = 0 → f.has = true) (hb : Below w.heap.size w wr) : bodyPost Tryz.prog fn (WtP T w) .ret ⟨tmps, []⟩ wr :=
  bodyPost_ret (found_out2 hr h4 h5 h) rfl ⟨f, code, rfl, hf, h0, hb⟩
set_option maxRecDepth 100000 in
theorem there_any {S : Nat → Prop} {w : World} {t c : Nat} {bs : List Nat} {T : List (Option Nd)} {tb : Nat} {tv : Value} {l : List Mt} (hc : Ctx S w t c bs T tb tv l) (ua : Option Addr) (un uc : Nat) (cm cn : Int) (hcn : R64 cn) (cr : Cr) (path : ByteArray) (follow : Bool) :
    Calls Tryz.prog 65 #[Wld t tb ua un uc, Who cm cn cr, .string path, .bool follow] w (WtP T w) := by
  have HC := Lib.hid (fun X hX => wwalk_any (hc.below (w' := X) hX) ua un uc cm cn hcn cr path follow)
  clear hc hcn
  unfold Wld Who at HC ⊢
  go_enter Tryz.func65, Tryz.ntmps65
  go_upto_region 1 with fail
  refine box3g (fun W hbx hnx => ?_)
  have H1B := Lib.hid hbx
  have H1 := Lib.hid hnx
  clear hbx hnx
  generalize hC : w.heap.size + 1 + 1 = C at H1 ⊢
  generalize hB : w.heap.size + 1 = B at H1 ⊢
  obtain ⟨A, hA⟩ : ∃ A, w.heap.size = A := ⟨_, rfl⟩
  rw [hA] at H1 ⊢
  have H1E : Hid (w.heap.size = A ∧ w.heap.size + 1 = B ∧ w.heap.size + 2 = C) := Lib.hid (by omega)
  clear hA hB hC
  have C1 := HC.out W H1B.out
  have a0 : W.cell? ⟨A, 0, none⟩ = some (.pointer (some ⟨t, 0, none⟩)) := H1.out.1.cell 0
  have a1 : W.cell? ⟨A, 1, none⟩ = some (.pointer (some ⟨tb, 0, none⟩)) := H1.out.1.cell 1
  have a2 : W.cell? ⟨A, 2, none⟩ = some (.int .i64 0) := H1.out.1.cell 2
  have a3 : W.cell? ⟨A, 3, none⟩ = some (.int .i64 1) := H1.out.1.cell 3
  have a4 : W.cell? ⟨A, 4, none⟩ = some (.slice ua un uc) := H1.out.1.cell 4
  have b0 : W.cell? ⟨B, 0, none⟩ = some (.int .i64 cm) := H1.out.2.1.cell 0
  have b1 : W.cell? ⟨B, 1, none⟩ = some (.int .i64 cn) := H1.out.2.1.cell 1
  have b2 : W.cell? ⟨B, 2, none⟩ = some (.int .i64 cr.u) := H1.out.2.1.cell 2
  have b3 : W.cell? ⟨B, 3, none⟩ = some (.int .i64 cr.g) := H1.out.2.1.cell 3
  go_upto_region 2 with (first | (go_at_call 58; (with_reducible refine C1.mono ?_); rintro e w2 ⟨f, code, rfl, hf, hb⟩; have H2 := Lib.hid (And.intro hf hb); clear hf hb; unfold Fnd.val))
  have H3 := Lib.hid (And.intro (H1B.out.trans (H2.out.2.mono H1B.out.size)) (H1.out.2.2.below H2.out.2))
  refine box1g (fun W3 hbx hnx => ?_)
  have H4B := Lib.hid hbx
  have H4 := Lib.hid hnx
  clear hbx hnx
  obtain ⟨D, hD⟩ : ∃ D, w2.heap.size = D := ⟨_, rfl⟩
  rw [hD] at H4 ⊢
  have H4E : Hid (w2.heap.size = D) := Lib.hid (by omega)
  clear hD
  have nCD : ¬ D = C := by have h1 := H3.out.2.lt; have h2 := H4E.out; omega
  have d0 : W3.cell? ⟨D, 0, none⟩ = some (.int .i64 f.dm) := H4.out.cell 0
  have d1 : W3.cell? ⟨D, 1, none⟩ = some (.int .i64 f.dn) := H4.out.cell 1
  have d2 : W3.cell? ⟨D, 2, none⟩ = some (.string f.last) := H4.out.cell 2
  have d3 : W3.cell? ⟨D, 3, none⟩ = some (.int .i64 f.am) := H4.out.cell 3
  have d4 : W3.cell? ⟨D, 4, none⟩ = some (.int .i64 f.an) := H4.out.cell 4
  have d5 : W3.cell? ⟨D, 5, none⟩ = some (.bool f.has) := H4.out.cell 5
  have d6 : W3.cell? ⟨D, 6, none⟩ = some (.bool f.slash) := H4.out.cell 6
  have H5 := Lib.hid (H3.out.2.below H4B.out)
  have HB5 := Lib.hid (H3.out.1.trans (H4B.out.mono H3.out.1.size))
  obtain ⟨z0, z1, z2, z3, z4, z5, z6, zf⟩ := fnd_cells (f := Fnd.zero) H5.out
  obtain ⟨hs, hh⟩ : ∃ hs, f.has = hs := ⟨_, rfl⟩
  have HH := Lib.hid hh
  rw [hh] at d5
  have hfw : ∀ (P : Prop), (hs = true → P) → f.has = true → P := fun P q r => q (by rw [← hh]; exact r)
  have HX : Hid (∀ tm : Array Value, ∀ code2 : Int, (code2 = 0 → hs = true) → tm.getD 8 undef = .pointer (some ⟨C, 0, none⟩) → tm.getD 9 undef = .int .i64 code2 → bodyPost Tryz.prog Tryz.f65 (WtP T w) .ret ⟨tm, []⟩ (fst7 W3 C ⟨f.dm, f.dn, f.last, f.am, f.an, hs, f.slash⟩)) := Lib.hid (fun tm code2 h0 h1 h2 => by
    rw [← hh] at h0 ⊢
    exact wt_ret rfl h1 h2 (H5.out.found (f := f)).holds H2.out.1 h0 (below_found HB5.out (by have h2 := H1E.out; omega)))
  clear hfw hh
  unfold fst7 at HX
  dsimp only at HX
  by_cases h0 : code = 0
  · subst h0
    cases hs
    · go_wp2_with fail
      exact HX.out _ 32 (by decide) rfl rfl
    · go_wp2_with fail
      exact HX.out _ 0 (by decide) rfl rfl
  · go_wp2_with fail
    exact HX.out _ code (fun h => absurd h h0) rfl rfl
end Go.Proofs.YtfjghemojnhmbaaGreat
