/- The world of chapter 13: Chown. -/
import Derived.StillTailTactics
import Derived.Lib.ConvBytes
import Derived.Test.YtfjghemojnhmbaaGreatWq
import Derived.Test.YtfjghemojnhmbaaGreatCals
import Derived.Test.YtfjghemojnhmbaaGreatTrS
namespace Go.Proofs.YtfjghemojnhmbaaGreat
open Go.RowKit

attribute [local go_sem ↓] run_field38 run_field38s
/-- A node's turn that keeps what the law looks at. -/
theorem WOp.turn {S : Nat → Prop} {t c c' : Nat} {R : Nat → Nat} {w w1 w' : World} {bs : List Nat} {T : List (Option Nd)} {tb : Nat} {tv : Value} {l : List Mt} {n : Int} {Q : Nd → Nd → Prop} {e : Ending} (hx : Ctx S w1 t c bs T tb tv l) (hi : TInv T R none) (hb : Below w.heap.size w w1) (h : TurnP S t c bs T n Q w1 e w') (hc : c ≤ c')
    (hQ : ∀ x y, Q x y → y.kind = x.kind ∧ y.es = x.es ∧ y.up = x.up ∧ y.named = x.named ∧ y.held = x.held) : ∃ code : Int, e = .returned (.int .i64 code) ∧ WOp S t c' R T w (.returned (.int .i64 code)) w' := by
  obtain ⟨code, rfl, _, _, ⟨_, rfl⟩ | ⟨i, x, y, rfl, hx2, hq, hs⟩⟩ := h
  · exact ⟨code, rfl, code, S, bs, T, rfl, ((TStep.same hx.tr (Below.refl _ _)).below hb).mono hc, hi, KK.refl T⟩
  · obtain ⟨q1, q2, q3, q4, q5⟩ := hQ x y hq
    refine ⟨code, rfl, code, S, bs, _, rfl, (hs.below hb).mono hc, hi.turn hx2 q1 q2 q3 q4 (fun k hk => ⟨fun _ => Nat.le_refl _, fun hk2 => ?_⟩), KK.set hx2 q1⟩
    subst hk2
    obtain ⟨i', x', e1, e2, e3⟩ := hi.refs _ hk
    obtain rfl : i' = i := by omega
    rw [hx2] at e2
    cases e2
    omega
set_option maxRecDepth 100000 in
set_option maxHeartbeats 4000000 in
theorem chown_any {S : Nat → Prop} {w : World} {t c : Nat} {bs : List Nat} {T : List (Option Nd)} {tb : Nat} {tv : Value} {l : List Mt} (hc : Ctx S w t c bs T tb tv l) (ua : Option Addr) (un uc : Nat) (cm cn : Int) (hcn : R64 cn) (cr : Cr) {R : Nat → Nat} (hi : TInv T R none) (q : Cl) (s : Stt) (hs : R64 s.node) :
    Calls Tryz.prog 74 #[Wld t tb ua un uc, Who cm cn cr, q.val, s.val] w (WOp S t (c + 3) R T w) := by
  have HC := Lib.hid (And.intro hc (And.intro hi hcn))
  have HN := Lib.hid hs
  clear hc hi hcn hs
  unfold Wld Who Cl.val Stt.val
  obtain ⟨s0, s1, s2, s3, s4, s5, s6⟩ := s
  dsimp only at HN ⊢
  have HS : Hid (∀ X, Below w.heap.size w X → ∀ code : Int, WOp S t (c + 3) R T w (.returned (.int .i64 code)) X) := Lib.hid fun X hX code => WOp.same HC.out.1 HC.out.2.1 (Nat.le_add_right _ _) hX code
  have C111 : Hid (∀ X, Below w.heap.size w X → ∀ u g : Int, Calls Tryz.prog 111 #[.pointer (some ⟨t, 0, none⟩), .int .i64 s0, .int .i64 u, .int .i64 g] X fun e w' => ∃ code : Int, e = .returned (.int .i64 code) ∧ WOp S t (c + 3) R T w (.returned (.int .i64 code)) w') := Lib.hid fun X hX u g => (setowner_any (HC.out.1.below hX).tr (by have := HC.out.1.cc; omega) s0 HN.out u g).mono fun e w' hm => WOp.turn (HC.out.1.below hX) HC.out.2.1 hX hm (Nat.le_add_right _ _) (fun x y hy => by subst hy; exact ⟨rfl, rfl, rfl, rfl, rfl⟩)
  go_enter Tryz.func74, Tryz.ntmps74
  go_upto_region 1 with fail
  refine box4g (fun W hbx hnx => ?_)
  have H1B := Lib.hid hbx
  have H1 := Lib.hid hnx
  clear hbx hnx
  generalize hD : w.heap.size + 1 + 1 + 1 = D at H1 ⊢
  generalize hC : w.heap.size + 1 + 1 = C at H1 ⊢
  generalize hB : w.heap.size + 1 = B at H1 ⊢
  obtain ⟨A, hA⟩ : ∃ A, w.heap.size = A := ⟨_, rfl⟩
  rw [hA] at H1 ⊢
  have H1E : Hid (w.heap.size = A ∧ w.heap.size + 1 = B ∧ w.heap.size + 2 = C ∧ w.heap.size + 3 = D) := Lib.hid (by omega)
  clear hA hB hC hD
  have a0 : W.cell? ⟨A, 0, none⟩ = some (.pointer (some ⟨t, 0, none⟩)) := H1.out.1.cell 0
  have b2 : W.cell? ⟨B, 2, none⟩ = some (.int .i64 cr.u) := H1.out.2.1.cell 2
  have c6 : W.cell? ⟨C, 6, none⟩ = some (.int .i64 q.n) := H1.out.2.2.1.cell 6
  have c7 : W.cell? ⟨C, 7, none⟩ = some (.int .i64 q.m) := H1.out.2.2.1.cell 7
  have d0 : W.cell? ⟨D, 0, none⟩ = some (.int .i64 s0) := H1.out.2.2.2.cell 0
  have d3 : W.cell? ⟨D, 3, none⟩ = some (.int .i64 s3) := H1.out.2.2.2.cell 3
  have d4 : W.cell? ⟨D, 4, none⟩ = some (.int .i64 s4) := H1.out.2.2.2.cell 4
  have df := H1.out.2.2.2.free
  have nA : ¬ D = A := by have := H1E.out; omega
  have nC : ¬ D = C := by have := H1E.out; omega
  have HD : Hid (∀ u g : Value, Below w.heap.size w W ∧ Below w.heap.size w (W.setCell ⟨D, 3, none⟩ u) ∧ Below w.heap.size w (W.setCell ⟨D, 4, none⟩ g) ∧ Below w.heap.size w ((W.setCell ⟨D, 3, none⟩ u).setCell ⟨D, 4, none⟩ g)) := Lib.hid fun u g => by
    have hd : w.heap.size ≤ D := by have := H1E.out; omega
    exact ⟨H1B.out, H1B.out.setCell hd _, H1B.out.setCell hd _, (H1B.out.setCell hd _).setCell hd _⟩
  obtain ⟨n1, h1⟩ : ∃ n1, decide (q.n < -1) = n1 := ⟨_, rfl⟩
  obtain ⟨n2, h2⟩ : ∃ n2, decide (q.m < -1) = n2 := ⟨_, rfl⟩
  obtain ⟨n3, h3⟩ : ∃ n3, decide (0 ≤ q.n) = n3 := ⟨_, rfl⟩
  obtain ⟨n4, h4⟩ : ∃ n4, decide (0 ≤ q.m) = n4 := ⟨_, rfl⟩
  have g1 := h1
  go_wp2_with (first | (go_at_call 111; (with_reducible refine (C111.out _ (HD.out (.int .i64 0) (.int .i64 0)).1 _ _).mono ?_); rintro e wn ⟨code, rfl, hw⟩; have HW := Lib.hid hw; clear hw) | (go_at_call 111; (with_reducible refine (C111.out _ (HD.out _ (.int .i64 0)).2.1 _ _).mono ?_); rintro e wn ⟨code, rfl, hw⟩; have HW := Lib.hid hw; clear hw) | (go_at_call 111; (with_reducible refine (C111.out _ (HD.out (.int .i64 0) _).2.2.1 _ _).mono ?_); rintro e wn ⟨code, rfl, hw⟩; have HW := Lib.hid hw; clear hw) | (go_at_call 111; (with_reducible refine (C111.out _ (HD.out _ _).2.2.2 _ _).mono ?_); rintro e wn ⟨code, rfl, hw⟩; have HW := Lib.hid hw; clear hw))
  all_goals
    refine int_ret rfl rfl ?_
    first
      | with_reducible exact HS.out _ H1B.out _
      | with_reducible exact HW.out
end Go.Proofs.YtfjghemojnhmbaaGreat
/- The world of chapter 13: results. -/
namespace Go.Proofs.YtfjghemojnhmbaaGreat
open Go.RowKit

/-- What was there at the beginning stays where new memory is written. -/
theorem Fr.fresh {S : Nat → Prop} {T : List TypeId} {a w : World} {b i : Nat} (h : Fr S T a w) (hb : a.heap.size ≤ b) (v : Value) : Fr S T a (w.setCell ⟨b, i, none⟩ v) :=
  ⟨h.os, h.tape, h.output, by simpa using h.size, fun k hk => by
    have e : (w.setCell ⟨b, i, none⟩ v).heap[k]? = w.heap[k]? := Below.heap_setCell _ _ _ _ (fun q => by have q' : k = b := q; omega)
    rw [e]; exact h.block k hk⟩
theorem TR.fresh {S : Nat → Prop} {w : World} {t c b i : Nat} {bs : List Nat} {T : List (Option Nd)} {e : TypeId} {cs : Array Value} (h : TR S w t c bs T) (hb : Blk w b e cs) (he : e ∉ TT) (h8 : e ≠ 188) (v : Value) : TR S (w.setCell ⟨b, i, none⟩ v) t c bs T := by
  obtain ⟨M, p, u, ht⟩ := h
  exact ⟨M, p, u, ht.fr (Ts := [e]) (fun _ h => h) (Fr.one (S := fun _ => True) hb trivial (by simp) v) (fun x hx hx2 => he (by rw [List.mem_singleton.1 hx2] at hx; exact hx)) (fun hx => h8 (List.mem_singleton.1 hx).symm)⟩
theorem TStep.fresh {S S' : Nat → Prop} {w X : World} {t c b i : Nat} {bs : List Nat} {T : List (Option Nd)} {e : TypeId} {cs : Array Value} (h : TStep S S' t c bs w X T) (hb : Blk X b e cs) (he : e ∉ TT) (h8 : e ≠ 188) (hw : w.heap.size ≤ b) (v : Value) : TStep S S' t c bs w (X.setCell ⟨b, i, none⟩ v) T :=
  ⟨h.sub, h.sup, h.fr.fresh hw v, h.tr.fresh hb he h8 v⟩
def res11 (X : World) (E : Nat) (a0 a1 a2 a3 a4 a5 a6 a7 a8 a9 a10 : Value) : World := ((((((((((X.setCell ⟨E, 0, none⟩ a0).setCell ⟨E, 1, none⟩ a1).setCell ⟨E, 2, none⟩ a2).setCell ⟨E, 3, none⟩ a3).setCell ⟨E, 4, none⟩ a4).setCell ⟨E, 5, none⟩ a5).setCell ⟨E, 6, none⟩ a6).setCell ⟨E, 7, none⟩ a7).setCell ⟨E, 8, none⟩ a8).setCell ⟨E, 9, none⟩ a9).setCell ⟨E, 10, none⟩ a10
def pl2 (X : World) (F : Nat) (m n : Value) : World := (X.setCell ⟨F, 0, none⟩ m).setCell ⟨F, 1, none⟩ n
def rz : Array Value := #[.int .i64 0, .int .i64 0, .slice none 0 0, .slice none 0 0, .int .i64 0, .int .i64 0, .int .i64 0, .int .i64 0, .int .i64 0, .int .i64 0, .int .i64 0]
theorem Blk.res {w : World} {E : Nat} (h : Blk w E 40 rz) (a0 a1 a2 a3 a4 a5 a6 a7 a8 a9 a10 : Value) : Blk (res11 w E a0 a1 a2 a3 a4 a5 a6 a7 a8 a9 a10) E 40 #[a0, a1, a2, a3, a4, a5, a6, a7, a8, a9, a10] := by
  have := ((((((((((h.set 0 a0).set 1 a1).set 2 a2).set 3 a3).set 4 a4).set 5 a5).set 6 a6).set 7 a7).set 8 a8).set 9 a9).set 10 a10
  unfold res11
  simpa [rz] using this
theorem Blk.pl {w : World} {F : Nat} (h : Blk w F 75 #[.int .i64 0, .int .i64 0]) (m n : Value) : Blk (pl2 w F m n) F 75 #[m, n] := by
  have := (h.set 0 m).set 1 n
  unfold pl2
  simpa using this
theorem Blk.resO {w : World} {E b : Nat} {e : TypeId} {cs : Array Value} (h : Blk w b e cs) (hb : E ≠ b) (a0 a1 a2 a3 a4 a5 a6 a7 a8 a9 a10 : Value) : Blk (res11 w E a0 a1 a2 a3 a4 a5 a6 a7 a8 a9 a10) b e cs := by
  unfold res11
  exact ((((((((((h.other hb _).other hb _).other hb _).other hb _).other hb _).other hb _).other hb _).other hb _).other hb _).other hb _).other hb _
theorem Blk.plO {w : World} {F b : Nat} {e : TypeId} {cs : Array Value} (h : Blk w b e cs) (hb : F ≠ b) (m n : Value) : Blk (pl2 w F m n) b e cs := by
  unfold pl2
  exact (h.other hb _).other hb _
theorem frm_cell {l : List Nat} {a w : World} {b i : Nat} (h : Frm l a w) (hb : b ∈ l) (v : Value) : Frm l a (w.setCell ⟨b, i, none⟩ v) :=
  ⟨h.os, h.tape, h.output, by simpa using h.size, fun k hk hn => by
    have e : (w.setCell ⟨b, i, none⟩ v).heap[k]? = w.heap[k]? := Below.heap_setCell _ _ _ _ (fun q => hn (by have q' : k = b := q; rw [q']; exact hb))
    rw [e]; exact h.block k hk hn⟩
theorem frm_ask (X : World) (E F : Nat) (a0 a1 a2 a3 a4 a5 a6 a7 a8 a9 a10 m n : Value) : Frm [E, F] X (pl2 (res11 X E a0 a1 a2 a3 a4 a5 a6 a7 a8 a9 a10) F m n) := by
  unfold pl2 res11
  have hE : E ∈ [E, F] := by simp
  have hF : F ∈ [E, F] := by simp
  exact frm_cell (frm_cell (frm_cell (frm_cell (frm_cell (frm_cell (frm_cell (frm_cell (frm_cell (frm_cell (frm_cell (frm_cell (frm_cell (Frm.refl _ _) hE _) hE _) hE _) hE _) hE _) hE _) hE _) hE _) hE _) hE _) hE _) hF _) hF _
theorem below_ask {B : Nat} {w X : World} {E F : Nat} (h : Below B w X) (hE : B ≤ E) (hF : B ≤ F) (a0 a1 a2 a3 a4 a5 a6 a7 a8 a9 a10 m n : Value) : Below B w (pl2 (res11 X E a0 a1 a2 a3 a4 a5 a6 a7 a8 a9 a10) F m n) := by
  unfold pl2 res11
  exact ((((((((((((h.setCell hE _).setCell hE _).setCell hE _).setCell hE _).setCell hE _).setCell hE _).setCell hE _).setCell hE _).setCell hE _).setCell hE _).setCell hE _).setCell hF _).setCell hF _
theorem TStep.res {S S' : Nat → Prop} {w X : World} {t c E : Nat} {bs : List Nat} {T : List (Option Nd)} (h : TStep S S' t c bs w X T) (hb : Blk X E 40 rz) (hw : w.heap.size ≤ E) (a0 a1 a2 a3 a4 a5 a6 a7 a8 a9 a10 : Value) : TStep S S' t c bs w (res11 X E a0 a1 a2 a3 a4 a5 a6 a7 a8 a9 a10) T := by
  have q : ∀ {Y : World} {cs : Array Value} (i : Nat) (v : Value), TStep S S' t c bs w Y T ∧ Blk Y E 40 cs → TStep S S' t c bs w (Y.setCell ⟨E, i, none⟩ v) T ∧ Blk (Y.setCell ⟨E, i, none⟩ v) E 40 (cs.setIfInBounds i v) := fun i v hq => ⟨hq.1.fresh hq.2 (by decide) (by decide) hw v, hq.2.set i v⟩
  unfold res11
  exact (q 10 a10 (q 9 a9 (q 8 a8 (q 7 a7 (q 6 a6 (q 5 a5 (q 4 a4 (q 3 a3 (q 2 a2 (q 1 a1 (q 0 a0 ⟨h, hb⟩))))))))))).1
theorem TStep.pl {S S' : Nat → Prop} {w X : World} {t c F : Nat} {bs : List Nat} {T : List (Option Nd)} (h : TStep S S' t c bs w X T) (hb : Blk X F 75 #[.int .i64 0, .int .i64 0]) (hw : w.heap.size ≤ F) (m n : Value) : TStep S S' t c bs w (pl2 X F m n) T := by
  unfold pl2
  exact (h.fresh hb (by decide) (by decide) hw m).fresh (hb.set 0 m) (by decide) (by decide) hw n
theorem ask_out {fn : Func} {tmps : Array Value} {w : World} {E F a b : Nat} {a0 a1 a2 a3 a4 a5 a6 a7 a8 a9 a10 m n : Value} (hr : fn.results = #[.cell a 40, .cell b 75]) (h4 : tmps.getD a undef = .pointer (some ⟨E, 0, none⟩)) (h5 : tmps.getD b undef = .pointer (some ⟨F, 0, none⟩))
    (h : Holds w E #[a0, a1, a2, a3, a4, a5, a6, a7, a8, a9, a10]) (hF : Holds w F #[m, n]) : (results fn tmps).run Tryz.prog w = .ok (.tuple #[.agg #[a0, a1, a2, a3, a4, a5, a6, a7, a8, a9, a10], .agg #[m, n]]) w := by
  have v0 : w.cell? ⟨E, 0, none⟩ = some a0 := h.cell 0
  have v1 : w.cell? ⟨E, 1, none⟩ = some a1 := h.cell 1
  have v2 : w.cell? ⟨E, 2, none⟩ = some a2 := h.cell 2
  have v3 : w.cell? ⟨E, 3, none⟩ = some a3 := h.cell 3
  have v4 : w.cell? ⟨E, 4, none⟩ = some a4 := h.cell 4
  have v5 : w.cell? ⟨E, 5, none⟩ = some a5 := h.cell 5
  have v6 : w.cell? ⟨E, 6, none⟩ = some a6 := h.cell 6
  have v7 : w.cell? ⟨E, 7, none⟩ = some a7 := h.cell 7
  have v8 : w.cell? ⟨E, 8, none⟩ = some a8 := h.cell 8
  have v9 : w.cell? ⟨E, 9, none⟩ = some a9 := h.cell 9
  have v10 : w.cell? ⟨E, 10, none⟩ = some a10 := h.cell 10
  have u0 : w.cell? ⟨F, 0, none⟩ = some m := hF.cell 0
  have u1 : w.cell? ⟨F, 1, none⟩ = some n := hF.cell 1
  unfold results
  rw [hr]
  have h4' : tmps[a]?.getD undef = .pointer (some ⟨E, 0, none⟩) := by rw [← h4]; simp
  have h5' : tmps[b]?.getD undef = .pointer (some ⟨F, 0, none⟩) := by rw [← h5]; simp
  simp [asAddr, h4', h5', go_sem, v0, v1, v2, v3, v4, v5, v6, v7, v8, v9, v10, u0, u1]
theorem box5 (w : World) (a : Array Value) (ta : TypeId) (b : Array Value) (tb : TypeId) (c : Array Value) (tc : TypeId) (d : Array Value) (td : TypeId) (f : Array Value) (tf : TypeId) : Below w.heap.size w (((((w.alloc (.cells a ta)).alloc (.cells b tb)).alloc (.cells c tc)).alloc (.cells d td)).alloc (.cells f tf)) ∧ Blk (((((w.alloc (.cells a ta)).alloc (.cells b tb)).alloc (.cells c tc)).alloc (.cells d td)).alloc (.cells f tf)) w.heap.size ta a ∧ Blk (((((w.alloc (.cells a ta)).alloc (.cells b tb)).alloc (.cells c tc)).alloc (.cells d td)).alloc (.cells f tf)) (w.heap.size + 1) tb b ∧ Blk (((((w.alloc (.cells a ta)).alloc (.cells b tb)).alloc (.cells c tc)).alloc (.cells d td)).alloc (.cells f tf)) (w.heap.size + 1 + 1) tc c ∧ Blk (((((w.alloc (.cells a ta)).alloc (.cells b tb)).alloc (.cells c tc)).alloc (.cells d td)).alloc (.cells f tf)) (w.heap.size + 1 + 1 + 1) td d ∧ Blk (((((w.alloc (.cells a ta)).alloc (.cells b tb)).alloc (.cells c tc)).alloc (.cells d td)).alloc (.cells f tf)) (w.heap.size + 1 + 1 + 1 + 1) tf f := by
  obtain ⟨h1, h2, h3, h4, h5⟩ := box4 w a ta b tb c tc d td
  exact ⟨h1.alloc h1.size _, h2.alloc _, h3.alloc _, h4.alloc _, h5.alloc _, by simpa using Blk.new ((((w.alloc (.cells a ta)).alloc (.cells b tb)).alloc (.cells c tc)).alloc (.cells d td)) f tf⟩
theorem box5g {w : World} {a b c d e : Array Value} {ta tb tc td te : TypeId} {K : World → Prop} (h : ∀ W, Below w.heap.size w W → Blk W w.heap.size ta a ∧ Blk W (w.heap.size + 1) tb b ∧ Blk W (w.heap.size + 1 + 1) tc c ∧ Blk W (w.heap.size + 1 + 1 + 1) td d ∧ Blk W (w.heap.size + 1 + 1 + 1 + 1) te e → K W) : K (((((w.alloc (.cells a ta)).alloc (.cells b tb)).alloc (.cells c tc)).alloc (.cells d td)).alloc (.cells e te)) := h _ (box5 w a ta b tb c tc d td e te).1 (box5 w a ta b tb c tc d td e te).2
theorem res_out {fn : Func} {tmps : Array Value} {w : World} {E a : Nat} {a0 a1 a2 a3 a4 a5 a6 a7 a8 a9 a10 : Value} (hr : fn.results = #[.cell a 40]) (h4 : tmps.getD a undef = .pointer (some ⟨E, 0, none⟩))
    (h : Holds w E #[a0, a1, a2, a3, a4, a5, a6, a7, a8, a9, a10]) : (results fn tmps).run Tryz.prog w = .ok (.agg #[a0, a1, a2, a3, a4, a5, a6, a7, a8, a9, a10]) w := by
  have v0 : w.cell? ⟨E, 0, none⟩ = some a0 := h.cell 0
  have v1 : w.cell? ⟨E, 1, none⟩ = some a1 := h.cell 1
  have v2 : w.cell? ⟨E, 2, none⟩ = some a2 := h.cell 2
  have v3 : w.cell? ⟨E, 3, none⟩ = some a3 := h.cell 3
  have v4 : w.cell? ⟨E, 4, none⟩ = some a4 := h.cell 4
  have v5 : w.cell? ⟨E, 5, none⟩ = some a5 := h.cell 5
  have v6 : w.cell? ⟨E, 6, none⟩ = some a6 := h.cell 6
  have v7 : w.cell? ⟨E, 7, none⟩ = some a7 := h.cell 7
  have v8 : w.cell? ⟨E, 8, none⟩ = some a8 := h.cell 8
  have v9 : w.cell? ⟨E, 9, none⟩ = some a9 := h.cell 9
  have v10 : w.cell? ⟨E, 10, none⟩ = some a10 := h.cell 10
  unfold results
  rw [hr]
  have h4' : tmps[a]?.getD undef = .pointer (some ⟨E, 0, none⟩) := by rw [← h4]; simp
  simp [asAddr, h4', go_sem, v0, v1, v2, v3, v4, v5, v6, v7, v8, v9, v10]
/-- The slices of a result lie in new memory of nobody's. -/
def Rmem (w w' : World) (S S' : Nat → Prop) (r : Res) (y z : Value) : Prop := (y = .slice none 0 0 ∧ z = .slice none 0 0 ∧ r.ds = [] ∧ r.ss = []) ∨ ((∀ k, S' k → S k) ∧ Den 1 w' y (byts r.ds) ∧ Den 16 w' z (strs r.ss) ∧ From w.heap.size y ∧ From w.heap.size z)
/-- What the calls on names answer. -/
def AskP (S : Nat → Prop) (t c : Nat) (R : Nat → Nat) (T : List (Option Nd)) (op : Int) (w : World) (e : Ending) (w' : World) : Prop := ∃ (r : Res) (y z : Value) (m n : Int) (S' : Nat → Prop) (bs' : List Nat) (T' : List (Option Nd)), e = .returned (.tuple #[.agg (r.cells y z).toArray, .agg #[.int .i64 m, .int .i64 n]]) ∧
  TStep S S' t c bs' w w' T' ∧ TInv T' R none ∧ KK T T' ∧ Rmem w w' S S' r y z ∧ fldI op r = true ∧ (op = 17 → r.w = 0 → PlaceOk T' m n)
def Res.no (code : Int) : Res := { Res.zero with w := code }
theorem fld_no {op code : Int} (h : code ≠ 0 ∨ op ≠ 14) : fldI op (Res.no code) = true := by
  unfold fldI Res.no Res.zero stat0
  dsimp only
  by_cases h0 : code = 0
  · have h14 : ¬ op = 14 := h.resolve_left (fun q => q h0)
    simp [h0, h14, statI, Res.zero]
  · simp [h0, statI, Res.zero]
theorem ask_fin {S S' : Nat → Prop} {w X : World} {t c E F : Nat} {bs' : List Nat} {R : Nat → Nat} {T T' : List (Option Nd)} {op m n : Int} {fn : Func} {tmps : Array Value} {a b : Nat} (r : Res) (y z : Value) (hr : fn.results = #[.cell a 40, .cell b 75])
    (hs : TStep S S' t c bs' w X T') (hi : TInv T' R none) (hk : KK T T') (hE : Blk X E 40 rz) (hF : Blk X F 75 #[.int .i64 0, .int .i64 0]) (wE : w.heap.size ≤ E) (wF : w.heap.size ≤ F) (hEF : E ≠ F)
    (hm : Rmem w X S S' r y z) (ho : Off y E ∧ Off y F ∧ Off z E ∧ Off z F) (hf : fldI op r = true) (hp : op = 17 → r.w = 0 → PlaceOk T' m n)
    (h4 : tmps.getD a undef = .pointer (some ⟨E, 0, none⟩)) (h5 : tmps.getD b undef = .pointer (some ⟨F, 0, none⟩)) :
    bodyPost Tryz.prog fn (AskP S t c R T op w) .ret ⟨tmps, []⟩ (pl2 (res11 X E (.int .i64 r.w) (.int .i64 r.n) y z (.int .i64 r.s0) (.int .i64 r.s1) (.int .i64 r.s2) (.int .i64 r.s3) (.int .i64 r.s4) (.int .i64 r.s5) (.int .i64 r.s6)) F (.int .i64 m) (.int .i64 n)) := by
  have b1 := hE.res (.int .i64 r.w) (.int .i64 r.n) y z (.int .i64 r.s0) (.int .i64 r.s1) (.int .i64 r.s2) (.int .i64 r.s3) (.int .i64 r.s4) (.int .i64 r.s5) (.int .i64 r.s6)
  have b2 := hF.resO hEF (.int .i64 r.w) (.int .i64 r.n) y z (.int .i64 r.s0) (.int .i64 r.s1) (.int .i64 r.s2) (.int .i64 r.s3) (.int .i64 r.s4) (.int .i64 r.s5) (.int .i64 r.s6)
  refine bodyPost_ret (ask_out hr h4 h5 (b1.plO (fun q => hEF q.symm) _ _).holds (b2.pl _ _).holds) rfl ⟨r, y, z, m, n, S', bs', T', rfl, ((hs.res hE wE _ _ _ _ _ _ _ _ _ _ _).pl b2 wF _ _), hi, hk, ?_, hf, hp⟩
  rcases hm with h | ⟨h1, h2, h3, h4, h5⟩
  · exact .inl h
  · have hfm := frm_ask X E F (.int .i64 r.w) (.int .i64 r.n) y z (.int .i64 r.s0) (.int .i64 r.s1) (.int .i64 r.s2) (.int .i64 r.s3) (.int .i64 r.s4) (.int .i64 r.s5) (.int .i64 r.s6) (.int .i64 m) (.int .i64 n)
    exact .inr ⟨h1, h2.frm hfm (fun k hk => by rcases List.mem_cons.1 hk with rfl | hk; exact ho.1; rw [List.mem_singleton.1 hk]; exact ho.2.1), h3.frm hfm (fun k hk => by rcases List.mem_cons.1 hk with rfl | hk; exact ho.2.2.1; rw [List.mem_singleton.1 hk]; exact ho.2.2.2), h4, h5⟩
theorem off_nil (B : Nat) : Off (.slice none 0 0) B := fun a n c h => by cases h
theorem from_nil (B : Nat) : From B (.slice none 0 0) := fun a n c h => by cases h
set_option maxRecDepth 100000 in
theorem no13_any (n : Int) (w : World) : Calls Tryz.prog 38 #[.int .i64 n] w fun e w' => e = .returned (.agg #[.int .i64 n, .int .i64 0, .slice none 0 0, .slice none 0 0, .int .i64 0, .int .i64 0, .int .i64 0, .int .i64 0, .int .i64 0, .int .i64 0, .int .i64 0]) ∧ Below w.heap.size w w' := by
  go_enter Tryz.func38, Tryz.ntmps38
  go_wp2_with fail
  exact bodyPost_ret (res_out rfl rfl (Holds.new _ _ _)) rfl ⟨rfl, (Below.refl _ _).alloc (Nat.le_refl _) _⟩
/-- A string's bytes in new memory. -/
theorem run_conv (w : World) (s : ByteArray) : (convert 9 35 (.string s)).run Tryz.prog w = .ok (.slice (some ⟨w.heap.size, 0, none⟩) s.size (grownCap w s.size 0 5)) (Lib.bytesWorld w 5 s) :=
  Lib.run_convert_string_bytes w 9 35 5 s Tryz.underlying9 Tryz.underlying35 Tryz.underlying5
def numsOf (s : ByteArray) : List Int := s.data.toList.map fun b => (b.toNat : Int)
theorem conv_below (w : World) (s : ByteArray) : Below w.heap.size w (Lib.bytesWorld w 5 s) :=
  ⟨rfl, rfl, rfl, by rw [Lib.bytesWorld_size]; omega, fun k hk => Lib.bytesWorld_at_old w 5 s k hk⟩
theorem conv_den (w : World) (s : ByteArray) (hs : s.size ≤ 5000) : Den 1 (Lib.bytesWorld w 5 s) (.slice (some ⟨w.heap.size, 0, none⟩) s.size (grownCap w s.size 0 5)) (byts (numsOf s)) := by
  refine ⟨_, _, _, rfl, ?_, grownCap_ge _ _ _ _, grownCap_le_maxLen _ _ _ _ (by unfold maxLen; omega), by omega, (fun h => by cases h), fun hn => ⟨_, _, rfl, by rw [Lib.bytesWorld_size]; omega, fun i hi => ?_⟩⟩
  · unfold byts numsOf
    rw [List.length_map, List.length_map]
    rfl
  · rw [Nat.zero_add, Lib.bytesWorld_cell w 5 s i hi]
    have hi' : i < s.data.toList.length := hi
    unfold byts numsOf
    rw [List.getElem?_map, List.getElem?_map, List.getElem?_eq_getElem hi', List.getD_eq_getElem?_getD, List.getElem?_eq_getElem hi']
    rfl
theorem ctx_text {S : Nat → Prop} {w : World} {t c : Nat} {bs : List Nat} {T : List (Option Nd)} {tb : Nat} {tv : Value} {l : List Mt} (hc : Ctx S w t c bs T tb tv l) (n : Int) (hn : R64 n) :
    Calls Tryz.prog 71 #[.pointer (some ⟨t, 0, none⟩), .int .i64 n] w fun e w' => w' = w ∧ ∃ s : ByteArray, e = .returned (.string s) ∧ s.size ≤ 5000 := by
  obtain ⟨M, p, v, ht⟩ := hc.tr
  exact text_any ht (by have := hc.cc; omega) n hn
theorem ctx_names {S : Nat → Prop} {w : World} {t c : Nat} {bs : List Nat} {T : List (Option Nd)} {tb : Nat} {tv : Value} {l : List Mt} (hc : Ctx S w t c bs T tb tv l) (n : Int) (hn : R64 n) :
    Calls Tryz.prog 77 #[.pointer (some ⟨t, 0, none⟩), .int .i64 n] w (NamesP w) := by
  obtain ⟨M, p, v, ht⟩ := hc.tr
  exact names_any ht (by have := hc.cc; omega) n hn
theorem from_new {B k o n c : Nat} (h : B ≤ k) : From B (.slice (some ⟨k, o, none⟩) n c) := fun a n' c' e => by
  injection e with e1 e2 e3
  injection e1 with e1
  subst e1
  exact h
theorem off_new {B k o n c : Nat} (h : k ≠ B) : Off (.slice (some ⟨k, o, none⟩) n c) B := fun a n' c' e => by
  injection e with e1 e2 e3
  injection e1 with e1
  subst e1
  exact h
theorem Win.den {w : World} {base by_ : Nat} {e : TypeId} {v : Value} {xs : List Value} (h : Win w base e 1 v xs.length xs) (hb : xs.length * by_ ≤ 140737488351232) : Den by_ w v xs ∧ From base v := by
  obtain ⟨h1, q | ⟨f, o, cap, cur, rfl, h4, h5, h6, h7, h8, h9⟩⟩ := h
  · obtain ⟨rfl, q2⟩ := q
    obtain rfl : xs = [] := List.eq_nil_of_length_eq_zero q2
    exact ⟨Den.nil _ _, from_nil _⟩
  · have hlt : f < w.heap.size := (Array.getElem?_eq_some_iff.1 h5).1
    refine ⟨⟨_, _, _, rfl, rfl, h6, h7, hb, (fun h => by cases h), fun hn => ⟨_, _, rfl, hlt, fun i hi => ?_⟩⟩, from_new h4⟩
    have := h9 i (by omega)
    simp [World.cell?, h5, this]
theorem From.offB {B k : Nat} {v : Value} (h : From B v) (hk : k < B) : Off v k := h.off hk
theorem rz_cells {w : World} {E : Nat} (h : Blk w E 40 rz) : w.cell? ⟨E, 0, none⟩ = some (.int .i64 0) ∧ w.cell? ⟨E, 1, none⟩ = some (.int .i64 0) ∧ w.cell? ⟨E, 2, none⟩ = some (.slice none 0 0) ∧ w.cell? ⟨E, 3, none⟩ = some (.slice none 0 0) ∧ w.cell? ⟨E, 4, none⟩ = some (.int .i64 0) ∧ w.cell? ⟨E, 5, none⟩ = some (.int .i64 0) ∧ w.cell? ⟨E, 6, none⟩ = some (.int .i64 0) ∧ w.cell? ⟨E, 7, none⟩ = some (.int .i64 0) ∧ w.cell? ⟨E, 8, none⟩ = some (.int .i64 0) ∧ w.cell? ⟨E, 9, none⟩ = some (.int .i64 0) ∧ w.cell? ⟨E, 10, none⟩ = some (.int .i64 0) ∧ ∀ j, w.frozen? ⟨E, j, none⟩ = false :=
  ⟨h.cell 0, h.cell 1, h.cell 2, h.cell 3, h.cell 4, h.cell 5, h.cell 6, h.cell 7, h.cell 8, h.cell 9, h.cell 10, h.free⟩
theorem p2_cells {w : World} {F : Nat} (h : Blk w F 75 #[.int .i64 0, .int .i64 0]) : w.cell? ⟨F, 0, none⟩ = some (.int .i64 0) ∧ w.cell? ⟨F, 1, none⟩ = some (.int .i64 0) ∧ ∀ j, w.frozen? ⟨F, j, none⟩ = false := ⟨h.cell 0, h.cell 1, h.free⟩
theorem fld_info {S : Nat → Prop} {w : World} {t c : Nat} {bs : List Nat} {T : List (Option Nd)} {tb : Nat} {tv : Value} {l : List Mt} (hc : Ctx S w t c bs T tb tv l) {n : Int} {s : Stt} (hs : StQ T n s) (hl : Liv T n) : fldI 14 ⟨0, 0, s.node, s.kind, s.mode, s.uid, s.gid, s.links, s.size, [], []⟩ = true := by
  obtain ⟨M, p, v, ht⟩ := hc.tr
  rcases hs with ⟨_, h2⟩ | ⟨i, x, lk, sz, h1, h2, _, _, rfl⟩
  · obtain ⟨i, x, rfl, hx⟩ := hl
    rw [lv_of hx] at h2
    cases h2
  · have ok := ht.ok i x h2
    have q1 := ok.k0
    have q2 := ok.k1
    have q3 := ok.m0
    have q4 := ok.m1
    simp only [fldI, statOk, Nd.stt]
    simp
    exact decide_eq_true ⟨by omega, q1, q2, q3, q4⟩
/-- What is left when a call has turned the tree and its number is told. -/
theorem ask_mut {S : Nat → Prop} {w X X2 X3 : World} {t c c' E F : Nat} {bs : List Nat} {R : Nat → Nat} {T : List (Option Nd)} {tb : Nat} {tv : Value} {l : List Mt} {op code : Int} {fn : Func} {a b : Nat} (_hc : Ctx S w t c bs T tb tv l) (hbw : Below w.heap.size w X) (hr : fn.results = #[.cell a 40, .cell b 75]) (hE : Blk X E 40 rz) (hF : Blk X F 75 #[.int .i64 0, .int .i64 0]) (wE : w.heap.size ≤ E) (wF : w.heap.size ≤ F) (hEF : E ≠ F)
    (h : WOp S t c' R T X (.returned (.int .i64 code)) X2) (hb : Below X2.heap.size X2 X3) (hop : op ≠ 14 ∧ op ≠ 17) :
    (Blk X3 E 40 rz ∧ Blk X3 F 75 #[.int .i64 0, .int .i64 0]) ∧ ∀ tm : Array Value, tm.getD a undef = .pointer (some ⟨E, 0, none⟩) → tm.getD b undef = .pointer (some ⟨F, 0, none⟩) → bodyPost Tryz.prog fn (AskP S t c' R T op w) .ret ⟨tm, []⟩ (pl2 (res11 X3 E (.int .i64 code) (.int .i64 0) (.slice none 0 0) (.slice none 0 0) (.int .i64 0) (.int .i64 0) (.int .i64 0) (.int .i64 0) (.int .i64 0) (.int .i64 0) (.int .i64 0)) F (.int .i64 0) (.int .i64 0)) := by
  obtain ⟨code2, S', bs', T', he, hs, hi, hk⟩ := h
  cases he
  have e1 : Blk X3 E 40 rz := (hE.fr hs.fr (by decide)).below hb
  have e2 : Blk X3 F 75 #[.int .i64 0, .int .i64 0] := (hF.fr hs.fr (by decide)).below hb
  refine ⟨⟨e1, e2⟩, fun tm h4 h5 => ?_⟩
  exact ask_fin (Res.no code) (.slice none 0 0) (.slice none 0 0) hr ((hs.trans (TStep.same hs.tr hb)).below hbw) hi hk e1 e2 wE wF hEF (.inl ⟨rfl, rfl, rfl, rfl⟩) ⟨off_nil _, off_nil _, off_nil _, off_nil _⟩ (fld_no (.inr hop.1)) (fun h => absurd h hop.2) h4 h5
theorem ctx_setmode {S : Nat → Prop} {w : World} {t c : Nat} {bs : List Nat} {T : List (Option Nd)} {tb : Nat} {tv : Value} {l : List Mt} (hc : Ctx S w t c bs T tb tv l) {R : Nat → Nat} (hi : TInv T R none) (n : Int) (hn : R64 n) (m : Int) :
    Calls Tryz.prog 73 #[.pointer (some ⟨t, 0, none⟩), .int .i64 n, .int .i64 m] w fun e w' => ∃ code : Int, e = .returned (.int .i64 code) ∧ WOp S t (c + 3) R T w (.returned (.int .i64 code)) w' :=
  (setmode_any hc.tr (by have := hc.cc; omega) n hn m).mono fun e w' hm => WOp.turn hc hi (Below.refl _ _) hm (Nat.le_add_right _ _) (fun x y hy => by obtain ⟨m', _, _, rfl⟩ := hy; exact ⟨rfl, rfl, rfl, rfl, rfl⟩)
theorem ctx_cut {S : Nat → Prop} {w : World} {t c : Nat} {bs : List Nat} {T : List (Option Nd)} {tb : Nat} {tv : Value} {l : List Mt} (hc : Ctx S w t c bs T tb tv l) {R : Nat → Nat} (hi : TInv T R none) (n : Int) (hn : R64 n) (m : Int) :
    Calls Tryz.prog 76 #[.pointer (some ⟨t, 0, none⟩), .int .i64 n, .int .i64 m] w fun e w' => ∃ code : Int, e = .returned (.int .i64 code) ∧ WOp S t (c + 3) R T w (.returned (.int .i64 code)) w' :=
  (tcut_any hc.tr (by have := hc.cc; omega) n m hn).mono fun e w' hm => by
    obtain ⟨code, S', rfl, _, _, hs⟩ := hm
    exact ⟨code, rfl, code, S', bs, T, rfl, hs.mono (Nat.le_add_right _ _), hi, KK.refl T⟩
theorem StQ.r64 {S : Nat → Prop} {w : World} {t c : Nat} {bs : List Nat} {T : List (Option Nd)} {tb : Nat} {tv : Value} {l : List Mt} {n : Int} {s : Stt} (h : StQ T n s) (hc : Ctx S w t c bs T tb tv l) : R64 s.node := by
  rcases h with ⟨rfl, _⟩ | ⟨i, x, lk, sz, h1, h2, _, _, rfl⟩
  · exact ⟨by decide, by decide⟩
  · have h3 := hc.tl
    have h4 := (List.getElem?_eq_some_iff.1 h2).1
    constructor
    · show -9223372036854775808 ≤ ((i + 1 : Nat) : Int)
      omega
    · show ((i + 1 : Nat) : Int) ≤ 9223372036854775807
      omega
theorem far_cell (w : World) {E k i j : Nat} (hk : ¬ E = k) (v : Value) : (w.setCell ⟨E, i, none⟩ v).cell? ⟨k, j, none⟩ = w.cell? ⟨k, j, none⟩ := by
  have e0 : (w.setCell ⟨E, i, none⟩ v).heap[k]? = w.heap[k]? := Below.heap_setCell _ _ _ _ (fun q => hk q.symm)
  simp only [World.cell?, e0]
theorem res11_far (w : World) {E k j : Nat} (hk : ¬ E = k) (a0 a1 a2 a3 a4 a5 a6 a7 a8 a9 a10 : Value) : (res11 w E a0 a1 a2 a3 a4 a5 a6 a7 a8 a9 a10).cell? ⟨k, j, none⟩ = w.cell? ⟨k, j, none⟩ := by
  unfold res11
  simp only [far_cell _ hk]
theorem pl2_far (w : World) {F k j : Nat} (hk : ¬ F = k) (m n : Value) : (pl2 w F m n).cell? ⟨k, j, none⟩ = w.cell? ⟨k, j, none⟩ := by
  unfold pl2
  simp only [far_cell _ hk]
theorem drew_set (X : World) (a : Addr) (v : Value) : X.drew.setCell a v = (X.setCell a v).drew := rfl
theorem drew_ask (X : World) (E F : Nat) (a0 a1 a2 a3 a4 a5 a6 a7 a8 a9 a10 m n : Value) : pl2 (res11 X.drew E a0 a1 a2 a3 a4 a5 a6 a7 a8 a9 a10) F m n = (pl2 (res11 X E a0 a1 a2 a3 a4 a5 a6 a7 a8 a9 a10) F m n).drew := by
  unfold pl2 res11
  simp only [drew_set]
end Go.Proofs.YtfjghemojnhmbaaGreat
