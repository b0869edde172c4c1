/- The document's model: Seek. -/
import Derived.Deep.CutBlock
import Derived.Test.YtfjghemojnhmbaaGreatXa
import Derived.Test.YtfjghemojnhmbaaGreatYa
namespace Go.Proofs.YtfjghemojnhmbaaGreat
open Go.RowKit

theorem TT_TD : ∀ e ∈ TT, e ∈ TD := by decide
theorem frm_res (X : World) (E : Nat) (a0 a1 a2 a3 a4 a5 a6 a7 a8 a9 a10 : Value) : Frm [E] X (res11 X E a0 a1 a2 a3 a4 a5 a6 a7 a8 a9 a10) := by
  unfold res11
  have hE : E ∈ [E] := by simp
  exact frm_cell (frm_cell (frm_cell (frm_cell (frm_cell (frm_cell (frm_cell (frm_cell (frm_cell (frm_cell (frm_cell (Frm.refl _ _) hE _) hE _) hE _) hE _) hE _) hE _) hE _) hE _) hE _) hE _) hE _
theorem fr_resW {S : Nat → Prop} {Ts : List TypeId} {w X : World} {E : Nat} (h : Fr S Ts w X) (wE : w.heap.size ≤ E) (a0 a1 a2 a3 a4 a5 a6 a7 a8 a9 a10 : Value) : Fr S Ts w (res11 X E a0 a1 a2 a3 a4 a5 a6 a7 a8 a9 a10) := by
  unfold res11
  exact ((((((((((h.fresh wE _).fresh wE _).fresh wE _).fresh wE _).fresh wE _).fresh wE _).fresh wE _).fresh wE _).fresh wE _).fresh wE _).fresh wE _
theorem fr_res {S : Nat → Prop} {X : World} {E : Nat} (hb : Blk X E 40 rz) (hs : S E) (a0 a1 a2 a3 a4 a5 a6 a7 a8 a9 a10 : Value) : Fr S [40] X (res11 X E a0 a1 a2 a3 a4 a5 a6 a7 a8 a9 a10) := by
  have q : ∀ {Y : World} {cs : Array Value} (i : Nat) (v : Value), Fr S [40] X Y ∧ Blk Y E 40 cs → Fr S [40] X (Y.setCell ⟨E, i, none⟩ v) ∧ Blk (Y.setCell ⟨E, i, none⟩ v) E 40 (cs.setIfInBounds i v) := fun i v hq => ⟨hq.1.setCell hq.2 (.inl hs) (by simp) v, hq.2.set i v⟩
  unfold res11
  exact (q 10 a10 (q 9 a9 (q 8 a8 (q 7 a7 (q 6 a6 (q 5 a5 (q 4 a4 (q 3 a3 (q 2 a2 (q 1 a1 (q 0 a0 ⟨Fr.refl _ _ _, hb⟩))))))))))).1
/-- The model stays where others turn. -/
theorem MA.frT {S S0 : Nat → Prop} {Ts : List TypeId} {w w' : World} {g : MG} {c : Nat} {bs : List Nat} {T : List (Option Nd)} {tv : Value} {l : List Mt} {fl : Nat → Nat → Fl} {cw : Nat → Int × Int} (h : MA S w g c bs T tv l fl cw) (hf : Fr S0 Ts w w') (h0 : ∀ e ∈ TD, e ∉ Ts) (h1 : 188 ∉ Ts) (h2 : 73 ∉ Ts) (h3 : 56 ∉ Ts) : MA S w' g c bs T tv l fl cw :=
  ⟨h.blk.fr hf h2, h.who.frT hf h3, h.cwd.frT hf (h0 _ (by simp)), h.cwS, h.ft.fr (fun _ h => h) hf (h0 _ (by simp)), ⟨h.wi.tr.fr (fun _ h => h) hf (fun e he => h0 e (TT_TD e he)) h1, h.wi.inv, h.wi.tab.fr (fun _ h => h) hf (h0 _ (by simp)) (h0 _ (by simp)), h.wi.mi, h.wi.ml, h.wi.m0, h.wi.ll, h.wi.cc⟩, h.cr, h.ps⟩
theorem MA.files {S : Nat → Prop} {w w' : World} {g : MG} {c : Nat} {bs : List Nat} {T : List (Option Nd)} {tv : Value} {l : List Mt} {fl fl' : Nat → Nat → Fl} {cw : Nat → Int × Int} (h : MA S w g c bs T tv l fl cw) (hf : Fr S [121] w w') (ht : FtAt S w' g.fb fl') (hr : ∀ k, frefs fl' k = frefs fl k) (hps : ∀ p k, p < 8 → k < 8 → (fl' p k).pos ≤ 4294967296 + 1024 * (c : Int)) : MA S w' g c bs T tv l fl' cw :=
  ⟨h.blk.fr hf (by decide), h.who.frT hf (by decide), h.cwd.frT hf (by decide), h.cwS, ht, ⟨h.wi.tr.fr (fun _ h => h) hf (by decide) (by decide), h.wi.inv.congr (fun k => by rw [hr k]), h.wi.tab.fr (fun _ h => h) hf (by decide) (by decide), h.wi.mi, h.wi.ml, h.wi.m0, h.wi.ll, h.wi.cc⟩, h.cr, hps⟩
theorem MS.same {S : Nat → Prop} {w w' : World} {g : MG} {c c' : Nat} {bs : List Nat} {T : List (Option Nd)} {tv : Value} {l : List Mt} {fl : Nat → Nat → Fl} {cw : Nat → Int × Int} (h : MA S w g c bs T tv l fl cw) (hb : Below w.heap.size w w') (hc : c ≤ c') (hc' : c' ≤ 99000) : MS S S g c' w w' :=
  ⟨fun _ h => h, fun _ h => .inl h, Fr.of_below hb, bs, T, tv, l, fl, cw, (h.below hb).mono hc hc'⟩
theorem MS.mono {S S' : Nat → Prop} {g : MG} {c c' : Nat} {w w' : World} (h : MS S S' g c w w') (hc : c ≤ c') (hc' : c' ≤ 99000) : MS S S' g c' w w' := by
  obtain ⟨bs, T, tv, l, fl, cw, q⟩ := h.at_
  exact ⟨h.sub, h.sup, h.fr, bs, T, tv, l, fl, cw, q.mono hc hc'⟩
/-- What the model's calls do. -/
def RoP (S : Nat → Prop) (g : MG) (c : Nat) (op : Int) (w : World) (e : Ending) (w' : World) : Prop := ∃ (r : Res) (y z : Value) (S' : Nat → Prop), e = .returned (.agg (r.cells y z).toArray) ∧ MS S S' g c w w' ∧ Rmem w w' S S' r y z ∧ fldI op r = true
theorem ro_fin {S S' : Nat → Prop} {w X : World} {g : MG} {c E : Nat} {op : Int} {fn : Func} {tmps : Array Value} {a : Nat} (r : Res) (y z : Value) (hr : fn.results = #[.cell a 40]) (hs : MS S S' g c w X) (hE : Blk X E 40 rz) (wE : w.heap.size ≤ E) (hm : Rmem w X S S' r y z) (ho : Off y E ∧ Off z E) (hf : fldI op r = true)
    (h4 : tmps.getD a undef = .pointer (some ⟨E, 0, none⟩)) : bodyPost Tryz.prog fn (RoP S g c op w) .ret ⟨tmps, []⟩ (res11 X E (.int .i64 r.w) (.int .i64 r.n) y z (.int .i64 r.s0) (.int .i64 r.s1) (.int .i64 r.s2) (.int .i64 r.s3) (.int .i64 r.s4) (.int .i64 r.s5) (.int .i64 r.s6)) := by
  have b1 := hE.res (.int .i64 r.w) (.int .i64 r.n) y z (.int .i64 r.s0) (.int .i64 r.s1) (.int .i64 r.s2) (.int .i64 r.s3) (.int .i64 r.s4) (.int .i64 r.s5) (.int .i64 r.s6)
  have hfr : Fr (fun _ => True) [40] X (res11 X E (.int .i64 r.w) (.int .i64 r.n) y z (.int .i64 r.s0) (.int .i64 r.s1) (.int .i64 r.s2) (.int .i64 r.s3) (.int .i64 r.s4) (.int .i64 r.s5) (.int .i64 r.s6)) := fr_res hE trivial (.int .i64 r.w) (.int .i64 r.n) y z (.int .i64 r.s0) (.int .i64 r.s1) (.int .i64 r.s2) (.int .i64 r.s3) (.int .i64 r.s4) (.int .i64 r.s5) (.int .i64 r.s6)
  obtain ⟨bs, T, tv, l, fl, cw, q⟩ := hs.at_
  refine bodyPost_ret (res_out hr h4 b1.holds) rfl ⟨r, y, z, S', rfl, ⟨hs.sub, hs.sup, ?_, bs, T, tv, l, fl, cw, q.frT hfr (by decide) (by decide) (by decide) (by decide)⟩, ?_, hf⟩
  · exact fr_resW hs.fr wE (.int .i64 r.w) (.int .i64 r.n) y z (.int .i64 r.s0) (.int .i64 r.s1) (.int .i64 r.s2) (.int .i64 r.s3) (.int .i64 r.s4) (.int .i64 r.s5) (.int .i64 r.s6)
  · rcases hm with h | ⟨h1, h2, h3, h4, h5⟩
    · exact .inl h
    · have hfm := frm_res X E (.int .i64 r.w) (.int .i64 r.n) y z (.int .i64 r.s0) (.int .i64 r.s1) (.int .i64 r.s2) (.int .i64 r.s3) (.int .i64 r.s4) (.int .i64 r.s5) (.int .i64 r.s6)
      exact .inr ⟨h1, h2.frm hfm (fun k hk => by rw [List.mem_singleton.1 hk]; exact ho.1), h3.frm hfm (fun k hk => by rw [List.mem_singleton.1 hk]; exact ho.2), h4, h5⟩
theorem seek_files {S : Nat → Prop} {w w' : World} {g : MG} {c : Nat} {bs : List Nat} {T : List (Option Nd)} {tv : Value} {l : List Mt} {fl : Nat → Nat → Fl} {cw : Nat → Int × Int} (h : MA S w g c bs T tv l fl cw) {p : Nat} (hp : p < 8) {fd n : Int} {ok : Prop} (hn : n ≤ 4294967296 + 1024 * (c : Int)) (hf : FlP S g.fb fl p fd (fun k => { fl p k with pos := n }) w w' ok) : MS S S g c w w' := by
  obtain ⟨h1, ⟨_, h2⟩ | ⟨_, k, hk, _, hi, h2⟩⟩ := hf
  · have q := h.files h1 h2 (fun _ => rfl) h.ps
    exact ⟨fun _ h => h, fun _ h => .inl h, h1.mono (fun _ h => .inl h) (by decide), bs, T, tv, l, fl, cw, q⟩
  · have e : ∀ j, frefs (upd fl p k { fl p k with pos := n }) j = frefs fl j := fun j => frefs_same (x := { fl p k with pos := n }) hp hk rfl rfl j
    have q := h.files h1 h2 e (fun p' k' hp' hk' => by
      by_cases hh : p' = p ∧ k' = k
      · obtain ⟨rfl, rfl⟩ := hh
        simp [upd]
        exact hn
      · unfold upd
        rw [if_neg hh]
        exact h.ps p' k' hp' hk')
    exact ⟨fun _ h => h, fun _ h => .inl h, h1.mono (fun _ h => .inl h) (by decide), bs, T, tv, l, _, cw, q⟩
/-- A descriptor's value. -/
def Fl.val (x : Fl) : Value := .agg #[.int .i64 x.am, .int .i64 x.an, .int .i64 x.flags, .int .i64 x.pos]
set_option maxRecDepth 100000 in
set_option maxHeartbeats 8000000 in
theorem seekm_any {S : Nat → Prop} {w : World} {g : MG} {c : Nat} {bs : List Nat} {T : List (Option Nd)} {tv : Value} {l : List Mt} {fl : Nat → Nat → Fl} {cw : Nat → Int × Int} (hm : MA S w g c bs T tv l fl cw) (p : Nat) (hp : p < 2) (q : Cl) (x : Fl) (hx : Liv T x.an) (hpos : 0 ≤ x.pos ∧ x.pos ≤ 4294967296 + 1024 * (c : Int)) (hcc : c + 3 ≤ 99000) : Calls Tryz.prog 31 #[.pointer (some ⟨g.m, 0, none⟩), .int .i64 (p : Int), q.val, x.val] w (RoP S g (c + 3) 7 w) := by
  have HC := Lib.hid (And.intro hm (And.intro hp (And.intro (LivD.r64 hm.wi.ctx hx) (And.intro hpos hcc))))
  clear hm hx hpos hp hcc
  have C21 : Hid (∀ (n : Int) (X : World), Calls Tryz.prog 21 #[.int .i64 n] X fun e w' => e = .returned (.agg #[.int .i64 n, .int .i64 0, .slice none 0 0, .slice none 0 0, .int .i64 0, .int .i64 0, .int .i64 0, .int .i64 0, .int .i64 0, .int .i64 0, .int .i64 0]) ∧ Below X.heap.size X w') := Lib.hid no15_any
  have C53 : Hid (∀ X, Below w.heap.size w X → Calls Tryz.prog 53 #[.pointer (some ⟨g.m, 0, none⟩), .int .i64 x.an] X (WsP T x.an X)) := Lib.hid fun X hX => mstat_any (HC.out.1.below hX) x.an HC.out.2.2.1
  have C55 : Hid (∀ X, Below w.heap.size w X → ∀ n : Int, n ≤ 4294967296 + 1024 * ((c + 3 : Nat) : Int) → Calls Tryz.prog 55 #[.pointer (some ⟨g.fb, 0, none⟩), .int .i64 (p : Int), .int .i64 q.fd, .int .i64 n] X fun e w' => ∃ code : Int, e = .returned (.int .i64 code) ∧ MS S S g (c + 3) X w' ∧ Fr S [121] X w') := Lib.hid fun X hX n hn => (seek_any (HC.out.1.below hX).ft (by have := HC.out.2.1; omega) q.fd n (by have := HC.out.2.2.2.2; omega)).mono fun e w' h => by
    obtain ⟨code, rfl, h⟩ := h
    exact ⟨code, rfl, seek_files ((HC.out.1.below hX).mono (Nat.le_add_right c 3) HC.out.2.2.2.2) (by have := HC.out.2.1; omega) hn h, h.1⟩
  unfold Cl.val Fl.val
  go_enter Tryz.func31, Tryz.ntmps31
  go_upto_region 1 with fail
  refine box3g (fun W hbx hnx => ?_)
  have H1B := Lib.hid hbx
  have H1 := Lib.hid hnx
  clear hbx hnx
  generalize hE : w.heap.size + 1 + 1 = E at H1 ⊢
  generalize hD : w.heap.size + 1 = D at H1 ⊢
  obtain ⟨C, hC⟩ : ∃ C, w.heap.size = C := ⟨_, rfl⟩
  rw [hC] at H1 ⊢
  have H1E : Hid (w.heap.size = C ∧ w.heap.size + 1 = D ∧ w.heap.size + 2 = E) := Lib.hid (by omega)
  clear hC hD hE
  have HQ := Lib.hid fun (X : World) (hX : Below W.heap.size W X) => And.intro (H1.out.1.below hX).k9 (And.intro (H1.out.2.1.below hX).k4 (And.intro (H1.out.2.2.below hX).k11 ((H1.out.2.2.below hX).free)))
  obtain ⟨⟨-, -, -, e0, -, -, e1, e2, -⟩, ⟨e3, e4, e5, e6⟩, ⟨e7, e8, e9, e10, e11, e12, e13, e14, e15, e16, e17⟩, e18⟩ := HQ.out _ (Below.refl _ _)
  have HB : Hid (Below W.heap.size W W) := Lib.hid (Below.refl _ _)
  have HBW : Hid (∀ X, Below W.heap.size W X → Below w.heap.size w X) := Lib.hid fun X hX => H1B.out.trans (hX.mono H1B.out.size)
  have HEF : Hid (Blk W E 40 rz ∧ w.heap.size ≤ E) := Lib.hid ⟨H1.out.2.2, by have := H1E.out; omega⟩
  have HWW : Hid (∀ X, Below W.heap.size W X → Below W.heap.size W X) := Lib.hid fun X hX => hX
  obtain ⟨m3, m4, m5, m6, m7⟩ := mcell (HC.out.1.below H1B.out).blk
  have HNo : Hid (∀ X, Below W.heap.size W X → ∀ (tm : Array Value) (code : Int), tm.getD 8 undef = .pointer (some ⟨E, 0, none⟩) → bodyPost Tryz.prog Tryz.f31 (RoP S g (c + 3) 7 w) .ret ⟨tm, []⟩ (res11 X E (.int .i64 code) (.int .i64 0) (.slice none 0 0) (.slice none 0 0) (.int .i64 0) (.int .i64 0) (.int .i64 0) (.int .i64 0) (.int .i64 0) (.int .i64 0) (.int .i64 0))) := Lib.hid fun X hX tm code h4 =>
    ro_fin (Res.no code) (.slice none 0 0) (.slice none 0 0) rfl (MS.same HC.out.1 (HBW.out X hX) (Nat.le_add_right c 3) HC.out.2.2.2.2) (HEF.out.1.below hX) HEF.out.2 (.inl ⟨rfl, rfl, rfl, rfl⟩) ⟨off_nil _, off_nil _⟩ (fld_no (.inr (by decide))) h4
  unfold res11 at HNo
  go_upto_region 2 with (first | (go_at_call 53; (with_reducible refine (C53.out _ (HBW.out _ HB.out)).mono ?_); rintro e wn ⟨s, rfl, hs, hb⟩; replace HB := Lib.hid (HB.out.trans (hb.mono HB.out.size)); clear hb e0 e1 e2 e3 e4 e5 e6 e7 e8 e9 e10 e11 e12 e13 e14 e15 e16 e17 e18; obtain ⟨⟨-, -, -, e0, -, -, e1, e2, -⟩, ⟨e3, e4, e5, e6⟩, ⟨e7, e8, e9, e10, e11, e12, e13, e14, e15, e16, e17⟩, e18⟩ := HQ.out _ HB.out; clear hs; unfold Stt.val))
  refine box1g (fun W2 hbx hnx => ?_)
  have H11B := Lib.hid hbx
  have H11 := Lib.hid hnx
  clear hbx hnx
  obtain ⟨G, hG⟩ : ∃ G, wn.heap.size = G := ⟨_, rfl⟩
  rw [hG] at H11 ⊢
  have H11E : Hid (wn.heap.size = G) := Lib.hid (by omega)
  clear hG
  have HBB1 : Hid (Below W.heap.size W W2) := Lib.hid (HB.out.trans (H11B.out.mono HB.out.size))
  clear e0 e1 e2 e3 e4 e5 e6 e7 e8 e9 e10 e11 e12 e13 e14 e15 e16 e17 e18
  replace HQ := Lib.hid fun (X : World) (hX : Below W2.heap.size W2 X) => And.intro (HQ.out X (HBB1.out.trans (hX.mono HBB1.out.size))) (H11.out.below hX).k7
  replace HBW : Hid (∀ X, Below W2.heap.size W2 X → Below w.heap.size w X) := Lib.hid fun X hX => HBW.out X (HBB1.out.trans (hX.mono HBB1.out.size))
  have HZG : Hid (W.heap.size ≤ G) := Lib.hid (by have h1 := (HWW.out _ HB.out).size; have h2 := H11E.out; omega)
  replace HWW : Hid (∀ X, Below W2.heap.size W2 X → Below W.heap.size W X) := Lib.hid fun X hX => HWW.out X (HBB1.out.trans (hX.mono HBB1.out.size))
  have HKG := Lib.hid H11.out
  clear HB HBB1
  have HB : Hid (Below W2.heap.size W2 W2) := Lib.hid (Below.refl _ _)
  obtain ⟨⟨⟨-, -, -, e0, -, -, e1, e2, -⟩, ⟨e3, e4, e5, e6⟩, ⟨e7, e8, e9, e10, e11, e12, e13, e14, e15, e16, e17⟩, e18⟩, ⟨dG0, dG1, dG2, dG3, dG4, dG5, dG6⟩⟩ := HQ.out _ HB.out
  go_upto_block 0 with (first | (go_at_call 21; (with_reducible refine (C21.out _ _).mono ?_); rintro e wn ⟨rfl, hb⟩; replace HB := Lib.hid (HB.out.trans (hb.mono HB.out.size)); clear hb e0 e1 e2 e3 e4 e5 e6 e7 e8 e9 e10 e11 e12 e13 e14 e15 e16 e17 e18 dG0 dG1 dG2 dG3 dG4 dG5 dG6; obtain ⟨⟨⟨-, -, -, e0, -, -, e1, e2, -⟩, ⟨e3, e4, e5, e6⟩, ⟨e7, e8, e9, e10, e11, e12, e13, e14, e15, e16, e17⟩, e18⟩, ⟨dG0, dG1, dG2, dG3, dG4, dG5, dG6⟩⟩ := HQ.out _ HB.out))
  all_goals first
    | with_reducible exact HNo.out _ (HWW.out _ HB.out) _ _ rfl
    | skip
  go_cut [10] (fun v wx => ∃ n : Int, v = .int .i64 n ∧ W2 = wx)
  case first =>
    go_wp2_with fail
    all_goals
      go_meet
      exact ⟨_, rfl, rfl⟩
  case rest =>
    obtain ⟨n, rfl, hw⟩ := hcut
    subst hw
    obtain ⟨m3, m4, m5, m6, m7⟩ := mcell (HC.out.1.below (HBW.out _ HB.out)).blk
    by_cases n0 : n < 0
    · go_wp2_with (first | (go_at_call 21; (with_reducible refine (C21.out _ _).mono ?_); rintro e wn ⟨rfl, hb⟩; replace HB := Lib.hid (HB.out.trans (hb.mono HB.out.size)); clear hb e0 e1 e2 e3 e4 e5 e6 e7 e8 e9 e10 e11 e12 e13 e14 e15 e16 e17 e18 dG0 dG1 dG2 dG3 dG4 dG5 dG6; obtain ⟨⟨⟨-, -, -, e0, -, -, e1, e2, -⟩, ⟨e3, e4, e5, e6⟩, ⟨e7, e8, e9, e10, e11, e12, e13, e14, e15, e16, e17⟩, e18⟩, ⟨dG0, dG1, dG2, dG3, dG4, dG5, dG6⟩⟩ := HQ.out _ HB.out))
      with_reducible exact HNo.out _ (HWW.out _ HB.out) _ _ rfl
    by_cases n1 : 2147483648 < n
    · go_wp2_with (first | (go_at_call 21; (with_reducible refine (C21.out _ _).mono ?_); rintro e wn ⟨rfl, hb⟩; replace HB := Lib.hid (HB.out.trans (hb.mono HB.out.size)); clear hb e0 e1 e2 e3 e4 e5 e6 e7 e8 e9 e10 e11 e12 e13 e14 e15 e16 e17 e18 dG0 dG1 dG2 dG3 dG4 dG5 dG6; obtain ⟨⟨⟨-, -, -, e0, -, -, e1, e2, -⟩, ⟨e3, e4, e5, e6⟩, ⟨e7, e8, e9, e10, e11, e12, e13, e14, e15, e16, e17⟩, e18⟩, ⟨dG0, dG1, dG2, dG3, dG4, dG5, dG6⟩⟩ := HQ.out _ HB.out))
      with_reducible exact HNo.out _ (HWW.out _ HB.out) _ _ rfl
    have n2 : n ≤ 4294967296 + 1024 * ((c + 3 : Nat) : Int) := by omega
    have HN2 := Lib.hid n2
    clear n2
    go_upto_region 14 with fail
    go_still_tail 8, (by kernel_rfl)
    change wpList _ _ _ _ _ (World.drew _)
    go_wp2_with (first | (go_at_call 55; (with_reducible refine (C55.out _ (HBW.out _ HB.out.drew) n HN2.out).mono ?_); rintro e wn ⟨code, rfl, hms, _⟩; have HS5 := Lib.hid (hms.below (HBW.out _ HB.out.drew)); have HE5 := Lib.hid ((HEF.out.1.below (HWW.out _ HB.out.drew)).fr hms.fr (by decide)); clear hms; obtain ⟨r0, r1, r2, r3, r4, r5, r6, r7, r8, r9, r10, rf⟩ := rz_cells HE5.out))
    have HX := Lib.hid (fun (tm : Array Value) (h4 : tm.getD 8 undef = .pointer (some ⟨E, 0, none⟩)) => ro_fin (op := 7) (fn := Tryz.f31) { Res.zero with n := n } (.slice none 0 0) (.slice none 0 0) rfl HS5.out HE5.out HEF.out.2 (.inl ⟨rfl, rfl, rfl, rfl⟩) ⟨off_nil _, off_nil _⟩ (by simp [fldI, Res.zero, stat0, statI]) h4)
    unfold res11 at HX
    dsimp only [Res.zero] at HX
    with_reducible exact HX.out _ rfl
end Go.Proofs.YtfjghemojnhmbaaGreat
