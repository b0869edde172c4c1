/- The document's model: Open. -/
import Derived.Test.YtfjghemojnhmbaaGreatYh
namespace Go.Proofs.YtfjghemojnhmbaaGreat
open Go.RowKit

attribute [local go_sem ↓] run_field38 run_field38s
set_option maxRecDepth 100000 in
set_option maxHeartbeats 16000000 in
theorem open15_any {S : Nat → Prop} {w : World} {g : MG} {c : Nat} {bs : List Nat} {T : List (Option Nd)} {tv : Value} {l : List Mt} {fl : Nat → Nat → Fl} {cw : Nat → Int × Int} (hm : MA S w g c bs T tv l fl cw) (p : Nat) (hp : p < 2) (q : Cl) (hcc : c + 4 ≤ 99000) : Calls Tryz.prog 26 #[.pointer (some ⟨g.m, 0, none⟩), .int .i64 (p : Int), q.val] w (RoP S g (c + 4) 3 w) := by
  have HC := Lib.hid (And.intro hm (And.intro hp hcc))
  have k0 : (0 : Int) ≤ (p : Int) := by omega
  have k1 : (p : Int) < (2 : Int) := by omega
  clear hm hcc hp
  have C21 : Hid (∀ (n : Int) (X : World), Calls Tryz.prog 21 #[.int .i64 n] X fun e w' => e = .returned (.agg #[.int .i64 n, .int .i64 0, .slice none 0 0, .slice none 0 0, .int .i64 0, .int .i64 0, .int .i64 0, .int .i64 0, .int .i64 0, .int .i64 0, .int .i64 0]) ∧ Below X.heap.size X w') := Lib.hid no15_any
  unfold Cl.val
  go_enter Tryz.func26, Tryz.ntmps26
  go_upto_region 1 with fail
  refine box2g (fun W hbx hnx => ?_)
  have H1B := Lib.hid hbx
  have H1 := Lib.hid hnx
  clear hbx hnx
  generalize hE : w.heap.size + 1 = E at H1 ⊢
  obtain ⟨C, hC⟩ : ∃ C, w.heap.size = C := ⟨_, rfl⟩
  rw [hC] at H1 ⊢
  have H1E : Hid (w.heap.size = C ∧ w.heap.size + 1 = E) := Lib.hid (by omega)
  clear hC hE
  have HM := Lib.hid (HC.out.1.below H1B.out)
  have HEF : Hid (Blk W E 40 rz ∧ w.heap.size ≤ E) := Lib.hid ⟨H1.out.2, by have := H1E.out; omega⟩
  have HQ : Hid (∀ X, Below W.heap.size W X → X.cell? ⟨g.m, 3, none⟩ = some (.slice (some ⟨g.wb, g.wo, none⟩) 2 g.wc) ∧ X.cell? ⟨g.m, 4, none⟩ = some (.pointer (some ⟨g.t, 0, none⟩)) ∧ X.cell? ⟨g.m, 5, none⟩ = some (.pointer (some ⟨g.tb, 0, none⟩)) ∧ X.cell? ⟨g.m, 6, none⟩ = some (.pointer (some ⟨g.fb, 0, none⟩)) ∧ X.cell? ⟨g.m, 7, none⟩ = some (.slice (some ⟨g.cb, g.co, none⟩) 2 g.cc) ∧ X.cell? ⟨g.wb, g.wo + p * 2, none⟩ = some (.int .i64 (crOf p).u) ∧ X.cell? ⟨g.wb, g.wo + p * 2 + 1, none⟩ = some (.int .i64 (crOf p).g) ∧ X.cell? ⟨g.cb, g.co + p * 2, none⟩ = some (.int .i64 (cw p).1) ∧ X.cell? ⟨g.cb, g.co + p * 2 + 1, none⟩ = some (.int .i64 (cw p).2) ∧ X.cell? ⟨C, 0, none⟩ = some (.int .i64 q.op) ∧ X.cell? ⟨C, 1, none⟩ = some (.string q.path) ∧ X.cell? ⟨C, 2, none⟩ = some (.string q.dest) ∧ X.cell? ⟨C, 3, none⟩ = some (.int .i64 q.fd) ∧ X.cell? ⟨C, 4, none⟩ = some (.int .i64 q.flags) ∧ X.cell? ⟨C, 5, none⟩ = some (.int .i64 q.mode) ∧ X.cell? ⟨C, 6, none⟩ = some (.int .i64 q.n) ∧ X.cell? ⟨C, 7, none⟩ = some (.int .i64 q.m) ∧ X.cell? ⟨C, 8, none⟩ = some (.slice q.da q.dl q.dc)) := Lib.hid fun X hX => by
    obtain ⟨⟨a0, a1, a2, a3, a4⟩, ⟨a5, a6⟩, a7, a8⟩ := (HM.out.below hX).cwcell2 HC.out.2.1
    exact ⟨a0, a1, a2, a3, a4, a5, a6, a7, a8, (H1.out.1.below hX).cell 0, (H1.out.1.below hX).cell 1, (H1.out.1.below hX).cell 2, (H1.out.1.below hX).cell 3, (H1.out.1.below hX).cell 4, (H1.out.1.below hX).cell 5, (H1.out.1.below hX).cell 6, (H1.out.1.below hX).cell 7, (H1.out.1.below hX).cell 8⟩
  have HQE : Hid (∀ X, Below W.heap.size W X → X.cell? ⟨E, 0, none⟩ = some (.int .i64 0) ∧ X.cell? ⟨E, 1, none⟩ = some (.int .i64 0) ∧ X.cell? ⟨E, 2, none⟩ = some (.slice none 0 0) ∧ X.cell? ⟨E, 3, none⟩ = some (.slice none 0 0) ∧ X.cell? ⟨E, 4, none⟩ = some (.int .i64 0) ∧ X.cell? ⟨E, 5, none⟩ = some (.int .i64 0) ∧ X.cell? ⟨E, 6, none⟩ = some (.int .i64 0) ∧ X.cell? ⟨E, 7, none⟩ = some (.int .i64 0) ∧ X.cell? ⟨E, 8, none⟩ = some (.int .i64 0) ∧ X.cell? ⟨E, 9, none⟩ = some (.int .i64 0) ∧ X.cell? ⟨E, 10, none⟩ = some (.int .i64 0) ∧ ∀ j, X.frozen? ⟨E, j, none⟩ = false) := Lib.hid fun X hX => by
    obtain ⟨a0, a1, a2, a3, a4, a5, a6, a7, a8, a9, a10, a11⟩ := rz_cells (HEF.out.1.below hX)
    exact ⟨a0, a1, a2, a3, a4, a5, a6, a7, a8, a9, a10, a11⟩
  have HBW : Hid (∀ X, Below W.heap.size W X → Below w.heap.size w X) := Lib.hid fun X hX => H1B.out.trans (hX.mono H1B.out.size)
  have HB : Hid (Below W.heap.size W W) := Lib.hid (Below.refl _ _)
  obtain ⟨q0, q1, q2, q3, q4, q5, q6, q7, q8, q9, q10, q11, q12, q13, q14, q15, q16, q17⟩ := HQ.out _ HB.out
  obtain ⟨e0, e1, e2, e3, e4, e5, e6, e7, e8, e9, e10, e11⟩ := HQE.out _ HB.out
  have HNo : Hid (∀ X, Below W.heap.size W X → ∀ (tm : Array Value) (code : Int), tm.getD 6 undef = .pointer (some ⟨E, 0, none⟩) → bodyPost Tryz.prog Tryz.f26 (RoP S g (c + 4) 3 w) .ret ⟨tm, []⟩ (res11 X E (.int .i64 code) (.int .i64 0) (.slice none 0 0) (.slice none 0 0) (.int .i64 0) (.int .i64 0) (.int .i64 0) (.int .i64 0) (.int .i64 0) (.int .i64 0) (.int .i64 0))) := Lib.hid fun X hX tm code h4 =>
    ro_fin (Res.no code) (.slice none 0 0) (.slice none 0 0) rfl (MS.same HC.out.1 (HBW.out X hX) (Nat.le_add_right c 4) HC.out.2.2) (HEF.out.1.below hX) HEF.out.2 (.inl ⟨rfl, rfl, rfl, rfl⟩) ⟨off_nil _, off_nil _⟩ (fld_no (.inr (by decide))) h4
  unfold res11 at HNo
  have C46 := Lib.hid (fun X => flags_any q.flags X)
  have C47 : Hid (∀ X, Below W.heap.size W X → Calls Tryz.prog 47 #[.pointer (some ⟨g.fb, 0, none⟩), .int .i64 (p : Int)] X (CodeP X)) := Lib.hid fun X hX => room_any (HM.out.below hX).ft (by have := HC.out.2.1; omega)
  go_upto_region 6 with (first | (go_at_call 46; (with_reducible refine (C46.out _).mono ?_); rintro e wn ⟨r, rfl, hw⟩; replace hw := hw.symm; subst hw; cases r) | (go_at_call 47; (with_reducible refine (C47.out _ HB.out).mono ?_); rintro e wn ⟨code, rfl, _, _, hd⟩; replace HB := Lib.hid (HB.out.trans (hd.below.mono HB.out.size)); clear hd; clear q0 q1 q2 q3 q4 q5 q6 q7 q8 q9 q10 q11 q12 q13 q14 q15 q16 q17 e0 e1 e2 e3 e4 e5 e6 e7 e8 e9 e10 e11; obtain ⟨q0, q1, q2, q3, q4, q5, q6, q7, q8, q9, q10, q11, q12, q13, q14, q15, q16, q17⟩ := HQ.out _ HB.out; obtain ⟨e0, e1, e2, e3, e4, e5, e6, e7, e8, e9, e10, e11⟩ := HQE.out _ HB.out) | (go_at_call 21; (with_reducible refine (C21.out _ _).mono ?_); rintro e wn ⟨rfl, hb⟩; replace HB := Lib.hid (HB.out.trans (hb.mono HB.out.size)); clear hb; clear q0 q1 q2 q3 q4 q5 q6 q7 q8 q9 q10 q11 q12 q13 q14 q15 q16 q17 e0 e1 e2 e3 e4 e5 e6 e7 e8 e9 e10 e11; obtain ⟨q0, q1, q2, q3, q4, q5, q6, q7, q8, q9, q10, q11, q12, q13, q14, q15, q16, q17⟩ := HQ.out _ HB.out; obtain ⟨e0, e1, e2, e3, e4, e5, e6, e7, e8, e9, e10, e11⟩ := HQE.out _ HB.out))
  all_goals first
    | with_reducible exact HNo.out _ HB.out _ _ rfl
    | skip
  go_cut [8] (fun v wx => ∃ fr : Bool, v = .bool fr ∧ Hid (Below W.heap.size W wx))
  case first =>
    go_wp2_with fail
    all_goals
      go_meet
      exact ⟨_, rfl, HB⟩
  case rest =>
  obtain ⟨fresh, rfl, HBn⟩ := hcut
  clear HB q0 q1 q2 q3 q4 q5 q6 q7 q8 q9 q10 q11 q12 q13 q14 q15 q16 q17 e0 e1 e2 e3 e4 e5 e6 e7 e8 e9 e10 e11
  have HB := HBn
  clear HBn
  obtain ⟨q0, q1, q2, q3, q4, q5, q6, q7, q8, q9, q10, q11, q12, q13, q14, q15, q16, q17⟩ := HQ.out _ HB.out
  obtain ⟨e0, e1, e2, e3, e4, e5, e6, e7, e8, e9, e10, e11⟩ := HQE.out _ HB.out
  have C48 : Hid (∀ X, Below W.heap.size W X → ∀ fo : Bool, Calls Tryz.prog 48 #[.pointer (some ⟨g.t, 0, none⟩), .pointer (some ⟨g.tb, 0, none⟩), .agg #[.int .i64 0, .int .i64 1], .agg #[.int .i64 (cw p).1, .int .i64 (cw p).2], .agg #[.int .i64 (crOf p).u, .int .i64 (crOf p).g], .string q.path, .bool fo] X (WalkP T X)) := Lib.hid fun X hX fo => walk_any (HM.out.below hX).wi.ctx 0 1 (cw p).1 (cw p).2 ⟨by decide, by decide⟩ (LivD.r64 HC.out.1.wi.ctx (HC.out.1.cwl HC.out.2.1).2.2) (crOf p) q.path fo
  obtain ⟨b64, h64⟩ : ∃ b64, (bits .and .i64 q.flags 64 == 0) = b64 := ⟨_, rfl⟩
  have HBd := Lib.hid HB.out.drew
  go_upto_region 7 with fail
  have HBa : Hid (Below W.heap.size W (wc.alloc (.cells #[.int .i64 0, .int .i64 0, .string ⟨#[]⟩, .int .i64 0, .int .i64 0, .bool false, .bool false] 128)).drew) := Lib.hid (HB.out.alloc HB.out.size _).drew
  have HDz : Hid (Blk (wc.alloc (.cells #[.int .i64 0, .int .i64 0, .string ⟨#[]⟩, .int .i64 0, .int .i64 0, .bool false, .bool false] 128)).drew wc.heap.size 128 Fnd.zero.cells.toArray) := Lib.hid (Blk.new _ _ _)
  go_cut [7, 9, 10] (fun v7 v9 v10 wx => ∃ (f : Fnd) (code st : Int) (D : Nat), v7 = .int .i64 code ∧ v9 = .pointer (some ⟨D, 0, none⟩) ∧ v10 = .int .i64 st ∧ Hid (FndOk T f) ∧ Hid (Below W.heap.size W wx) ∧ Hid (Blk wx D 128 #[.int .i64 f.dm, .int .i64 f.dn, .string f.last, .int .i64 f.am, .int .i64 f.an, .bool f.has, .bool f.slash]) ∧ W.heap.size ≤ D)
  case first =>
    have hwd : W.heap.size ≤ wc.heap.size := HB.out.size
    have HQ7 : Hid (∀ X, Below W.heap.size W X → X.cell? ⟨g.m, 3, none⟩ = some (.slice (some ⟨g.wb, g.wo, none⟩) 2 g.wc) ∧ X.cell? ⟨g.m, 4, none⟩ = some (.pointer (some ⟨g.t, 0, none⟩)) ∧ X.cell? ⟨g.m, 5, none⟩ = some (.pointer (some ⟨g.tb, 0, none⟩)) ∧ X.cell? ⟨g.m, 7, none⟩ = some (.slice (some ⟨g.cb, g.co, none⟩) 2 g.cc) ∧ X.cell? ⟨g.wb, g.wo + p * 2, none⟩ = some (.int .i64 (crOf p).u) ∧ X.cell? ⟨g.wb, g.wo + p * 2 + 1, none⟩ = some (.int .i64 (crOf p).g) ∧ X.cell? ⟨g.cb, g.co + p * 2, none⟩ = some (.int .i64 (cw p).1) ∧ X.cell? ⟨g.cb, g.co + p * 2 + 1, none⟩ = some (.int .i64 (cw p).2) ∧ X.cell? ⟨C, 1, none⟩ = some (.string q.path) ∧ X.cell? ⟨C, 4, none⟩ = some (.int .i64 q.flags)) := Lib.hid fun X hX => by
      obtain ⟨q0, q1, q2, q3, q4, q5, q6, q7, q8, q9, q10, q11, q12, q13, q14, q15, q16, q17⟩ := HQ.out X hX
      exact ⟨q0, q1, q2, q4, q5, q6, q7, q8, q10, q13⟩
    clear HBa HDz hwd
    refine hand_start (S := fun X => X.cell? ⟨g.m, 3, none⟩ = some (.slice (some ⟨g.wb, g.wo, none⟩) 2 g.wc) ∧ X.cell? ⟨g.m, 4, none⟩ = some (.pointer (some ⟨g.t, 0, none⟩)) ∧ X.cell? ⟨g.m, 5, none⟩ = some (.pointer (some ⟨g.tb, 0, none⟩)) ∧ X.cell? ⟨g.m, 7, none⟩ = some (.slice (some ⟨g.cb, g.co, none⟩) 2 g.cc) ∧ X.cell? ⟨g.wb, g.wo + p * 2, none⟩ = some (.int .i64 (crOf p).u) ∧ X.cell? ⟨g.wb, g.wo + p * 2 + 1, none⟩ = some (.int .i64 (crOf p).g) ∧ X.cell? ⟨g.cb, g.co + p * 2, none⟩ = some (.int .i64 (cw p).1) ∧ X.cell? ⟨g.cb, g.co + p * 2 + 1, none⟩ = some (.int .i64 (cw p).2) ∧ X.cell? ⟨C, 1, none⟩ = some (.string q.path) ∧ X.cell? ⟨C, 4, none⟩ = some (.int .i64 q.flags)) 42 (by kernel_rfl) (by rfl) (HQ7.out _ HBd.out) (fun hHeld => ?_)
    generalize wc.drew = wx at HBd hHeld ⊢
    cases b64
    all_goals
      iterate 33 (first | (refine seq_on 41 (v := ?_) rfl (by kernel_rfl) (by kernel_rfl) (by kernel_rfl) (by rfl) (by assumption) (fun _ _ _ h => h) ?_ ?_; rotate_left; (focus (intro w hSw; (try dsimp only at hSw); go_simp; try with_reducible rfl)); (try simp only [Act.put, List.setIfInBounds_toArray, List.set_cons_zero, List.set_cons_succ])) | (refine seq_off 41 rfl (by kernel_rfl) (by kernel_rfl) (by kernel_rfl) (by rfl) (by assumption) (fun _ _ _ h => h) ?_; (try simp only [Act.put, List.setIfInBounds_toArray, List.set_cons_zero, List.set_cons_succ])))
    all_goals repeat' (first
      | (refine take_on 34 (v := ?_) rfl (by kernel_rfl) (by decide +kernel) (by decide +kernel) (by rfl) (by assumption) (fun _ _ _ h => h) ?_ ?_; rotate_left; (focus (intro w hSw; (try dsimp only at hSw); go_simp; try with_reducible rfl)); (try simp only [Act.put, List.setIfInBounds_toArray, List.set_cons_zero, List.set_cons_succ]))
      | (refine take_on 35 (v := ?_) rfl (by kernel_rfl) (by decide +kernel) (by decide +kernel) (by rfl) (by assumption) (fun _ _ _ h => h) ?_ ?_; rotate_left; (focus (intro w hSw; (try dsimp only at hSw); go_simp; try with_reducible rfl)); (try simp only [Act.put, List.setIfInBounds_toArray, List.set_cons_zero, List.set_cons_succ]))
      | (refine take_on 36 (v := ?_) rfl (by kernel_rfl) (by decide +kernel) (by decide +kernel) (by rfl) (by assumption) (fun _ _ _ h => h) ?_ ?_; rotate_left; (focus (intro w hSw; (try dsimp only at hSw); go_simp; try with_reducible rfl)); (try simp only [Act.put, List.setIfInBounds_toArray, List.set_cons_zero, List.set_cons_succ]))
      | (refine take_on 37 (v := ?_) rfl (by kernel_rfl) (by decide +kernel) (by decide +kernel) (by rfl) (by assumption) (fun _ _ _ h => h) ?_ ?_; rotate_left; (focus (intro w hSw; (try dsimp only at hSw); go_simp; try with_reducible rfl)); (try simp only [Act.put, List.setIfInBounds_toArray, List.set_cons_zero, List.set_cons_succ]))
      | (refine take_on 40 (v := ?_) rfl (by kernel_rfl) (by decide +kernel) (by decide +kernel) (by rfl) (by assumption) (fun _ _ _ h => h) ?_ ?_; rotate_left; (focus (intro w hSw; (try dsimp only at hSw); go_simp; try with_reducible rfl)); (try simp only [Act.put, List.setIfInBounds_toArray, List.set_cons_zero, List.set_cons_succ]))
      | (refine take_on 41 (v := ?_) rfl (by kernel_rfl) (by decide +kernel) (by decide +kernel) (by rfl) (by assumption) (fun _ _ _ h => h) ?_ ?_; rotate_left; (focus (intro w hSw; (try dsimp only at hSw); go_simp; try with_reducible rfl)); (try simp only [Act.put, List.setIfInBounds_toArray, List.set_cons_zero, List.set_cons_succ]))
      | (refine wpAnyH_ready (rs := [33, 38]) (by decide +kernel) (by simp) ?_)
      | (refine wpAnyH_ready (rs := [33]) (by decide +kernel) (by simp) ?_)
      | (refine wpAnyH_ready (rs := [38]) (by decide +kernel) (by simp) ?_)
      | (refine wpAnyH_ready (rs := [39]) (by decide +kernel) (by simp) ?_)
      | (exact AllReadyH.nil)
      | (refine step_on 33 rfl (by rfl) (fun K hK => ?_) ?_; (focus (go_simp; go_at_call 48; (with_reducible refine (C48.out _ HBd.out _).mono ?_); rintro e wn ⟨f, code, st, rfl, hf, hb⟩; have HF := Lib.hid hf; replace HBd := Lib.hid (HBd.out.trans (hb.mono HBd.out.size)); (try replace HDD := Lib.hid (And.intro (HDD.out.1.below hb) HDD.out.2)); clear hf hb; unfold Fnd.val; rename World => wx; refine hK.out _ _ (by first | (with_reducible exact HQ7.out _ HBd.out) | exact HQ7.out _ HBd.out) (fun hHeld => ?_); clear hK K; (try simp only [List.setIfInBounds_toArray]))))
      | (refine step_on 38 rfl (by rfl) (fun K hK => ?_) ?_; (focus (go_simp; obtain ⟨wy, hwy⟩ : ∃ Y, wx.alloc (.cells #[.int .i64 0, .int .i64 0, .string ⟨#[]⟩, .int .i64 0, .int .i64 0, .bool false, .bool false] 128) = Y := ⟨_, rfl⟩; rw [hwy]; have hb : Below wx.heap.size wx wy := (by rw [← hwy]; exact (Below.refl _ _).alloc (Nat.le_refl _) _); have hn : Blk wy wx.heap.size 128 Fnd.zero.cells.toArray := (by rw [← hwy]; exact Blk.new _ _ _); have HDD := Lib.hid (And.intro hn HBd.out.size); replace HBd := Lib.hid (HBd.out.trans (hb.mono HBd.out.size)); clear hb hn hwy; obtain ⟨D, hD⟩ : ∃ D, wx.heap.size = D := ⟨_, rfl⟩; rw [hD] at HDD ⊢; clear hD; rename World => wx; refine hK.out _ _ (by first | (with_reducible exact HQ7.out _ HBd.out) | exact HQ7.out _ HBd.out) (fun hHeld => ?_); clear hK K; (try simp only [List.setIfInBounds_toArray]))))
      | (refine step_on 39 rfl (by rfl) (fun K hK => ?_) ?_; (focus (obtain ⟨z0, z1, z2, z3, z4, z5, z6⟩ := cells7 (show Blk wx D 128 #[.int .i64 0, .int .i64 0, .string ⟨#[]⟩, .int .i64 0, .int .i64 0, .bool false, .bool false] from HDD.out.1); have zf := HDD.out.1.free; go_simp; clear z0 z1 z2 z3 z4 z5 z6 zf; obtain ⟨wy, hwy⟩ : ∃ Y, fst7 wx D f = Y := ⟨_, rfl⟩; have hw2 := hwy; unfold fst7 at hw2; rw [hw2]; clear hw2; have hb : Below W.heap.size W wy := (by rw [← hwy]; exact below_found HBd.out HDD.out.2); have hn : Blk wy D 128 f.cells.toArray := (by rw [← hwy]; exact HDD.out.1.found); replace HBd := Lib.hid hb; replace HDD := Lib.hid (And.intro hn HDD.out.2); clear hb hn hwy; rename World => wx; refine hK.out _ _ (by first | (with_reducible exact HQ7.out _ HBd.out) | exact HQ7.out _ HBd.out) (fun hHeld => ?_); clear hK K; (try simp only [List.setIfInBounds_toArray]))))
      | (refine wpAnyH_done (by kernel_rfl) ?_ _; go_wp2_with fail; go_meet; exact ⟨f, code, st, D, rfl, rfl, rfl, HF, HBd, Lib.hid HDD.out.1, HDD.out.2⟩)
      )
  case rest =>
  obtain ⟨f, code2, st, D, rfl, rfl, rfl, HF, HBn, HD, hD⟩ := hcut
  obtain ⟨fdm, fdn, flast, fam, fan, fhas, fslash⟩ := f
  dsimp only at HF HD
  clear HB HBd HBa HDz q0 q1 q2 q3 q4 q5 q6 q7 q8 q9 q10 q11 q12 q13 q14 q15 q16 q17 e0 e1 e2 e3 e4 e5 e6 e7 e8 e9 e10 e11
  have HB := HBn
  clear HBn C46 C47 C48
  obtain ⟨q0, q1, q2, q3, q4, q5, q6, q7, q8, q9, q10, q11, q12, q13, q14, q15, q16, q17⟩ := HQ.out _ HB.out
  obtain ⟨e0, e1, e2, e3, e4, e5, e6, e7, e8, e9, e10, e11⟩ := HQE.out _ HB.out
  obtain ⟨d0, d1, d2, d3, d4, d5, d6⟩ := cells7 HD.out
  go_upto_region 11 with (first | (go_at_call 21; (with_reducible refine (C21.out _ _).mono ?_); rintro e wn ⟨rfl, hb⟩; replace HB := Lib.hid (HB.out.trans (hb.mono HB.out.size)); clear hb; clear q0 q1 q2 q3 q4 q5 q6 q7 q8 q9 q10 q11 q12 q13 q14 q15 q16 q17 e0 e1 e2 e3 e4 e5 e6 e7 e8 e9 e10 e11; obtain ⟨q0, q1, q2, q3, q4, q5, q6, q7, q8, q9, q10, q11, q12, q13, q14, q15, q16, q17⟩ := HQ.out _ HB.out; obtain ⟨e0, e1, e2, e3, e4, e5, e6, e7, e8, e9, e10, e11⟩ := HQE.out _ HB.out))
  all_goals first
    | with_reducible exact HNo.out _ HB.out _ _ rfl
    | skip
  refine box1g (fun W3 hbx hnx => ?_)
  have H3B := Lib.hid hbx
  have H3 := Lib.hid hnx
  clear hbx hnx
  obtain ⟨P, hP⟩ : ∃ P, wc.heap.size = P := ⟨_, rfl⟩
  rw [hP] at H3 ⊢
  have H3E : Hid (wc.heap.size = P) := Lib.hid (by omega)
  clear hP
  have HB3 := Lib.hid (HB.out.trans (H3B.out.mono HB.out.size))
  have HD3 := Lib.hid (HD.out.below H3B.out)
  have hPW : Hid (W.heap.size ≤ P) := Lib.hid (by have h1 := H3E.out; have h2 := HB.out.size; omega)
  have hcbP : Hid (g.cb ≠ P) := Lib.hid (by have h1 := (HM.out.cwd.lt g.cb rfl).2; have h2 := hPW.out; omega)
  have HQF : Hid (∀ X S0 Ts, Fr S0 Ts W X → (73 ∉ Ts ∧ 42 ∉ Ts ∧ 40 ∉ Ts) → (X.cell? ⟨g.m, 4, none⟩ = some (.pointer (some ⟨g.t, 0, none⟩)) ∧ X.cell? ⟨g.m, 6, none⟩ = some (.pointer (some ⟨g.fb, 0, none⟩)) ∧ X.cell? ⟨C, 0, none⟩ = some (.int .i64 q.op) ∧ X.cell? ⟨C, 1, none⟩ = some (.string q.path) ∧ X.cell? ⟨C, 2, none⟩ = some (.string q.dest) ∧ X.cell? ⟨C, 3, none⟩ = some (.int .i64 q.fd) ∧ X.cell? ⟨C, 4, none⟩ = some (.int .i64 q.flags) ∧ X.cell? ⟨C, 5, none⟩ = some (.int .i64 q.mode) ∧ X.cell? ⟨C, 6, none⟩ = some (.int .i64 q.n) ∧ X.cell? ⟨C, 7, none⟩ = some (.int .i64 q.m) ∧ X.cell? ⟨C, 8, none⟩ = some (.slice q.da q.dl q.dc)) ∧ Blk X E 40 rz) := Lib.hid fun X S0 Ts hX ht => ⟨⟨(HM.out.blk.fr hX ht.1).cell 4, (HM.out.blk.fr hX ht.1).cell 6, (H1.out.1.fr hX ht.2.1).cell 0, (H1.out.1.fr hX ht.2.1).cell 1, (H1.out.1.fr hX ht.2.1).cell 2, (H1.out.1.fr hX ht.2.1).cell 3, (H1.out.1.fr hX ht.2.1).cell 4, (H1.out.1.fr hX ht.2.1).cell 5, (H1.out.1.fr hX ht.2.1).cell 6, (H1.out.1.fr hX ht.2.1).cell 7, (H1.out.1.fr hX ht.2.1).cell 8⟩, HEF.out.1.fr hX ht.2.2⟩
  have HNo2 : Hid (∀ X S1 bs1 T1 c1, c1 ≤ c + 4 → MTS S S1 g c1 bs1 T T1 tv l fl cw W X → ∀ (tm : Array Value) (code : Int), tm.getD 6 undef = .pointer (some ⟨E, 0, none⟩) → bodyPost Tryz.prog Tryz.f26 (RoP S g (c + 4) 3 w) .ret ⟨tm, []⟩ (res11 X E (.int .i64 code) (.int .i64 0) (.slice none 0 0) (.slice none 0 0) (.int .i64 0) (.int .i64 0) (.int .i64 0) (.int .i64 0) (.int .i64 0) (.int .i64 0) (.int .i64 0))) := Lib.hid fun X S1 bs1 T1 c1 hc1 ht tm code h4 =>
    ro_fin (Res.no code) (.slice none 0 0) (.slice none 0 0) rfl ((MS.below H1B.out ht.ms).mono hc1 HC.out.2.2) (HEF.out.1.fr ht.fr (by decide)) HEF.out.2 (.inl ⟨rfl, rfl, rfl, rfl⟩) ⟨off_nil _, off_nil _⟩ (fld_no (.inr (by decide))) h4
  unfold res11 at HNo2
  clear q0 q1 q2 q3 q4 q5 q6 q7 q8 q9 q10 q11 q12 q13 q14 q15 q16 q17 e0 e1 e2 e3 e4 e5 e6 e7 e8 e9 e10 e11 d0 d1 d2 d3 d4 d5 d6 HB HD H3B HNo
  obtain ⟨⟨r0, r1, r2, r3, r4, r5, r6, r7, r8, r9, r10⟩, hE⟩ := HQF.out _ S TT (Fr.of_below HB3.out) (by decide)
  have HE := Lib.hid hE
  clear hE
  obtain ⟨d0, d1, d2, d3, d4, d5, d6⟩ := cells7 HD3.out
  obtain ⟨p0, p1, pf⟩ := cells2 H3.out
  have HCW : Hid (g.cb < W.heap.size) := Lib.hid (HM.out.cwd.lt g.cb rfl).2
  go_upto_if 88 with fail
  go_cut [12, 13, 14] (fun v12 v13 v14 X => ∃ (S1 : Nat → Prop) (bs1 : List Nat) (T1 : List (Option Nd)) (am an : Int), Hid (MTS S S1 g (c + 3) bs1 T T1 tv l fl cw W X) ∧ Hid (Blk X P 75 #[.int .i64 am, .int .i64 an]) ∧ Hid (PlaceOk T1 am an))
  case first =>
    cases fhas
    case true =>
      have HPl := Lib.hid (HF.out.at_ rfl)
      have C50 := may15_any (HM.out.below HB3.out) p HC.out.2.1 q fam fan HPl.out.2.2 fresh (by have := HC.out.2.2; omega)
      unfold Cl.val at C50
      go_wp2_with (first | (go_at_call 50; (with_reducible refine C50.mono ?_); rintro e w4 ⟨code3, S1, rfl, hmt⟩; have HT4 := Lib.hid (MTS.below HB3.out hmt); have HP4 := Lib.hid (H3.out.fr hmt.fr (by decide)); clear hmt r0 r1 r2 r3 r4 r5 r6 r7 r8 r9 r10 p0 p1 pf; obtain ⟨⟨r0, r1, r2, r3, r4, r5, r6, r7, r8, r9, r10⟩, hE⟩ := HQF.out _ _ _ HT4.out.fr (by decide); obtain ⟨e0, e1, e2, e3, e4, e5, e6, e7, e8, e9, e10, e11⟩ := rz_cells hE; clear hE) | (go_at_call 21; (with_reducible refine (C21.out _ _).mono ?_); rintro e wn ⟨rfl, hb⟩; have HT5 := Lib.hid (HT4.out.after hb (Nat.le_refl _) (by have := HC.out.2.2; omega)); clear hb e0 e1 e2 e3 e4 e5 e6 e7 e8 e9 e10 e11; obtain ⟨e0, e1, e2, e3, e4, e5, e6, e7, e8, e9, e10, e11⟩ := rz_cells (HEF.out.1.fr HT5.out.fr (by decide))))
      · with_reducible exact HNo2.out _ _ _ _ _ (Nat.le_succ _) HT5.out _ _ rfl
      · go_meet
        exact ⟨S1, bs, T, fam, fan, HT4, HP4, HPl⟩
    case false =>
      have C49 := make15_any (HM.out.below HB3.out) p HC.out.2.1 q ⟨fdm, fdn, flast, fam, fan, false, fslash⟩ HF.out (by have := HC.out.2.2; omega)
      unfold Cl.val Fnd.val at C49
      go_wp2_with (first | (go_at_call 49; (with_reducible refine C49.mono ?_); rintro e w4 ⟨n, code3, S1, bs1, T1, rfl, hmt, hl⟩; have HT4 := Lib.hid (MTS.below HB3.out hmt); have HL4 := Lib.hid hl; have HP4 := Lib.hid (H3.out.fr hmt.fr (by decide)); have HD4 := Lib.hid (HD3.out.fr hmt.fr (by decide)); have HPL := Lib.hid (HT4.out.pl HP4.out hcbP.out hPW.out (.int .i64 fdm) (.int .i64 n)); have HPB := Lib.hid (HP4.out.pl75 (.int .i64 fdm) (.int .i64 n)); unfold pl2 at HPL HPB; clear hmt hl r0 r1 r2 r3 r4 r5 r6 r7 r8 r9 r10 d0 d1 d2 d3 d4 d5 d6 p0 p1 pf; obtain ⟨⟨r0, r1, r2, r3, r4, r5, r6, r7, r8, r9, r10⟩, hE⟩ := HQF.out _ _ _ HT4.out.fr (by decide); obtain ⟨e0, e1, e2, e3, e4, e5, e6, e7, e8, e9, e10, e11⟩ := rz_cells hE; clear hE; obtain ⟨d0, d1, d2, d3, d4, d5, d6⟩ := cells7 HD4.out; obtain ⟨p0, p1, pf⟩ := cells2 HP4.out; by_cases h3 : code3 = 0) | (go_at_call 21; (with_reducible refine (C21.out _ _).mono ?_); rintro e wn ⟨rfl, hb⟩; have HT5 := Lib.hid (HT4.out.after hb (Nat.le_refl _) (by have := HC.out.2.2; omega)); clear hb e0 e1 e2 e3 e4 e5 e6 e7 e8 e9 e10 e11; obtain ⟨e0, e1, e2, e3, e4, e5, e6, e7, e8, e9, e10, e11⟩ := rz_cells (HEF.out.1.fr HT5.out.fr (by decide))))
      · subst h3
        go_wp2_with fail
        go_meet
        exact ⟨S1, bs1, T1, fdm, n, HPL, HPB, Lib.hid ⟨HF.out.dir.1, HF.out.dir.2.1, HL4.out trivial⟩⟩
      · with_reducible exact HNo2.out _ _ _ _ _ (Nat.le_succ _) HT5.out _ _ rfl
  case rest =>
  obtain ⟨S1, bs1, T1, am, an, HT, HP, HPl⟩ := hcut
  clear HNo2 HF HD3 HB3 H3 d0 d1 d2 d3 d4 d5 d6 r0 r1 r2 r3 r4 r5 r6 r7 r8 r9 r10 p0 p1 pf HE
  have HK : Hid (∀ X, Fr S1 [121] wc.drew X → X.cell? ⟨g.m, 6, none⟩ = some (.pointer (some ⟨g.fb, 0, none⟩)) ∧ X.cell? ⟨P, 0, none⟩ = some (.int .i64 am) ∧ X.cell? ⟨P, 1, none⟩ = some (.int .i64 an) ∧ X.cell? ⟨C, 4, none⟩ = some (.int .i64 q.flags)) := Lib.hid fun X hX => by
    have hf : Fr S1 [121] wc X := (Fr.of_below (Below.refl _ _).drew).trans hX (fun _ h => .inl h)
    exact ⟨(HT.out.at_.blk.fr hf (by decide)).cell 6, (HP.out.fr hf (by decide)).cell 0, (HP.out.fr hf (by decide)).cell 1, ((H1.out.1.fr HT.out.fr (by decide)).fr hf (by decide)).cell 4⟩
  have HF0 : Hid (Fr S1 [121] wc.drew wc.drew) := Lib.hid (Fr.refl _ _ _)
  have htl : T1.length ≤ 99000 := by
    obtain ⟨M, p, v, ht⟩ := HT.out.at_.wi.tr
    have := ht.tl
    have := HT.out.at_.wi.cc
    omega
  have hlv : 1 ≤ an ∧ an ≤ 1000000 := by
    obtain ⟨i, x, rfl, hx⟩ := HPl.out.2.2
    have := (List.getElem?_eq_some_iff.1 hx).1
    omega
  have C51 := fopen_any (HT.out.at_.ft.below (Below.refl _ _).drew) (by have := HC.out.2.1; omega : p < 8) am an q.flags HPl.out.1 HPl.out.2.1 (by omega) hlv.2
  clear htl hlv
  go_upto_region 19 with fail
  go_region_held3 (fun X => X.cell? ⟨g.m, 6, none⟩ = some (.pointer (some ⟨g.fb, 0, none⟩)) ∧ X.cell? ⟨P, 0, none⟩ = some (.int .i64 am) ∧ X.cell? ⟨P, 1, none⟩ = some (.int .i64 an) ∧ X.cell? ⟨C, 4, none⟩ = some (.int .i64 q.flags)) (first | (refine HK.out _ ?_; first | (with_reducible exact HF0.out) | (with_reducible exact HF5.out))) (first | (go_at_call 51; (with_reducible refine C51.mono ?_); rintro e w5 ⟨fk, code, hfk, rfl, hf5, ho5⟩; have HF5 := Lib.hid hf5; have HO5 := Lib.hid (And.intro hfk ho5); clear hfk hf5 ho5))
  have HW5 : Hid (Fr S1 [121] wc w5.drew) := Lib.hid (((Fr.of_below (Below.refl _ _).drew).trans HF5.out (fun _ h => .inl h)).trans (Fr.of_below (Below.refl _ _).drew) (fun _ h => .inl h))
  have HO : Hid (∃ fl2 : Nat → Nat → Fl, FtAt S1 w5.drew g.fb fl2 ∧ (∀ j, frefs fl2 j ≤ frefs fl j + if an = (j : Int) then 1 else 0) ∧ (∀ p k, p < 8 → k < 8 → (fl2 p k).pos ≤ 4294967296 + 1024 * ((c + 3 : Nat) : Int))) := by
    refine Lib.hid ?_
    have hps := HT.out.at_.ps
    rcases HO5.out.2 with ⟨_, h⟩ | ⟨_, h1, h2, h⟩
    · exact ⟨fl, h.below (Below.refl _ _).drew, fun j => Nat.le_add_right _ _, hps⟩
    · refine ⟨_, h.below (Below.refl _ _).drew, fun j => ?_, fun p' k' hp' hk' => ?_⟩
      · have e := frefs_upd fl (by have := HC.out.2.1; omega : p < 8) h1 ⟨true, am, an, q.flags, 0⟩ j
        have e2 : fref j ⟨true, am, an, q.flags, 0⟩ = if an = (j : Int) then 1 else 0 := by unfold fref; simp
        omega
      · unfold upd
        split
        · show (0 : Int) ≤ _
          omega
        · exact hps p' k' hp' hk'
  have C20 := hold_ctx (HT.out.at_.wi.tr.fr (fun _ h => h) HW5.out (by decide) (by decide)) HT.out.at_.wi.inv (by have := HC.out.2.2; omega) HPl.out.2.2
  have HK2 : Hid (w5.drew.cell? ⟨g.m, 4, none⟩ = some (.pointer (some ⟨g.t, 0, none⟩)) ∧ w5.drew.cell? ⟨P, 1, none⟩ = some (.int .i64 an)) := Lib.hid ⟨(HT.out.at_.blk.fr HW5.out (by decide)).cell 4, (HP.out.fr HW5.out (by decide)).cell 1⟩
  obtain ⟨k4, kp⟩ := HK2.out
  go_upto_region 20 with fail
  go_still_tail 6, (by kernel_rfl)
  change wpList _ _ _ _ _ (World.drew _)
  go_upto_region 21 with (first | (go_at_call 20; (with_reducible refine C20.mono ?_); rintro e w7 ⟨code7, T2, rfl, hs7, hi7, hk7, _, _⟩))
  have HFW : Hid (Fr S TD W w7) := Lib.hid ((HT.out.fr.mono (fun _ h => .inl h) TT_TD).trans ((HW5.out.mono (T' := TD) (fun _ h => .inl h) (by decide)).trans (hs7.fr.mono (T' := TD) (fun _ h => .inl h) TT_TD) (fun _ h => .inl h)) HT.out.sup)
  have HS7 : Hid (MS S S1 g (c + 4) w w7) := Lib.hid (MS.below H1B.out ⟨HT.out.sub, HT.out.sup, HFW.out, by
    obtain ⟨fl2, h1, h2, h3⟩ := HO.out
    exact ⟨_, _, _, _, _, _, HT.out.at_.opened HW5.out h1 h2 h3 hs7 hi7 hk7 HC.out.2.2⟩⟩)
  have HE7 := Lib.hid (HEF.out.1.fr HFW.out (by decide))
  have HX := Lib.hid (fun (tm : Array Value) (h4 : tm.getD 6 undef = .pointer (some ⟨E, 0, none⟩)) => ro_fin (op := 3) (fn := Tryz.f26) { Res.zero with n := (fk : Int) } (.slice none 0 0) (.slice none 0 0) rfl HS7.out HE7.out HEF.out.2 (.inl ⟨rfl, rfl, rfl, rfl⟩) ⟨off_nil _, off_nil _⟩ (by simp [fldI, Res.zero, stat0, statI]) h4)
  clear hs7 hi7 hk7 k4 kp
  obtain ⟨e0, e1, e2, e3, e4, e5, e6, e7, e8, e9, e10, e11⟩ := rz_cells HE7.out
  unfold res11 at HX
  dsimp only [Res.zero] at HX
  go_wp2_with fail
  with_reducible exact HX.out _ rfl
end Go.Proofs.YtfjghemojnhmbaaGreat
