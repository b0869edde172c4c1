/- The document's model: may what is there be opened? -/
import Derived.Test.YtfjghemojnhmbaaGreatYg
namespace Go.Proofs.YtfjghemojnhmbaaGreat
open Go.RowKit

attribute [local go_sem ↓] run_field38 run_field38s
/-- What 'may' does. -/
def MayP (S : Nat → Prop) (g : MG) (c : Nat) (bs : List Nat) (T : List (Option Nd)) (tv : Value) (l : List Mt) (fl : Nat → Nat → Fl) (cw : Nat → Int × Int) (w : World) (e : Ending) (w' : World) : Prop := ∃ (code : Int) (S' : Nat → Prop), e = .returned (.int .i64 code) ∧ MTS S S' g c bs T T tv l fl cw w w'
set_option maxRecDepth 100000 in
set_option maxHeartbeats 8000000 in
theorem may15_any {S : Nat → Prop} {w : World} {g : MG} {c : Nat} {bs : List Nat} {T : List (Option Nd)} {tv : Value} {l : List Mt} {fl : Nat → Nat → Fl} {cw : Nat → Int × Int} (hm : MA S w g c bs T tv l fl cw) (p : Nat) (hp : p < 2) (q : Cl) (am an : Int) (ha : Liv T an) (fresh : Bool) (hcc : c + 3 ≤ 99000) : Calls Tryz.prog 50 #[.pointer (some ⟨g.m, 0, none⟩), .int .i64 (p : Int), q.val, .agg #[.int .i64 am, .int .i64 an], .bool fresh] w (MayP S g (c + 3) bs T tv l fl cw w) := by
  have HC := Lib.hid (And.intro hm (And.intro hp (And.intro (LivD.r64 hm.wi.ctx ha) hcc)))
  have k0 : (0 : Int) ≤ (p : Int) := by omega
  have k1 : (p : Int) < (2 : Int) := by omega
  clear hm ha hcc hp
  have HS : Hid (∀ X, Below w.heap.size w X → ∀ code : Int, MayP S g (c + 3) bs T tv l fl cw w (.returned (.int .i64 code)) X) := Lib.hid fun X hX code => ⟨code, S, rfl, MTS.same HC.out.1 hX (Nat.le_add_right c 3) HC.out.2.2.2⟩
  unfold Cl.val
  go_enter Tryz.func50, Tryz.ntmps50
  go_upto_region 1 with fail
  refine box2g (fun W hbx hnx => ?_)
  have H1B := Lib.hid hbx
  have H1 := Lib.hid hnx
  clear hbx hnx
  generalize hD : w.heap.size + 1 = D at H1 ⊢
  obtain ⟨C, hC⟩ : ∃ C, w.heap.size = C := ⟨_, rfl⟩
  rw [hC] at H1 ⊢
  have H1E : Hid (w.heap.size = C ∧ w.heap.size + 1 = D) := Lib.hid (by omega)
  clear hC hD
  have HM := Lib.hid (HC.out.1.below H1B.out)
  have HQ : Hid (∀ X, Below W.heap.size W X → X.cell? ⟨g.m, 3, none⟩ = some (.slice (some ⟨g.wb, g.wo, none⟩) 2 g.wc) ∧ X.cell? ⟨g.m, 4, none⟩ = some (.pointer (some ⟨g.t, 0, none⟩)) ∧ X.cell? ⟨g.wb, g.wo + p * 2, none⟩ = some (.int .i64 (crOf p).u) ∧ X.cell? ⟨g.wb, g.wo + p * 2 + 1, none⟩ = some (.int .i64 (crOf p).g) ∧ X.cell? ⟨C, 4, none⟩ = some (.int .i64 q.flags) ∧ X.cell? ⟨D, 1, none⟩ = some (.int .i64 an)) := Lib.hid fun X hX => ⟨(HM.out.below hX).blk.cell 3, (HM.out.below hX).blk.cell 4, (who_at (HM.out.below hX).who HC.out.2.1).1, (who_at (HM.out.below hX).who HC.out.2.1).2, (H1.out.1.below hX).cell 4, (H1.out.2.below hX).cell 1⟩
  obtain ⟨q0, q1, q2, q3, q4, q5⟩ := HQ.out _ (Below.refl _ _)
  have C1 := mstat_any HM.out an HC.out.2.2.1
  have HBW : Hid (∀ X, Below W.heap.size W X → Below w.heap.size w X) := Lib.hid fun X hX => H1B.out.trans (hX.mono H1B.out.size)
  go_upto_region 2 with (first | (go_at_call 53; (with_reducible refine C1.mono ?_); rintro e w2 ⟨s, rfl, hs, hb⟩; have HB2 : Hid (Below W.heap.size W w2) := Lib.hid hb; clear hs hb; unfold Stt.val))
  refine box1g (fun W3 hbx hnx => ?_)
  have H3B := Lib.hid hbx
  have H3 := Lib.hid hnx
  clear hbx hnx
  obtain ⟨G, hG⟩ : ∃ G, w2.heap.size = G := ⟨_, rfl⟩
  rw [hG] at H3 ⊢
  have H3E : Hid (w2.heap.size = G) := Lib.hid (by omega)
  clear hG
  have HB3 := Lib.hid (HB2.out.trans (H3B.out.mono HB2.out.size))
  have HQG : Hid (∀ X, Below W3.heap.size W3 X → (X.cell? ⟨g.m, 3, none⟩ = some (.slice (some ⟨g.wb, g.wo, none⟩) 2 g.wc) ∧ X.cell? ⟨g.m, 4, none⟩ = some (.pointer (some ⟨g.t, 0, none⟩)) ∧ X.cell? ⟨g.wb, g.wo + p * 2, none⟩ = some (.int .i64 (crOf p).u) ∧ X.cell? ⟨g.wb, g.wo + p * 2 + 1, none⟩ = some (.int .i64 (crOf p).g) ∧ X.cell? ⟨C, 4, none⟩ = some (.int .i64 q.flags) ∧ X.cell? ⟨D, 1, none⟩ = some (.int .i64 an)) ∧ X.cell? ⟨G, 0, none⟩ = some (.int .i64 s.node) ∧ X.cell? ⟨G, 1, none⟩ = some (.int .i64 s.kind) ∧ X.cell? ⟨G, 2, none⟩ = some (.int .i64 s.mode) ∧ X.cell? ⟨G, 3, none⟩ = some (.int .i64 s.uid) ∧ X.cell? ⟨G, 4, none⟩ = some (.int .i64 s.gid) ∧ X.cell? ⟨G, 5, none⟩ = some (.int .i64 s.links) ∧ X.cell? ⟨G, 6, none⟩ = some (.int .i64 s.size)) := Lib.hid fun X hX => ⟨HQ.out X (HB3.out.trans (hX.mono HB3.out.size)), (H3.out.below hX).cell 0, (H3.out.below hX).cell 1, (H3.out.below hX).cell 2, (H3.out.below hX).cell 3, (H3.out.below hX).cell 4, (H3.out.below hX).cell 5, (H3.out.below hX).cell 6⟩
  have HBW3 : Hid (∀ X, Below W3.heap.size W3 X → Below w.heap.size w X) := Lib.hid fun X hX => HBW.out X (HB3.out.trans (hX.mono HB3.out.size))
  have HB0 : Hid (Below W3.heap.size W3 W3) := Lib.hid (Below.refl _ _)
  have C75a : Hid (∀ X : World, Calls Tryz.prog 75 #[.agg #[.int .i64 (crOf p).u, .int .i64 (crOf p).g], .agg #[.int .i64 s.node, .int .i64 s.kind, .int .i64 s.mode, .int .i64 s.uid, .int .i64 s.gid, .int .i64 s.links, .int .i64 s.size], .int .i64 4] X (SomeB X)) := Lib.hid (fun X => may_any (crOf p) s 4 X)
  have C75b : Hid (∀ X : World, Calls Tryz.prog 75 #[.agg #[.int .i64 (crOf p).u, .int .i64 (crOf p).g], .agg #[.int .i64 s.node, .int .i64 s.kind, .int .i64 s.mode, .int .i64 s.uid, .int .i64 s.gid, .int .i64 s.links, .int .i64 s.size], .int .i64 2] X (SomeB X)) := Lib.hid (fun X => may_any (crOf p) s 2 X)
  clear q0 q1 q2 q3 q4 q5 C1 HB2
  obtain ⟨⟨q0, q1, q2, q3, q4, q5⟩, g0, g1, g2, g3, g4, g5, g6⟩ := HQG.out _ HB0.out
  obtain ⟨d, hd⟩ : ∃ d, (s.kind == 1) = d := ⟨_, rfl⟩
  cases d
  all_goals
    go_upto_block 0 with fail
    go_cut [] (fun wx => Hid (Below W3.heap.size W3 wx))
    case first =>
      cases fresh
      case true =>
        go_wp2_with fail
        refine int_ret rfl rfl ?_
        with_reducible exact HS.out _ (HBW3.out _ HB0.out) _
      obtain ⟨k3, hk3⟩ : ∃ k3, (s.kind == 3) = k3 := ⟨_, rfl⟩
      obtain ⟨b128, h128⟩ : ∃ b128, (bits .and .i64 q.flags 128 != 0) = b128 := ⟨_, rfl⟩
      obtain ⟨b6, h6⟩ : ∃ b6, (bits .and .i64 q.flags 6 != 0) = b6 := ⟨_, rfl⟩
      cases k3
      case true =>
        go_wp2_with fail
        refine int_ret rfl rfl ?_
        with_reducible exact HS.out _ (HBW3.out _ HB0.out) _
      cases b128 <;> cases b6
      all_goals
        go_upto_region 11 with fail
      all_goals first
        | (refine int_ret rfl rfl ?_; with_reducible exact HS.out _ (HBW3.out _ HB0.out) _)
        | skip
      all_goals
        obtain ⟨b1, h1⟩ : ∃ b1, (bits .and .i64 q.flags 1 != 0) = b1 := ⟨_, rfl⟩
        cases b1
        case false =>
          go_quiet (fail)
          have HB1 := Lib.hid (below_drewN HB0.out nq)
          generalize World.drewN _ nq = V1 at HB1 ⊢
          clear q0 q1 q2 q3 q4 q5 g0 g1 g2 g3 g4 g5 g6
          obtain ⟨⟨q0, q1, q2, q3, q4, q5⟩, g0, g1, g2, g3, g4, g5, g6⟩ := HQG.out _ HB1.out
          go_upto_region 13 with fail
          obtain ⟨b2, h2⟩ : ∃ b2, (bits .and .i64 q.flags 2 != 0) = b2 := ⟨_, rfl⟩
          cases b2
          case false =>
            go_quiet (fail)
            have HB2 := Lib.hid (below_drewN HB1.out nq)
            generalize World.drewN _ nq = V2 at HB2 ⊢
            clear q0 q1 q2 q3 q4 q5 g0 g1 g2 g3 g4 g5 g6
            obtain ⟨⟨q0, q1, q2, q3, q4, q5⟩, g0, g1, g2, g3, g4, g5, g6⟩ := HQG.out _ HB2.out
            go_wp2_with fail
            go_meet
            exact HB2
          case true =>
            have HBd2 := Lib.hid HB1.out.drew
            go_region_held3 (fun X => (X.cell? ⟨g.m, 3, none⟩ = some (.slice (some ⟨g.wb, g.wo, none⟩) 2 g.wc) ∧ X.cell? ⟨g.m, 4, none⟩ = some (.pointer (some ⟨g.t, 0, none⟩)) ∧ X.cell? ⟨g.wb, g.wo + p * 2, none⟩ = some (.int .i64 (crOf p).u) ∧ X.cell? ⟨g.wb, g.wo + p * 2 + 1, none⟩ = some (.int .i64 (crOf p).g) ∧ X.cell? ⟨C, 4, none⟩ = some (.int .i64 q.flags) ∧ X.cell? ⟨D, 1, none⟩ = some (.int .i64 an)) ∧ X.cell? ⟨G, 0, none⟩ = some (.int .i64 s.node) ∧ X.cell? ⟨G, 1, none⟩ = some (.int .i64 s.kind) ∧ X.cell? ⟨G, 2, none⟩ = some (.int .i64 s.mode) ∧ X.cell? ⟨G, 3, none⟩ = some (.int .i64 s.uid) ∧ X.cell? ⟨G, 4, none⟩ = some (.int .i64 s.gid) ∧ X.cell? ⟨G, 5, none⟩ = some (.int .i64 s.links) ∧ X.cell? ⟨G, 6, none⟩ = some (.int .i64 s.size)) (first | (refine HQG.out _ ?_; first | (with_reducible exact HBd2.out) | (with_reducible exact HB2.out))) (first | (go_at_call 75; (with_reducible refine (C75b.out _).mono ?_); rintro e wn2 ⟨⟨r, rfl⟩, hb⟩; have HB2 : Hid (Below W3.heap.size W3 wn2) := Lib.hid (HBd2.out.trans (hb.mono HBd2.out.size)); clear hb))
            clear q0 q1 q2 q3 q4 q5 g0 g1 g2 g3 g4 g5 g6
            obtain ⟨⟨q0, q1, q2, q3, q4, q5⟩, g0, g1, g2, g3, g4, g5, g6⟩ := HQG.out _ HB2.out
            cases r
            case false =>
              go_wp2_with fail
              refine int_ret rfl rfl ?_
              with_reducible exact HS.out _ (HBW3.out _ HB2.out) _
            go_wp2_with fail
            go_meet
            exact HB2
        case true =>
          have HBd1 := Lib.hid HB0.out.drew
          go_region_held3 (fun X => (X.cell? ⟨g.m, 3, none⟩ = some (.slice (some ⟨g.wb, g.wo, none⟩) 2 g.wc) ∧ X.cell? ⟨g.m, 4, none⟩ = some (.pointer (some ⟨g.t, 0, none⟩)) ∧ X.cell? ⟨g.wb, g.wo + p * 2, none⟩ = some (.int .i64 (crOf p).u) ∧ X.cell? ⟨g.wb, g.wo + p * 2 + 1, none⟩ = some (.int .i64 (crOf p).g) ∧ X.cell? ⟨C, 4, none⟩ = some (.int .i64 q.flags) ∧ X.cell? ⟨D, 1, none⟩ = some (.int .i64 an)) ∧ X.cell? ⟨G, 0, none⟩ = some (.int .i64 s.node) ∧ X.cell? ⟨G, 1, none⟩ = some (.int .i64 s.kind) ∧ X.cell? ⟨G, 2, none⟩ = some (.int .i64 s.mode) ∧ X.cell? ⟨G, 3, none⟩ = some (.int .i64 s.uid) ∧ X.cell? ⟨G, 4, none⟩ = some (.int .i64 s.gid) ∧ X.cell? ⟨G, 5, none⟩ = some (.int .i64 s.links) ∧ X.cell? ⟨G, 6, none⟩ = some (.int .i64 s.size)) (first | (refine HQG.out _ ?_; first | (with_reducible exact HBd1.out) | (with_reducible exact HB1.out))) (first | (go_at_call 75; (with_reducible refine (C75a.out _).mono ?_); rintro e wn1 ⟨⟨r, rfl⟩, hb⟩; have HB1 : Hid (Below W3.heap.size W3 wn1) := Lib.hid (HBd1.out.trans (hb.mono HBd1.out.size)); clear hb))
          clear q0 q1 q2 q3 q4 q5 g0 g1 g2 g3 g4 g5 g6
          obtain ⟨⟨q0, q1, q2, q3, q4, q5⟩, g0, g1, g2, g3, g4, g5, g6⟩ := HQG.out _ HB1.out
          cases r
          case false =>
            go_wp2_with fail
            refine int_ret rfl rfl ?_
            with_reducible exact HS.out _ (HBW3.out _ HB1.out) _
          go_upto_region 13 with fail
          obtain ⟨b2, h2⟩ : ∃ b2, (bits .and .i64 q.flags 2 != 0) = b2 := ⟨_, rfl⟩
          cases b2
          case false =>
            go_quiet (fail)
            have HB2 := Lib.hid (below_drewN HB1.out nq)
            generalize World.drewN _ nq = V2 at HB2 ⊢
            clear q0 q1 q2 q3 q4 q5 g0 g1 g2 g3 g4 g5 g6
            obtain ⟨⟨q0, q1, q2, q3, q4, q5⟩, g0, g1, g2, g3, g4, g5, g6⟩ := HQG.out _ HB2.out
            go_wp2_with fail
            go_meet
            exact HB2
          case true =>
            have HBd2 := Lib.hid HB1.out.drew
            go_region_held3 (fun X => (X.cell? ⟨g.m, 3, none⟩ = some (.slice (some ⟨g.wb, g.wo, none⟩) 2 g.wc) ∧ X.cell? ⟨g.m, 4, none⟩ = some (.pointer (some ⟨g.t, 0, none⟩)) ∧ X.cell? ⟨g.wb, g.wo + p * 2, none⟩ = some (.int .i64 (crOf p).u) ∧ X.cell? ⟨g.wb, g.wo + p * 2 + 1, none⟩ = some (.int .i64 (crOf p).g) ∧ X.cell? ⟨C, 4, none⟩ = some (.int .i64 q.flags) ∧ X.cell? ⟨D, 1, none⟩ = some (.int .i64 an)) ∧ X.cell? ⟨G, 0, none⟩ = some (.int .i64 s.node) ∧ X.cell? ⟨G, 1, none⟩ = some (.int .i64 s.kind) ∧ X.cell? ⟨G, 2, none⟩ = some (.int .i64 s.mode) ∧ X.cell? ⟨G, 3, none⟩ = some (.int .i64 s.uid) ∧ X.cell? ⟨G, 4, none⟩ = some (.int .i64 s.gid) ∧ X.cell? ⟨G, 5, none⟩ = some (.int .i64 s.links) ∧ X.cell? ⟨G, 6, none⟩ = some (.int .i64 s.size)) (first | (refine HQG.out _ ?_; first | (with_reducible exact HBd2.out) | (with_reducible exact HB2.out))) (first | (go_at_call 75; (with_reducible refine (C75b.out _).mono ?_); rintro e wn2 ⟨⟨r, rfl⟩, hb⟩; have HB2 : Hid (Below W3.heap.size W3 wn2) := Lib.hid (HBd2.out.trans (hb.mono HBd2.out.size)); clear hb))
            clear q0 q1 q2 q3 q4 q5 g0 g1 g2 g3 g4 g5 g6
            obtain ⟨⟨q0, q1, q2, q3, q4, q5⟩, g0, g1, g2, g3, g4, g5, g6⟩ := HQG.out _ HB2.out
            cases r
            case false =>
              go_wp2_with fail
              refine int_ret rfl rfl ?_
              with_reducible exact HS.out _ (HBW3.out _ HB2.out) _
            go_wp2_with fail
            go_meet
            exact HB2
    case rest =>
      have HB4 := hcut
      clear HB0 q0 q1 q2 q3 q4 q5 g0 g1 g2 g3 g4 g5 g6
      obtain ⟨⟨q0, q1, q2, q3, q4, q5⟩, g0, g1, g2, g3, g4, g5, g6⟩ := HQG.out _ HB4.out
      obtain ⟨b16, h16⟩ : ∃ b16, (bits .and .i64 q.flags 16 != 0) = b16 := ⟨_, rfl⟩
      cases b16
      case false =>
        go_wp2_with fail
        refine int_ret rfl rfl ?_
        with_reducible exact HS.out _ (HBW3.out _ HB4.out) _
      have C5 := (tcut_any (HC.out.1.below (HBW3.out _ HB4.out.drew)).wi.tr (by have := HC.out.1.wi.cc; omega) an 0 HC.out.2.2.1)
      go_upto_region 16 with fail
      go_still_tail 6, (by kernel_rfl)
      change wpList _ _ _ _ _ (World.drew _)
      go_wp2_with (first | (go_at_call 76; (with_reducible refine C5.mono ?_); rintro e w5 ⟨code, S5, rfl, _, _, hs5⟩))
      refine int_ret rfl rfl ?_
      exact ⟨0, S5, rfl, MTS.below (HBW3.out _ HB4.out.drew) (MTS.tree (HC.out.1.below (HBW3.out _ HB4.out.drew)) (hs5.mono (Nat.le_add_right c 3)) HC.out.1.wi.inv (KK.refl T) (Nat.le_add_right c 3) HC.out.2.2.2)⟩
end Go.Proofs.YtfjghemojnhmbaaGreat
