/- The tree: Hold, SetMode, SetOwner, reap, Loose. -/
import Derived.Test.YtfjghemojnhmbaaGreatTrC
import Derived.Test.YtfjghemojnhmbaaGreatPool7
namespace Go.Proofs.YtfjghemojnhmbaaGreat
open Go.RowKit

/-- A node is turned to another, or nothing is done where none lives. -/
def TurnP (S : Nat → Prop) (t c : Nat) (bs : List Nat) (T : List (Option Nd)) (n : Int) (R : Nd → Nd → Prop) (w : World) (e : Ending) (w' : World) : Prop := ∃ code : Int, e = .returned (.int .i64 code) ∧ 0 ≤ code ∧ code ≤ 64 ∧ ((lv T n = none ∧ w' = w) ∨
  ∃ (i : Nat) (x y : Nd), n = (i : Int) + 1 ∧ T[i]? = some (some x) ∧ R x y ∧ TStep S S t c bs w w' (T.set i (some y)))
set_option maxRecDepth 100000 in
theorem hold_any {S : Nat → Prop} {w : World} {t c : Nat} {bs : List Nat} {T : List (Option Nd)} (h : TR S w t c bs T) (hc : c + 1 ≤ 100000) (n : Int) (hn : R64 n) : Calls Tryz.prog 20 #[.pointer (some ⟨t, 0, none⟩), .int .i64 n] w (TurnP S t (c + 1) bs T n (fun x y => y = { x with held := x.held + 1 }) w) := by
  obtain ⟨M, p, v, h⟩ := h
  have C1 := nat_any h (by omega) n hn
  have HT := Lib.hid h
  clear h
  go_enter Tryz.func20, Tryz.ntmps20
  go_wp2_with fail
  refine C1.mono ?_
  rintro e w' ⟨rfl, ⟨hl, rfl⟩ | ⟨i, x, b, rfl, hx, hb, rfl⟩⟩
  · have HL := Lib.hid hl
    clear hl
    go_wp2_with fail
    go_ret
    exact ⟨1, rfl, by omega, by omega, .inl ⟨HL.out, rfl⟩⟩
  · obtain ⟨u, hu⟩ := HT.out.nd i x b hx hb
    have ho := HT.out.ok i x hx
    have c11 := hu.cs.c11
    have hf := hu.blk.free 11
    have hhe := ho.he
    have HF := Lib.hid ((HT.out.mono (Nat.le_succ c)).turn1 (j := 11) (val := .int .i64 ((x.held : Int) + 1)) (y := { x with held := x.held + 1 }) hx hb hu (by simp [Nd.cells]) rfl { ho.mono (Nat.le_succ c) with he := Nat.succ_le_succ ho.he })
    have HX := Lib.hid hx
    clear hu hx hb ho
    go_wp2_with fail
    go_ret
    exact ⟨0, rfl, by omega, by omega, .inr ⟨i, x, _, rfl, HX.out, rfl, TStep.of HF.out (by simp)⟩⟩
set_option maxRecDepth 100000 in
theorem setmode_any {S : Nat → Prop} {w : World} {t c : Nat} {bs : List Nat} {T : List (Option Nd)} (h : TR S w t c bs T) (hc : c ≤ 100000) (n : Int) (hn : R64 n) (m : Int) : Calls Tryz.prog 73 #[.pointer (some ⟨t, 0, none⟩), .int .i64 n, .int .i64 m] w (TurnP S t c bs T n (fun x y => ∃ m', 0 ≤ m' ∧ m' ≤ 4095 ∧ y = { x with mode := m' }) w) := by
  obtain ⟨M, p, v, h⟩ := h
  have C1 := nat_any h (by omega) n hn
  have HT := Lib.hid h
  clear h
  go_enter Tryz.func73, Tryz.ntmps73
  go_wp2_with fail
  refine C1.mono ?_
  rintro e w' ⟨rfl, ⟨hl, rfl⟩ | ⟨i, x, b, rfl, hx, hb, rfl⟩⟩
  · have HL := Lib.hid hl
    clear hl
    go_wp2_with fail
    go_ret
    exact ⟨1, rfl, by omega, by omega, .inl ⟨HL.out, rfl⟩⟩
  · obtain ⟨u, hu⟩ := HT.out.nd i x b hx hb
    have ho := HT.out.ok i x hx
    have c2 := hu.cs.c2
    have hf := hu.blk.free 2
    have C2 := masked_any m w'
    have HF : Hid (∀ m', 0 ≤ m' → m' ≤ 4095 → TreeAt S (w'.setCell ⟨b, 2, none⟩ (.int .i64 m')) t c M p v bs (T.set i (some { x with mode := m' })) ∧ Fr S [110] w' (w'.setCell ⟨b, 2, none⟩ (.int .i64 m'))) := Lib.hid fun m' h0 h1 => HT.out.turn1 (j := 2) (val := .int .i64 m') (y := { x with mode := m' }) hx hb hu (by simp [Nd.cells]) rfl { ho with m0 := h0, m1 := h1 }
    have HX := Lib.hid hx
    clear hu hx hb ho
    go_wp2_with fail
    refine C2.mono ?_
    rintro e w2 ⟨⟨r, r0, r1, rfl⟩, rfl⟩
    go_wp2_with fail
    go_ret
    exact ⟨0, rfl, by omega, by omega, .inr ⟨i, x, _, rfl, HX.out, ⟨r, r0, r1, rfl⟩, TStep.of (HF.out r r0 r1) (by simp)⟩⟩
set_option maxRecDepth 100000 in
theorem setowner_any {S : Nat → Prop} {w : World} {t c : Nat} {bs : List Nat} {T : List (Option Nd)} (h : TR S w t c bs T) (hc : c ≤ 100000) (n : Int) (hn : R64 n) (m g : Int) : Calls Tryz.prog 111 #[.pointer (some ⟨t, 0, none⟩), .int .i64 n, .int .i64 m, .int .i64 g] w (TurnP S t c bs T n (fun x y => y = { x with uid := m, gid := g }) w) := by
  obtain ⟨M, p, v, h⟩ := h
  have C1 := nat_any h (by omega) n hn
  have HT := Lib.hid h
  clear h
  go_enter Tryz.func111, Tryz.ntmps111
  go_wp2_with fail
  refine C1.mono ?_
  rintro e w' ⟨rfl, ⟨hl, rfl⟩ | ⟨i, x, b, rfl, hx, hb, rfl⟩⟩
  · have HL := Lib.hid hl
    clear hl
    go_wp2_with fail
    go_ret
    exact ⟨1, rfl, by omega, by omega, .inl ⟨HL.out, rfl⟩⟩
  · obtain ⟨u, hu⟩ := HT.out.nd i x b hx hb
    have ho := HT.out.ok i x hx
    have c3 := hu.cs.c3
    have c4 := hu.cs.c4
    have hf := hu.blk.free
    have h1 := HT.out.turn1 (j := 3) (val := .int .i64 m) (y := { x with uid := m }) hx hb hu (by simp [Nd.cells]) rfl { ho with }
    obtain ⟨u2, hu2⟩ := h1.1.nd i { x with uid := m } b (List.getElem?_set_self (List.getElem?_eq_some_iff.1 hx).1) hb
    have h2 := h1.1.turn1 (j := 4) (val := .int .i64 g) (y := { x with uid := m, gid := g }) (List.getElem?_set_self (List.getElem?_eq_some_iff.1 hx).1) hb hu2 (by simp [Nd.cells]) rfl { ho with }
    have HF : Hid (TStep S S t c bs w' ((w'.setCell ⟨b, 3, none⟩ (.int .i64 m)).setCell ⟨b, 4, none⟩ (.int .i64 g)) (T.set i (some { x with uid := m, gid := g }))) := Lib.hid (by
      have := (TStep.of h1 (by simp)).trans (TStep.of h2 (by simp))
      rwa [List.set_set] at this)
    have HX := Lib.hid hx
    clear hu hx hb ho h1 h2 hu2
    go_wp2_with fail
    go_ret
    exact ⟨0, rfl, by omega, by omega, .inr ⟨i, x, _, rfl, HX.out, rfl, HF.out⟩⟩
end Go.Proofs.YtfjghemojnhmbaaGreat
/- The tree: reap, Loose. -/
namespace Go.Proofs.YtfjghemojnhmbaaGreat
open Go.RowKit

/-- The pool alone has turned. -/
theorem TreeAt.pooled {S S' : Nat → Prop} {w w' : World} {t c c' : Nat} {M : Int} {p : Nat} {v : Value} {bs : List Nat} {T : List (Option Nd)} (h : TreeAt S w t c M p v bs T) (hs : ∀ k, S k → S' k) (hf : Fr S PT w w') (hp : PoolOk S' w' p c') (hc : c ≤ c') : TreeAt S' w' t c' M p v bs T :=
  ⟨h.blk.fr hf (by simp), hs t h.own, hp, h.row.frT hf (by simp), fun k hk => hs k (h.rowS k hk), h.len, Nat.le_trans h.tl hc,
    fun i x b hx hb => by obtain ⟨u, hu⟩ := h.nd i x b hx hb; exact ⟨u, hu.fr hs hf (by simp) (by simp)⟩, h.inj, fun i x hx => (h.ok i x hx).mono hc, h.m0, h.m1⟩
def reapT (T : List (Option Nd)) (i : Nat) (x : Nd) : List (Option Nd) := if i = 0 ∨ 0 < x.named ∨ 0 < x.held then T else T.set i none
/-- What reap does. -/
def ReapP (S : Nat → Prop) (t c : Nat) (bs : List Nat) (T' : List (Option Nd)) (w : World) (e : Ending) (w' : World) : Prop := e = .returned (.tuple #[]) ∧ ∃ S', TStep S S' t c bs w w' T'
set_option maxRecDepth 100000 in
theorem reap_any {S : Nat → Prop} {w : World} {t c : Nat} {bs : List Nat} {T : List (Option Nd)} (h : TR S w t c bs T) (hc : c ≤ 100000) {i : Nat} {x : Nd} (hx : T[i]? = some (some x)) : Calls Tryz.prog 45 #[.pointer (some ⟨t, 0, none⟩), .int .i64 ((i : Int) + 1)] w (ReapP S t c bs (reapT T i x) w) := by
  obtain ⟨M, p, v, h⟩ := h
  obtain ⟨b, u, hb, hu⟩ := h.block hx
  have C1 := nat_live h (by omega) hx hb
  have HT := Lib.hid h
  have hil := (List.getElem?_eq_some_iff.1 hx).1
  have hle := h.tl
  have c1 := hu.cs.c1
  have c10 := hu.cs.c10
  have c11 := hu.cs.c11
  have c12 := hu.cs.c12
  have t1 := h.cells.2.1
  have t2 := h.cells.2.2
  have ho := h.ok i x hx
  have f0 := ho.f0
  have f1 := ho.f1
  have hna := ho.na
  have hhe := ho.he
  have C2 := drop_any S w p c h.pool (by omega) x.file (by omega) (by omega)
  have C2d := drop_any S w.drew p c (h.below (Below.refl _ _).drew).pool (by omega) x.file (by omega) (by omega)
  obtain ⟨f, o, cap, rfl⟩ := h.row.form (by omega)
  have HK : Hid (i = 0 ∨ 0 < x.named ∨ 0 < x.held → ReapP S t c bs (reapT T i x) w (.returned (.tuple #[])) w) := Lib.hid fun hq => ⟨rfl, S, by rw [reapT, if_pos hq]; exact TStep.same h.tr (Below.refl _ _)⟩
  have HG : Hid (¬ (i = 0 ∨ 0 < x.named ∨ 0 < x.held) → reapT T i x = T.set i none) := Lib.hid fun hq => by rw [reapT, if_neg hq]
  have HX := Lib.hid (And.intro hx hb)
  clear h hx hb hu ho
  go_enter Tryz.func45, Tryz.ntmps45
  by_cases hq : i = 0 ∨ 0 < x.named ∨ 0 < x.held
  · have HK2 := Lib.hid (HK.out hq)
    by_cases h0 : ((i : Int) + 1 == 1) = true
    · go_wp2_with (first | (go_at_call 37; refine C1.mono ?_; rintro e w' ⟨rfl, rfl⟩))
      exact bodyPost_ret (results_none rfl _ _ _) rfl HK2.out
    · have h0' : ((i : Int) + 1 == 1) = false := by simpa using h0
      by_cases h1 : 0 < x.named
      · have k1 : (0 : Int) < (x.named : Int) := by omega
        go_wp2_with (first | (go_at_call 37; refine C1.mono ?_; rintro e w' ⟨rfl, rfl⟩))
        exact bodyPost_ret (results_none rfl _ _ _) rfl HK2.out
      · have k1 : ¬ (0 : Int) < (x.named : Int) := by omega
        have hh : 0 < x.held := by
          rcases hq with q | q | q
          · subst q; simp at h0
          · omega
          · exact q
        have k2 : (0 : Int) < (x.held : Int) := by omega
        go_wp2_with (first | (go_at_call 37; refine C1.mono ?_; rintro e w' ⟨rfl, rfl⟩))
        exact bodyPost_ret (results_none rfl _ _ _) rfl HK2.out
  · have h0 : ((i : Int) + 1 == 1) = false := by simp; omega
    have k1 : ¬ (0 : Int) < (x.named : Int) := by omega
    have k2 : ¬ (0 : Int) < (x.held : Int) := by omega
    have k3 : (0 : Int) ≤ (i : Int) := by omega
    have k4 : (i : Int) < (T.length : Int) := by omega
    have HG2 := Lib.hid (HG.out hq)
    by_cases hk : x.kind = 2
    · go_upto_region 3 with (first | (go_at_call 37; refine C1.mono ?_; rintro e w' ⟨rfl, rfl⟩))
      have HTd := Lib.hid (HT.out.below (Below.refl _ _).drew)
      have HBd : Hid (∀ S', (∀ k, S k → S' k) → ∀ w2, Fr S PT w'.drew w2 → PoolOk S' w2 p c → TreeAt S' w2 t c M p (.slice (some ⟨f, o, none⟩) T.length cap) bs T ∧ w2.cell? ⟨t, 1, none⟩ = some (.pointer (some ⟨p, 0, none⟩)) ∧ w2.cell? ⟨b, 12, none⟩ = some (.int .i64 x.file)) := Lib.hid (by
        intro S' hs w2 hf hp
        have h := HTd.out.pooled hs hf hp (Nat.le_refl _)
        obtain ⟨u2, hu2⟩ := h.nd i x b HX.out.1 HX.out.2
        exact ⟨h, h.cells.2.1, hu2.cs.c12⟩)
      go_region_held3 (fun X => X.cell? ⟨t, 1, none⟩ = some (.pointer (some ⟨p, 0, none⟩)) ∧ X.cell? ⟨b, 12, none⟩ = some (.int .i64 x.file)) (first | exact ⟨t1, c12⟩ | exact ⟨q1, q2⟩) (first | (go_at_call 79; refine C2d.mono ?_; rintro e w2 ⟨n, S', rfl, n0, n1, hs, hs2, hkf, hfr, hpo⟩; obtain ⟨qt, q1, q2⟩ := HBd.out S' hs w2 hfr hpo; have HQ := Lib.hid (And.intro qt (And.intro hs (And.intro hs2 hfr))); clear qt hs hs2 hkf hfr hpo))
      clear t1 t2 c1 c10 c11 c12 q1 q2
      have t2 := HQ.out.1.cells.2.2
      obtain ⟨g, o2, cap2, b2, y, e1, _, e2, e3, e4⟩ := HQ.out.1.entry hil
      cases e1
      obtain ⟨cur, hcur⟩ := HQ.out.1.row.blk
      have ff := hcur.free
      have HD := Lib.hid (HQ.out.1.drop hil)
      clear hcur e2 e3
      go_wp2_with fail
      go_end0
      refine ⟨rfl, S', ?_⟩
      rw [HG2.out]
      obtain ⟨r1, r2, r3, r4⟩ := HQ.out
      have st : TStep S S' t c bs w' w2 T := ⟨r2, r3, (Fr.of_below (S := S) (T := TT) (Below.refl w'.heap.size w').drew).trans (r4.mono (T' := TT) (fun _ h => .inl h) (by simp)) (fun _ h => .inl h), r1.tr⟩
      exact st.trans (TStep.of HD.out (by simp))
    · have hk' : (x.kind == 2) = false := by simp [hk]
      obtain ⟨cur, hcur⟩ := HT.out.row.blk
      have ff := hcur.free
      have HD := Lib.hid (HT.out.drop hil)
      obtain ⟨g, o2, cap2, b2, y, q1, _, q2, q3, q4⟩ := HT.out.entry hil
      cases q1
      clear hcur q2 q3
      go_wp2_with (first | (go_at_call 37; refine C1.mono ?_; rintro e w' ⟨rfl, rfl⟩))
      go_end0
      refine ⟨rfl, S, ?_⟩
      rw [HG2.out]
      exact TStep.of HD.out (by simp)
/-- What Loose does. -/
def looseT (T : List (Option Nd)) (i : Nat) (x : Nd) : List (Option Nd) := reapT (T.set i (some { x with held := x.held - 1 })) i { x with held := x.held - 1 }
def LooseP (S : Nat → Prop) (t c : Nat) (bs : List Nat) (T : List (Option Nd)) (n : Int) (w : World) (e : Ending) (w' : World) : Prop := ∃ code : Int, e = .returned (.int .i64 code) ∧ ((lv T n = none ∧ w' = w) ∨
  ∃ (i : Nat) (x : Nd), n = (i : Int) + 1 ∧ T[i]? = some (some x) ∧ ((x.held = 0 ∧ w' = w) ∨ (1 ≤ x.held ∧ ∃ S', TStep S S' t c bs w w' (looseT T i x))))
set_option maxRecDepth 100000 in
theorem loose_any {S : Nat → Prop} {w : World} {t c : Nat} {bs : List Nat} {T : List (Option Nd)} (h : TR S w t c bs T) (hc : c ≤ 100000) (n : Int) (hn : R64 n) : Calls Tryz.prog 25 #[.pointer (some ⟨t, 0, none⟩), .int .i64 n] w (LooseP S t c bs T n w) := by
  obtain ⟨M, p, v, h⟩ := h
  have C1 := nat_any h (by omega) n hn
  have HT := Lib.hid h
  clear h
  go_enter Tryz.func25, Tryz.ntmps25
  go_wp2_with fail
  refine C1.mono ?_
  rintro e w' ⟨rfl, ⟨hl, rfl⟩ | ⟨i, x, b, rfl, hx, hb, rfl⟩⟩
  · have HL := Lib.hid hl
    clear hl
    go_wp2_with fail
    go_ret
    exact ⟨1, rfl, .inl ⟨HL.out, rfl⟩⟩
  · obtain ⟨u, hu⟩ := HT.out.nd i x b hx hb
    have ho := HT.out.ok i x hx
    have c11 := hu.cs.c11
    have hf := hu.blk.free 11
    have hhe := ho.he
    have HX := Lib.hid hx
    by_cases h0 : x.held = 0
    · have k0 : ((x.held : Int) == 0) = true := by simp [h0]
      clear hu hx hb ho
      go_wp2_with fail
      go_ret
      exact ⟨16, rfl, .inr ⟨i, x, rfl, HX.out, .inl ⟨h0, rfl⟩⟩⟩
    · have k0 : ((x.held : Int) == 0) = false := by simp; omega
      have hh : ((x.held - 1 : Nat) : Int) = (x.held : Int) - 1 := by omega
      have h1 := HT.out.turn1 (j := 11) (val := .int .i64 ((x.held : Int) - 1)) (y := { x with held := x.held - 1 }) hx hb hu (by simp [Nd.cells, hh]) rfl { ho with he := Nat.le_trans (Nat.sub_le _ _) ho.he }
      have C2 := reap_any h1.1.tr (by omega) (List.getElem?_set_self (List.getElem?_eq_some_iff.1 hx).1)
      have HF := Lib.hid (TStep.of h1 (by simp))
      clear hu hx hb ho h1 hh
      go_wp2_with (first | (go_at_call 45; refine C2.mono ?_; rintro e w2 ⟨rfl, S', hst⟩; have HS := Lib.hid hst; clear hst))
      go_ret
      exact ⟨0, rfl, .inr ⟨i, x, rfl, HX.out, .inr ⟨by omega, S', HF.out.trans HS.out⟩⟩⟩
end Go.Proofs.YtfjghemojnhmbaaGreat
/- The tree: who lives; how many may come. -/
namespace Go.Proofs.YtfjghemojnhmbaaGreat
open Go.RowKit

set_option maxRecDepth 100000 in
theorem live_any {S : Nat → Prop} {w : World} {t c : Nat} {M : Int} {p : Nat} {v : Value} {bs : List Nat} {T : List (Option Nd)} (h : TreeAt S w t c M p v bs T) (hc : c ≤ 100000) : Calls Tryz.prog 119 #[.pointer (some ⟨t, 0, none⟩)] w (IntsP w) := by
  have hle := h.tl
  obtain ⟨i3, h31, h32, h33, h34⟩ := info_parts info3
  have HO := Lib.hid h
  obtain ⟨va, vc, rfl⟩ := h.row.value
  clear h
  go_enter Tryz.func119, Tryz.ntmps119
  go_wp2_with fail
  go_loopw [4, 3] (fun iv v wr => ∃ i n : Nat, i ≤ T.length ∧ n ≤ i ∧ iv = .int .i64 i ∧ Hid (∃ xs, InI w wr v n xs)) (fun iv _ _ => T.length - (intOf iv).toNat)
  case atStart => exact ⟨0, 0, by omega, by omega, rfl, Lib.hid ⟨[], rfl, Win.nil _ _ _ _, by simp, Below.refl _ _⟩⟩
  case round =>
    obtain ⟨i, n, hi, hn, rfl, HI⟩ := hrel
    rename_i u wr
    obtain ⟨xs, hx⟩ := HI.out
    have HX := Lib.hid hx
    obtain ⟨ua, uc, rfl⟩ := hx.win.value
    have HT := Lib.hid (HO.out.below hx.bel)
    clear hx
    have wsz := HX.out.bel.size
    have t2 := HT.out.cells.2.2
    by_cases hlt : i < T.length
    · have k0 : (0 : Int) ≤ (i : Int) := by omega
      have k1 : (i : Int) < (T.length : Int) := by omega
      obtain ⟨f, o, cap, b, y, q1, _, q2, q3, q4⟩ := HT.out.entry hlt
      cases q1
      clear q2 q3
      rcases y with _ | y
      · dsimp only [nptr] at q4
        go_wp2_with fail
        go_roundw
        case rel => exact ⟨i + 1, n, by omega, by omega, by go_num, _, HX.out⟩
        case measure => simp [intOf]; omega
      · dsimp only [nptr] at q4
        go_upto_region 6 with fail
        go_wp2_with (first | (at_builtin; go_must (refine wpList_append_win _ rfl (.tmp 22) (.tmp 25) 81 rfl w.heap.size 3 i3 _ 1 8 Tryz.underlying81 h31 h32 h33 h34 rfl (by decide) (.slice ua n uc) n (xs.map (.int .i64)) rfl (HX.out.win.alloc _) ⟨wr.heap.size, 0, none⟩ 1 1 [.int .i64 ((i : Int) + 1)] rfl rfl (new_cells wr [.int .i64 ((i : Int) + 1)] 3) (by simp [Value.oneCell']) (by decide) (by unfold maxLen; omega) (by omega) (by simp; omega) ?_; intro f' o' cap' w4 hown hgrow hat; have HP := Lib.hid ((HX.out.alloc _).push hown hgrow (by omega) (by omega)); clear hown hgrow hat)))
        go_roundw
        case rel => exact ⟨i + 1, n + 1, by omega, by omega, by go_num, _, HP.out⟩
        case measure => simp [intOf]; omega
    · have k1 : ¬ (i : Int) < (T.length : Int) := by omega
      go_wp2_with fail
      go_ret
      exact HX.out.done (by omega)
/-- Some number, with new memory alone. -/
def NumP (lo hi : Int) (w : World) (e : Ending) (w' : World) : Prop := ∃ n : Int, e = .returned (.int .i64 n) ∧ lo ≤ n ∧ n ≤ hi ∧ Below w.heap.size w w'
set_option maxRecDepth 100000 in
theorem leftt_any {S : Nat → Prop} {w : World} {t c : Nat} {M : Int} {p : Nat} {v : Value} {bs : List Nat} {T : List (Option Nd)} (h : TreeAt S w t c M p v bs T) (hc : c ≤ 100000) : Calls Tryz.prog 96 #[.pointer (some ⟨t, 0, none⟩)] w (NumP (-1000001) 1000000 w) := by
  have C1 := live_any (h.below (Below.refl _ _).drew) hc
  have t0 := h.cells.1
  have tl := h.blk.lt
  have m0 := h.m0
  have m1 := h.m1
  clear h
  go_enter Tryz.func96, Tryz.ntmps96
  go_upto_region 1 with fail
  go_region_held3 (fun X => X.cell? ⟨t, 0, none⟩ = some (.int .i64 M)) (first | exact t0 | exact q0) (first | (go_at_call 119; refine C1.mono ?_; rintro e w2 ⟨u, xs, rfl, hu, hb⟩; have q0 : w2.cell? ⟨t, 0, none⟩ = some (.int .i64 M) := (hb.cell (p := ⟨t, 0, none⟩) tl).trans t0; obtain ⟨ua, uc, rfl⟩ := hu.1.value; have hxl := hu.2.2; have HB := Lib.hid hb; clear hu hb))
  go_wp2_with fail
  go_ret
  have hw : IntKind.i64.wrap (M - (xs.length : Int)) = M - (xs.length : Int) := by
    rw [IntWalk.i64_left]
    exact IntWalk.wrap64_in _ ⟨by omega, by omega⟩
  exact ⟨_, rfl, by rw [hw]; omega, by rw [hw]; omega, (Below.refl _ _).drew.trans HB.out⟩
end Go.Proofs.YtfjghemojnhmbaaGreat
/- Rows copied into new memory, and appended to there. -/
namespace Go.Proofs.YtfjghemojnhmbaaGreat
open Go.RowKit

theorem AppTo.fresh {w w' : World} {v : Value} {f B : Nat} {news : List Value} (h : AppTo w w' v f news) (hv : ∀ k, v.ownBlock = some k → B ≤ k) (hB : B ≤ w.heap.size) : Below B w w' ∧ B ≤ f := by
  rcases h with ⟨hf, p, rfl⟩ | ⟨hf, hb⟩
  · have := hv f hf
    exact ⟨Below.setCells (Below.refl _ _) this _ _, this⟩
  · exact ⟨hb.mono hB, by omega⟩
/-- An append to a slice in new memory, of however many. -/
theorem run_append_fresh {P : Program} (w : World) (B : Nat) (t ty e : TypeId) (i : TypeInfo) (z : Value) (size bytes : Nat) (ht : P.underlying t = some (.slice e)) (hi : P.info? e = some i) (hz : i.zero = some z)
    (hsize : i.size = size) (hby : i.bytes = bytes) (hzs : z.cells.size = size) (hsz : 0 < size) (hbz : bytes ≠ 0) (f o cap n : Nat) (xs : List Value) (hown : Win w B e size (.slice (some ⟨f, o, none⟩) n cap) n xs)
    (a : Option Addr) (m c : Nat) (news : List Value) (hl : news.length = m * size) (hsrc : (∃ ad, a = some ad ∧ ∀ j u, news[j]? = some u → w.cell? (ad.add j) = some u) ∨ (a = none ∧ c = 0 ∧ m = 0)) (h1 : ∀ u ∈ news, u.oneCell' = true)
    (h63 : n + m ≤ maxLen) (hbytes : (n + m) * bytes ≤ 140737488355328) (hB : B ≤ w.heap.size) :
    ∃ f' o' cap' w', (Builtin.append_ #[t, t] ty #[.slice (some ⟨f, o, none⟩) n cap, .slice a m c]).run P w = .ok (.slice (some ⟨f', o', none⟩) (n + m) cap') w' ∧ Win w' B e size (.slice (some ⟨f', o', none⟩) (n + m) cap') (n + m) (xs ++ news) ∧ Below B w w' ∧ B ≤ f' := by
  have hb := hown.lt f rfl
  have hroom := hown.room
  rcases Nat.eq_zero_or_pos m with rfl | hm
  · obtain rfl : news = [] := List.eq_nil_of_length_eq_zero (by simpa using hl)
    rcases hsrc with ⟨ad, rfl, _⟩ | ⟨rfl, rfl, _⟩
    · exact ⟨f, o, cap, _, run_append_room_cells (P := P) w t ty e i ht hi f o n cap ad 0 c [] (by simp) (by simp) (by simp) (by omega) (by simp) (by simp), by simpa [World.setCells] using hown, by simp [World.setCells]; exact Below.refl _ _, hb.1⟩
    · exact ⟨f, o, cap, w, run_append_none (P := P) w t ty e i ht hi (by omega) ⟨f, o, none⟩ n cap hroom.1, by simpa using hown, Below.refl _ _, hb.1⟩
  · rcases hsrc with ⟨ad, rfl, hn⟩ | ⟨rfl, rfl, h0⟩
    · obtain ⟨f', o', cap', w', r1, r2, r3⟩ := run_append_two (P := P) w B t ty e i z size bytes ht hi hz hsize hby hzs hsz _ n xs hown ad m c news hl hn h1 hm h63 hbytes hB
      obtain ⟨q1, q2⟩ := r3.fresh (B := B) (fun k hk => by cases hk; exact hb.1) hB
      exact ⟨f', o', cap', w', r1, r2, q1, q2⟩
    · omega
theorem wp_append_run {P : Program} {w w' : World} {o : Oper} {a : Act} {K : Act → World → Prop} {Q : Exit → Act → World → Prop} {v' : Value} (s x : Operand) (t : TypeId) (ho : o.op = .call { callee := .builtin .append, args := #[s, x], argTypes := #[t, t] })
    (hr : (Builtin.append_ #[t, t] o.type #[a.eval s, a.eval x]).run P w = .ok v' w') (h : K (a.put o.dst v') w') : o.wp P a w K Q := by
  unfold Oper.wp execOp
  simp only [ho, resolve, invoke, builtin, Sem.run_bind, Sem.run_pure, Result.andThen_ok, List.map_toArray, List.map_cons, List.map_nil, hr]
  exact h
theorem step_append_run {P : Program} {w w' : World} {ops : Array Oper} {o : Oper} {a : Act} {K : Act → World → Prop} {Q : Exit → Act → World → Prop} {E : Prop} {v' : Value} (hgd : o.guard = none) (s x : Operand) (t : TypeId) (ho : o.op = .call { callee := .builtin .append, args := #[s, x], argTypes := #[t, t] })
    (hr : (Builtin.append_ #[t, t] o.type #[a.eval s, a.eval x]).run P w = .ok v' w') (h : K (a.put o.dst v') w') : if Region.wanted o (yielded ops a.tmps) = true then Oper.wp P o a w K Q else E := by
  have hw : Region.wanted o (yielded ops a.tmps) = true := by simp [Region.wanted, hgd]
  rw [if_pos hw]
  exact wp_append_run s x t ho hr h
/-- An empty row. -/
theorem Win.empty (w : World) (e : TypeId) (size : Nat) : Win (w.alloc (.cells #[] e)) w.heap.size e size (.slice (some ⟨w.heap.size, 0, none⟩) 0 0) 0 [] :=
  ⟨by simp, .inr ⟨_, 0, 0, #[], rfl, Nat.le_refl _, Blk.new w #[] e, by simp, by unfold maxLen; omega, by simp, fun j hj => by omega⟩⟩
/-- What a slice's first elements are, as the source of an append. -/
theorem Win.src {w : World} {base : Nat} {e : TypeId} {size n cap : Nat} {a : Option Addr} {xs : List Value} (h : Win w base e size (.slice a n cap) n xs) {m : Nat} (hm : m ≤ n) {c : Nat} (hc : a = none → c = 0) :
    (∃ ad, a = some ad ∧ ∀ j u, (xs.take (m * size))[j]? = some u → w.cell? (ad.add j) = some u) ∨ (a = none ∧ c = 0 ∧ m = 0) := by
  rcases a with _ | ad
  · obtain ⟨_, q | ⟨f, o, cap', cur, h3, _⟩⟩ := h
    · have := q.2; exact .inr ⟨rfl, hc rfl, by omega⟩
    · cases h3
  · obtain ⟨_, q | ⟨f, o, cap', cur, h3, h4, h5, h6, h7, h8, h9⟩⟩ := h
    · cases q.1
    · cases h3
      refine .inl ⟨_, rfl, fun j u hj => ?_⟩
      have hle : m * size ≤ n * size := Nat.mul_le_mul_right _ hm
      have hjl : j < m * size := by have := (List.getElem?_eq_some_iff.1 hj).1; simp at this; omega
      rw [List.getElem?_take_of_lt hjl] at hj
      rw [Addr.add_mid]
      simp only [World.cell?, h5]
      exact (h9 j (by omega)).trans hj
theorem erows_one (l : List (ByteArray × Nat)) : ∀ u ∈ erows l, u.oneCell' = true := by
  intro u hu
  simp only [erows, List.mem_flatten, List.mem_map] at hu
  obtain ⟨_, ⟨e, _, rfl⟩, hu⟩ := hu
  simp at hu
  rcases hu with rfl | rfl <;> rfl
theorem info188 : (Tryz.prog.info? 188).map (fun i => (i.zero, i.size, i.bytes)) = some (some (.agg #[.string ⟨#[]⟩, .int .i64 0]), 2, 24) := by kernel_rfl
/-- Rows of entries in new memory: one that came in is copied, .. -/
theorem ent_copy {w : World} {ty : TypeId} {n cap : Nat} {a : Option Addr} {es : List (ByteArray × Nat)} {base : Nat} (h : Win w base 188 2 (.slice a n cap) n (erows es)) (hn : es.length = n) (hc : n ≤ 1000000) :
    ∃ f o cap' w', (Builtin.append_ #[108, 108] ty #[.slice (some ⟨w.heap.size, 0, none⟩) 0 0, .slice a n cap]).run Tryz.prog (w.alloc (.cells #[] 188)) = .ok (.slice (some ⟨f, o, none⟩) n cap') w' ∧ Win w' w.heap.size 188 2 (.slice (some ⟨f, o, none⟩) n cap') n (erows es) ∧ Below w.heap.size w w' ∧ w.heap.size ≤ f := by
  obtain ⟨i, hi, hz0, hz1, hz2⟩ := info_parts info188
  have hr := h.room
  have hs := (h.alloc (.cells #[] 188)).src (Nat.le_refl n) (c := cap) (fun e => by
    subst e
    obtain ⟨_, q | ⟨f, o, cap', cur, h3, _⟩⟩ := h
    · have := q.1; cases this; rfl
    · cases h3)
  rw [List.take_of_length_le (by rw [erows_len, hn]; exact Nat.le_refl _)] at hs
  obtain ⟨f, o, cap', w', r1, r2, r3, r4⟩ := run_append_fresh (P := Tryz.prog) (w.alloc (.cells #[] 188)) w.heap.size 108 ty 188 i _ 2 24 Tryz.underlying108 hi hz0 hz1 hz2 rfl (by omega) (by omega) w.heap.size 0 0 0 [] (Win.empty w 188 2) a n cap (erows es) (by rw [erows_len, hn]) hs (erows_one es) (by unfold maxLen; omega) (by omega) (by simp)
  rw [Nat.zero_add] at r1 r2
  exact ⟨f, o, cap', w', r1, by simpa using r2, ((Below.refl _ _).alloc (Nat.le_refl _) _).trans r3, r4⟩
/-- .. and more appended. -/
theorem ent_more {w : World} {B : Nat} {ty : TypeId} {f o n cap m c : Nat} {a : Option Addr} {es fs : List (ByteArray × Nat)} (h : Win w B 188 2 (.slice (some ⟨f, o, none⟩) n cap) n (erows es)) (_hn : es.length = n)
    (hsrc : (∃ ad, a = some ad ∧ ∀ j u, (erows fs)[j]? = some u → w.cell? (ad.add j) = some u) ∨ (a = none ∧ c = 0 ∧ m = 0)) (hm : fs.length = m) (hc : n + m ≤ 1000000) (hB : B ≤ w.heap.size) :
    ∃ f' o' cap' w', (Builtin.append_ #[108, 108] ty #[.slice (some ⟨f, o, none⟩) n cap, .slice a m c]).run Tryz.prog w = .ok (.slice (some ⟨f', o', none⟩) (n + m) cap') w' ∧ Win w' B 188 2 (.slice (some ⟨f', o', none⟩) (n + m) cap') (n + m) (erows (es ++ fs)) ∧ Below B w w' ∧ B ≤ f' := by
  obtain ⟨i, hi, hz0, hz1, hz2⟩ := info_parts info188
  obtain ⟨f', o', cap', w', r1, r2, r3, r4⟩ := run_append_fresh (P := Tryz.prog) w B 108 ty 188 i _ 2 24 Tryz.underlying108 hi hz0 hz1 hz2 rfl (by omega) (by omega) f o cap n (erows es) h a m c (erows fs) (by rw [erows_len, hm]) hsrc (erows_one fs) (by unfold maxLen; omega) (by omega) hB
  exact ⟨f', o', cap', w', r1, by rw [erows_app]; exact r2, r3, r4⟩
end Go.Proofs.YtfjghemojnhmbaaGreat
