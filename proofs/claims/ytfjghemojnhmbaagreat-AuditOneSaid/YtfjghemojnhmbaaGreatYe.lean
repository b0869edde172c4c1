/- The document's model: Read. -/
import Derived.Test.YtfjghemojnhmbaaGreatXc
import Derived.Test.YtfjghemojnhmbaaGreatYd
namespace Go.Proofs.YtfjghemojnhmbaaGreat
open Go.RowKit

attribute [local go_sem ↓] run_field38 run_field38s
theorem Bys.ints {w : World} {base : Nat} {v : Value} {xs : List Value} (h : Bys w base v xs) : ∃ ds : List Int, xs = byts ds ∧ ds.length = xs.length := by
  have : ∀ xs : List Value, (∀ x ∈ xs, IsByte x) → ∃ ds : List Int, xs = byts ds ∧ ds.length = xs.length := by
    intro xs
    induction xs with
    | nil => intro _; exact ⟨[], rfl, rfl⟩
    | cons x xs ih =>
      intro hx
      obtain ⟨ds, e1, e2⟩ := ih (fun y hy => hx y (by simp [hy]))
      obtain ⟨n, rfl, _⟩ := hx x (by simp)
      exact ⟨n :: ds, by rw [e1]; rfl, by simp [e2]⟩
  exact this xs h.2.1
set_option maxRecDepth 100000 in
set_option maxHeartbeats 8000000 in
theorem readm_any {S : Nat → Prop} {w : World} {g : MG} {c : Nat} {bs : List Nat} {T : List (Option Nd)} {tv : Value} {l : List Mt} {fl : Nat → Nat → Fl} {cw : Nat → Int × Int} (hm : MA S w g c bs T tv l fl cw) (p : Nat) (hp : p < 2) (q : Cl) (hqn : R64 q.n) (x : Fl) (hx : Liv T x.an) (hpos : 0 ≤ x.pos ∧ x.pos ≤ 4294967296 + 1024 * (c : Int)) (hcc : c + 3 ≤ 99000) : Calls Tryz.prog 29 #[.pointer (some ⟨g.m, 0, none⟩), .int .i64 (p : Int), q.val, x.val] w (RoP S g (c + 3) 5 w) := by
  have HC := Lib.hid (And.intro hm (And.intro hp (And.intro (LivD.r64 hm.wi.ctx hx) (And.intro hpos hcc))))
  clear hm hx hpos hp hcc
  have C21 : Hid (∀ (n : Int) (X : World), Calls Tryz.prog 21 #[.int .i64 n] X fun e w' => e = .returned (.agg #[.int .i64 n, .int .i64 0, .slice none 0 0, .slice none 0 0, .int .i64 0, .int .i64 0, .int .i64 0, .int .i64 0, .int .i64 0, .int .i64 0, .int .i64 0]) ∧ Below X.heap.size X w') := Lib.hid no15_any
  have C53 : Hid (∀ X, Below w.heap.size w X → Calls Tryz.prog 53 #[.pointer (some ⟨g.m, 0, none⟩), .int .i64 x.an] X (WsP T x.an X)) := Lib.hid fun X hX => mstat_any (HC.out.1.below hX) x.an HC.out.2.2.1
  have C55 : Hid (∀ X, Below w.heap.size w X → ∀ n : Int, n ≤ 4294967296 + 1024 * ((c + 3 : Nat) : Int) → Calls Tryz.prog 55 #[.pointer (some ⟨g.fb, 0, none⟩), .int .i64 (p : Int), .int .i64 q.fd, .int .i64 n] X fun e w' => ∃ code : Int, e = .returned (.int .i64 code) ∧ MS S S g (c + 3) X w' ∧ Fr S [121] X w') := Lib.hid fun X hX n hn => (seek_any (HC.out.1.below hX).ft (by have := HC.out.2.1; omega) q.fd n (by have := HC.out.2.2.2.2; omega)).mono fun e w' h => by
    obtain ⟨code, rfl, h⟩ := h
    exact ⟨code, rfl, seek_files ((HC.out.1.below hX).mono (Nat.le_add_right c 3) HC.out.2.2.2.2) (by have := HC.out.2.1; omega) hn h, h.1⟩
  unfold Cl.val Fl.val
  go_enter Tryz.func29, Tryz.ntmps29
  go_upto_region 1 with fail
  refine box3g (fun W hbx hnx => ?_)
  have H1B := Lib.hid hbx
  have H1 := Lib.hid hnx
  clear hbx hnx
  generalize hE : w.heap.size + 1 + 1 = E at H1 ⊢
  generalize hD : w.heap.size + 1 = D at H1 ⊢
  obtain ⟨C, hC⟩ : ∃ C, w.heap.size = C := ⟨_, rfl⟩
  rw [hC] at H1 ⊢
  have H1E : Hid (w.heap.size = C ∧ w.heap.size + 1 = D ∧ w.heap.size + 2 = E) := Lib.hid (by omega)
  clear hC hD hE
  have HQ := Lib.hid fun (X : World) (hX : Below W.heap.size W X) => And.intro (H1.out.1.below hX).k9 (And.intro (H1.out.2.1.below hX).k4 (And.intro (H1.out.2.2.below hX).k11 ((H1.out.2.2.below hX).free)))
  obtain ⟨⟨-, -, -, e0, -, -, e1, e2, -⟩, ⟨e3, e4, e5, e6⟩, ⟨e7, e8, e9, e10, e11, e12, e13, e14, e15, e16, e17⟩, e18⟩ := HQ.out _ (Below.refl _ _)
  have HB : Hid (Below W.heap.size W W) := Lib.hid (Below.refl _ _)
  have HBW : Hid (∀ X, Below W.heap.size W X → Below w.heap.size w X) := Lib.hid fun X hX => H1B.out.trans (hX.mono H1B.out.size)
  have HEF : Hid (Blk W E 40 rz ∧ w.heap.size ≤ E) := Lib.hid ⟨H1.out.2.2, by have := H1E.out; omega⟩
  have HWW : Hid (∀ X, Below W.heap.size W X → Below W.heap.size W X) := Lib.hid fun X hX => hX
  obtain ⟨m3, m4, m5, m6, m7⟩ := mcell (HC.out.1.below H1B.out).blk
  have HNo : Hid (∀ X, Below W.heap.size W X → ∀ (tm : Array Value) (code : Int), tm.getD 8 undef = .pointer (some ⟨E, 0, none⟩) → bodyPost Tryz.prog Tryz.f29 (RoP S g (c + 3) 5 w) .ret ⟨tm, []⟩ (res11 X E (.int .i64 code) (.int .i64 0) (.slice none 0 0) (.slice none 0 0) (.int .i64 0) (.int .i64 0) (.int .i64 0) (.int .i64 0) (.int .i64 0) (.int .i64 0) (.int .i64 0))) := Lib.hid fun X hX tm code h4 =>
    ro_fin (Res.no code) (.slice none 0 0) (.slice none 0 0) rfl (MS.same HC.out.1 (HBW.out X hX) (Nat.le_add_right c 3) HC.out.2.2.2.2) (HEF.out.1.below hX) HEF.out.2 (.inl ⟨rfl, rfl, rfl, rfl⟩) ⟨off_nil _, off_nil _⟩ (fld_no (.inr (by decide))) h4
  unfold res11 at HNo
  have C54 : Hid (∀ X, Below w.heap.size w X → Calls Tryz.prog 54 #[.pointer (some ⟨g.t, 0, none⟩), .int .i64 x.an, .int .i64 x.pos, .int .i64 q.n] X (RdP X)) := Lib.hid fun X hX => tread_any (HC.out.1.below hX).wi.tr (by have := HC.out.1.wi.cc; omega) x.an x.pos q.n HC.out.2.2.1 ⟨by have h1 := HC.out.2.2.2.1; omega, by have h1 := HC.out.2.2.2.1; have h2 := HC.out.2.2.2.2; omega⟩ hqn
  have HQ2 : Hid (∀ X, Below W.heap.size W X → X.cell? ⟨g.m, 4, none⟩ = some (.pointer (some ⟨g.t, 0, none⟩)) ∧ X.cell? ⟨g.m, 6, none⟩ = some (.pointer (some ⟨g.fb, 0, none⟩)) ∧ X.cell? ⟨C, 3, none⟩ = some (.int .i64 q.fd) ∧ X.cell? ⟨C, 6, none⟩ = some (.int .i64 q.n) ∧ X.cell? ⟨D, 1, none⟩ = some (.int .i64 x.an) ∧ X.cell? ⟨D, 3, none⟩ = some (.int .i64 x.pos)) := Lib.hid fun X hX => ⟨((HC.out.1.below H1B.out).below hX).blk.cell 4, ((HC.out.1.below H1B.out).below hX).blk.cell 6, (H1.out.1.below hX).cell 3, (H1.out.1.below hX).cell 6, (H1.out.2.1.below hX).cell 1, (H1.out.2.1.below hX).cell 3⟩
  go_upto_region 7 with (first | (go_at_call 21; (with_reducible refine (C21.out _ _).mono ?_); rintro e wn ⟨rfl, hb⟩; replace HB := Lib.hid (HB.out.trans (hb.mono HB.out.size)); clear hb e0 e1 e2 e3 e4 e5 e6 e7 e8 e9 e10 e11 e12 e13 e14 e15 e16 e17 e18; obtain ⟨⟨-, -, -, e0, -, -, e1, e2, -⟩, ⟨e3, e4, e5, e6⟩, ⟨e7, e8, e9, e10, e11, e12, e13, e14, e15, e16, e17⟩, e18⟩ := HQ.out _ HB.out) | (go_at_call 53; (with_reducible refine (C53.out _ (HBW.out _ HB.out)).mono ?_); rintro e wn ⟨s, rfl, hs, hb⟩; replace HB := Lib.hid (HB.out.trans (hb.mono HB.out.size)); clear hb e0 e1 e2 e3 e4 e5 e6 e7 e8 e9 e10 e11 e12 e13 e14 e15 e16 e17 e18; obtain ⟨⟨-, -, -, e0, -, -, e1, e2, -⟩, ⟨e3, e4, e5, e6⟩, ⟨e7, e8, e9, e10, e11, e12, e13, e14, e15, e16, e17⟩, e18⟩ := HQ.out _ HB.out; clear hs; unfold Stt.val))
  all_goals first
    | with_reducible exact HNo.out _ (HWW.out _ HB.out) _ _ rfl
    | skip
  have C1 := C54.out _ (HBW.out _ HB.out.drew)
  have HBd := Lib.hid HB.out.drew
  go_region_held3 (fun X => X.cell? ⟨g.m, 4, none⟩ = some (.pointer (some ⟨g.t, 0, none⟩)) ∧ X.cell? ⟨g.m, 6, none⟩ = some (.pointer (some ⟨g.fb, 0, none⟩)) ∧ X.cell? ⟨C, 3, none⟩ = some (.int .i64 q.fd) ∧ X.cell? ⟨C, 6, none⟩ = some (.int .i64 q.n) ∧ X.cell? ⟨D, 1, none⟩ = some (.int .i64 x.an) ∧ X.cell? ⟨D, 3, none⟩ = some (.int .i64 x.pos)) (first | (refine HQ2.out _ ?_; first | (with_reducible exact HBd.out) | (with_reducible exact HB5.out))) (first | (go_at_call 54; (with_reducible refine C1.mono ?_); rintro e w5 ⟨v, xs, code, rfl, c0, c1, hv, hb⟩; have HB5 : Hid (Below W.heap.size W w5) := Lib.hid (HBd.out.trans (hb.mono HBd.out.size)); have HV := Lib.hid (And.intro hv (And.intro (HBW.out _ HBd.out).size (And.intro (HEF.out.1.below HBd.out).lt c0))); obtain ⟨va, vc, rfl⟩ := hv.1.value; clear hv hb c0 c1))
  clear e0 e1 e2 e3 e4 e5 e6 e7 e8 e9 e10 e11 e12 e13 e14 e15 e16 e17 e18 m3 m4 m5 m6 m7
  obtain ⟨⟨-, -, -, e0, -, -, e1, e2, -⟩, ⟨e3, e4, e5, e6⟩, ⟨e7, e8, e9, e10, e11, e12, e13, e14, e15, e16, e17⟩, e18⟩ := HQ.out _ HB5.out
  obtain ⟨m4, m6, q3, q6, d1, d3⟩ := HQ2.out _ HB5.out
  replace HB := Lib.hid HB5.out
  by_cases hcode : code = 0
  case neg =>
    go_wp2_with (first | (go_at_call 21; (with_reducible refine (C21.out _ _).mono ?_); rintro e wn ⟨rfl, hb⟩; replace HB := Lib.hid (HB.out.trans (hb.mono HB.out.size)); clear hb e0 e1 e2 e3 e4 e5 e6 e7 e8 e9 e10 e11 e12 e13 e14 e15 e16 e17 e18; obtain ⟨⟨-, -, -, e0, -, -, e1, e2, -⟩, ⟨e3, e4, e5, e6⟩, ⟨e7, e8, e9, e10, e11, e12, e13, e14, e15, e16, e17⟩, e18⟩ := HQ.out _ HB.out))
    with_reducible exact HNo.out _ (HWW.out _ HB.out) _ _ rfl
  subst hcode
  go_upto_region 10 with fail
  have hln := HV.out.1.2.2
  have hn2 : wrap64 (x.pos + (xs.length : Int)) ≤ 4294967296 + 1024 * ((c + 3 : Nat) : Int) := by
    have h1 := HC.out.2.2.2.1
    have h2 := HC.out.2.2.2.2
    rw [IntWalk.wrap64_in _ ⟨by omega, by omega⟩]
    omega
  have HN2 := Lib.hid hn2
  clear hn2 hln
  go_still_tail 12, (by kernel_rfl)
  change wpList _ _ _ _ _ (World.drew _)
  obtain ⟨ds, hds, hdl⟩ := HV.out.1.ints
  have HDS := Lib.hid (And.intro hds hdl)
  clear hds hdl
  go_wp2_with (first | (go_at_call 55; (with_reducible refine (C55.out _ (HBW.out _ HB.out.drew) _ HN2.out).mono ?_); rintro e wn ⟨code, rfl, hms, hfr⟩; have HS5 := Lib.hid (hms.below (HBW.out _ HB.out.drew)); have HE5 := Lib.hid ((HEF.out.1.below HB.out.drew).fr hms.fr (by decide)); have HD5 := Lib.hid (Win.den (by_ := 1) ((HV.out.1.1.below (Below.refl _ _).drew).frT hfr (by decide)) (by have h1 := HV.out.1.2.2; omega)); clear hms hfr; obtain ⟨r0, r1, r2, r3, r4, r5, r6, r7, r8, r9, r10, rf⟩ := rz_cells HE5.out))
  have HX := Lib.hid (fun (tm : Array Value) (h4 : tm.getD 8 undef = .pointer (some ⟨E, 0, none⟩)) => ro_fin (op := 5) (fn := Tryz.f29) { Res.zero with ds := ds } (.slice va xs.length vc) (.slice none 0 0) rfl HS5.out HE5.out HEF.out.2 (.inr ⟨fun _ h => h, by rw [← HDS.out.1]; exact HD5.out.1, Den.nil _ _, HD5.out.2.low HV.out.2.1, from_nil _⟩) ⟨HD5.out.2.offB HV.out.2.2.1, off_nil _⟩ (by simp [fldI, Res.zero, stat0, statI]) h4)
  unfold res11 at HX
  dsimp only [Res.zero] at HX
  with_reducible exact HX.out _ rfl
end Go.Proofs.YtfjghemojnhmbaaGreat
/- Write, with data that came in. -/
namespace Go.Proofs.YtfjghemojnhmbaaGreat
open Go.RowKit

/-- Data that came in: bytes that nobody of the model's owns. -/
def DatW (S : Nat → Prop) (w : World) (a : Option Addr) (m cap : Nat) (xs : List Value) : Prop := xs.length = m ∧ m ≤ cap ∧ cap ≤ maxLen ∧ (0 < m → ∃ f o, a = some ⟨f, o, none⟩ ∧ f < w.heap.size ∧ ¬ S f ∧ ∀ i, i < m → w.cell? ⟨f, o + i, none⟩ = xs[i]?)
theorem DatW.below {S : Nat → Prop} {w w' : World} {a : Option Addr} {m cap : Nat} {xs : List Value} (h : DatW S w a m cap xs) (hb : Below w.heap.size w w') : DatW S w' a m cap xs := by
  obtain ⟨h1, h2, h3, h4⟩ := h
  refine ⟨h1, h2, h3, fun hm => ?_⟩
  obtain ⟨f, o, e, hl, hn, hc⟩ := h4 hm
  exact ⟨f, o, e, Nat.lt_of_lt_of_le hl hb.size, hn, fun i hi => (hb.cell (p := ⟨f, o + i, none⟩) hl).trans (hc i hi)⟩
set_option maxHeartbeats 400000 in
theorem copyFacts2 {S S' : Nat → Prop} {w wz : World} {p c g A m j cap : Nat} {a : Option Addr} {xs : List Value} (h : PG S S' w wz p c g) (hl : A + m ≤ lenAt wz g) (hd : DatW S w a m cap xs) (hb : ∀ x ∈ xs, IsByte x) (hj : j < m) : ∃ F o n2 cap2 f2 o2 b, Cop S S' w wz p c g A m j a cap F o n2 cap2 f2 o2 b := by
  obtain ⟨a2, L, cap2, g1, g2, g3⟩ := h.file.bytes
  rw [lenAt_of g1] at hl
  obtain ⟨F, o, cp, b0, cur, e, h1, h2, h3, h4, h5, h6⟩ := g2.cell (i := A + j) (by omega)
  cases e
  obtain ⟨hlen, _, _, hat⟩ := hd
  obtain ⟨f2, o2, rfl, hlt, hns, hcs⟩ := hat (by omega)
  have hc : wz.cell? ⟨f2, o2 + j, none⟩ = xs[j]? := (World.cell?_of_block (a := ⟨f2, o2 + j, none⟩) (h.fr.keepS hlt hns)).trans (hcs j hj)
  have hjl : j < xs.length := by omega
  rw [List.getElem?_eq_getElem hjl] at hc
  obtain ⟨b, hb1, hb2⟩ := hb _ (List.getElem_mem hjl)
  rw [hb1] at hc
  obtain ⟨cg, _, _, q1, _⟩ := h.file
  have ne : F ≠ g := h6.ne q1 (by decide)
  exact ⟨F, o, L, cap2, f2, o2, b, g1, hl, ⟨_, h1⟩, h4, rfl, hc, ne, h.byte h6 h5 ⟨b, rfl, hb2⟩, by rw [lenAt_other ne, lenAt_of g1]; exact hl⟩
set_option maxRecDepth 100000 in
theorem write2_any (S : Nat → Prop) (w : World) (p c : Nat) (hp : PoolOk S w p c) (hc : c ≤ 1000000) (f t : Int) (f0 : -9223372036854775808 ≤ f) (f1 : f ≤ 9223372036854775807) (a : Option Addr) (m cap : Nat) (xs : List Value)
    (hd : DatW S w a m cap xs) (hb : ∀ x ∈ xs, IsByte x) :
    Calls Tryz.prog 89 #[.pointer (some ⟨p, 0, none⟩), .int .i64 f, .int .i64 t, .slice a m cap] w (PStep S p c 0 64 w) := by
  have C1 := of_any S w p c hp hc f f0 f1
  have C2 := left_any S w p c hp hc
  obtain ⟨i5, h51, h52, h53, h54⟩ := info_parts info5
  have HP := Lib.hid hp
  have HD := Lib.hid (And.intro hd hb)
  have hroom := And.intro hd.2.1 hd.2.2.1
  have mcap : (m : Int) ≤ 9223372036854775807 := by have := hroom.2; unfold maxLen at this; omega
  clear hd hb hroom hp
  go_enter Tryz.func89, Tryz.ntmps89
  go_wp2_with fail
  refine C1.mono ?_
  rintro e w' ⟨r, rfl, rfl, rfl | ⟨g, rfl, hg⟩⟩
  · go_wp2_with fail
    go_ret
    exact .same HP.out (by omega) (by omega)
  have HG := Lib.hid hg
  clear hg
  by_cases ht : t < 0
  · go_wp2_with fail
    go_ret
    exact .same HP.out (by omega) (by omega)
  by_cases hm : m = 0
  · subst hm
    go_wp2_with fail
    go_ret
    exact .same HP.out (by omega) (by omega)
  have hm1 : ¬ (m : Int) = 0 := by omega
  by_cases ht2 : 1024 < t
  · go_wp2_with fail
    go_ret
    exact .same HP.out (by omega) (by omega)
  obtain ⟨A, rfl⟩ : ∃ A : Nat, t = A := ⟨t.toNat, by omega⟩
  by_cases ht3 : 1024 - (A : Int) < (m : Int)
  · go_wp2_with fail
    go_ret
    exact .same HP.out (by omega) (by omega)
  have hm2 : A + m ≤ 1024 := by omega
  go_wp2_with fail
  obtain ⟨N, hN⟩ : ∃ N, (A + m - 1) / 16 = N := ⟨_, rfl⟩
  have hN63 : N ≤ 63 := by omega
  have hNi : ((A : Int) + (m : Int) - 1) / 16 = (N : Int) := by omega
  have hNt : ((A : Int) + (m : Int) - 1).tdiv 16 = (N : Int) := by rw [Int.tdiv_eq_ediv_of_nonneg (by omega)]; exact hNi
  go_loopw [11, 10] (fun iv nv wr => ∃ i k : Nat, i ≤ N + 1 ∧ k ≤ i ∧ iv = .int .i64 i ∧ nv = .int .i64 k ∧ Hid (SameW w' wr)) (fun iv _ _ => N + 1 - (intOf iv).toNat)
  case atStart => exact ⟨A / 16, 0, by omega, by omega, by simp, rfl, rfl⟩
  case round =>
    obtain ⟨i, k, hi, hk, rfl, rfl, HW⟩ := hrel
    have hw := HW.out
    unfold SameW at hw
    subst hw
    have k0 : (0 : Int) ≤ (i : Int) := by omega
    by_cases hlt : i ≤ N
    · have k1 : (i : Int) ≤ (N : Int) := by omega
      have k2 : (i : Int) < 64 := by omega
      obtain ⟨b, hb⟩ := HG.out.has (j := 1 + i) (by omega) (by omega)
      cases b
      · go_wp2_with fail
        go_roundw
        case rel => exact ⟨i + 1, k + 1, by omega, by omega, by go_num, by go_num, HW⟩
        case measure => simp [intOf]; omega
      · go_wp2_with fail
        go_roundw
        case rel => exact ⟨i + 1, k, by omega, by omega, by go_num, rfl, HW⟩
        case measure => simp [intOf]; omega
    · have k1 : ¬ (i : Int) ≤ (N : Int) := by omega
      go_wp2_with fail
      refine C2.mono ?_
      rintro e w1 ⟨l, rfl, rfl, l0, l1⟩
      by_cases hkl : l < (k : Int)
      · go_wp2_with fail
        go_ret
        exact .same HP.out (by omega) (by omega)
      go_wp2_with fail
      have HZ := Lib.hid (PG.start HP.out HG.out)
      go_loopw [] (fun wr => Hid (∃ S', PG S S' w1 wr p c g)) (fun wr => A + m - lenAt wr g)
      case atStart => exact ⟨S, HZ.out⟩
      case round =>
        obtain ⟨S', HI⟩ := hrel.out
        have HI := Lib.hid HI
        obtain ⟨a2, L, cap2, g1, g2, g3⟩ := HI.out.file.bytes
        have hl := lenAt_of g1
        have gf := HI.out.file.free 0
        obtain ⟨ys, hw, hx, hS⟩ := g2.win
        have HW2 := Lib.hid (And.intro hw (And.intro hx hS))
        clear g2 hw hx hS
        by_cases hlt : L < A + m
        · have j1 : (L : Int) < (A : Int) + (m : Int) := by omega
          go_upto_region 19 with fail
          go_wp2_with (first | (at_builtin; go_must (refine wpList_append_two _ rfl (.tmp 71) (.tmp 72) 35 rfl 0 5 i5 _ 1 1 Tryz.underlying35 h51 h52 h53 h54 rfl (by decide) (.slice a2 L cap2) L ys rfl (HW2.out.1.alloc _) ⟨wr.heap.size, 0, none⟩ 1 1 [.int .u8 0] rfl rfl (new_cells wr [.int .u8 0] 5) (by simp [Value.oneCell']) (by decide) (by unfold maxLen; omega) (by omega) (Nat.zero_le _) ?_; intro f' o' cap' w4 hown happ; obtain ⟨PN, ⟨v4, q1⟩, qf⟩ := (HI.out.alloc _).grow (HW2.out.1.alloc _) HW2.out.2.2 HW2.out.2.1 (by omega) happ hown; have PN := Lib.hid PN; clear hown happ)))
          go_roundw
          case rel => exact Lib.hid ⟨_, PN.out⟩
          case measure => rw [lenAt_set q1]; omega
        · have j1 : ¬ (L : Int) < (A : Int) + (m : Int) := by omega
          have HJ : Hid (∃ S', PG S S' w1 wr p c g ∧ A + m ≤ lenAt wr g) := Lib.hid ⟨S', HI.out, by omega⟩
          go_wp2_with fail
          clear j1 hlt gf hl g1 g3
          go_loopw [12] (fun iv wz => ∃ j : Nat, j ≤ m ∧ iv = .int .i64 j ∧ Hid (∃ S', PG S S' w1 wz p c g ∧ A + m ≤ lenAt wz g)) (fun iv _ => m - (intOf iv).toNat)
          case atStart => exact ⟨0, by omega, rfl, HJ⟩
          case round =>
            obtain ⟨j, hj, rfl, HX⟩ := hrel
            obtain ⟨S5, HX⟩ := HX.out
            have HX := Lib.hid HX
            by_cases hlt : j < m
            · obtain ⟨F, o, n2, cap2', f2, o2, b, C⟩ := copyFacts2 HX.out.1 HX.out.2 HD.out.1 HD.out.2 hlt
              have C := Lib.hid C
              obtain rfl := C.out.src
              have c1 := C.out.file
              have c2 := C.out.cell
              have c3 := C.out.free
              obtain ⟨u, c4⟩ := C.out.old
              have c5 := C.out.ne
              have c6 := C.out.ne.symm
              have c7 := C.out.len
              have d0 : (0 : Int) ≤ (j : Int) := by omega
              have d1 : (j : Int) < (m : Int) := by omega
              have d2 : (0 : Int) ≤ (A : Int) + (j : Int) := by omega
              have d3 : (A : Int) + (j : Int) < (n2 : Int) := by omega
              go_upto_region 23 with fail
              go_region
              have HY : Hid (PG S S5 w1 (wr.setCell ⟨F, o + (A + j), none⟩ (.int .u8 b)).drew p c g ∧ A + m ≤ lenAt (wr.setCell ⟨F, o + (A + j), none⟩ (.int .u8 b)).drew g) := Lib.hid ⟨C.out.pg.1.drew, C.out.pg.2⟩
              generalize (wr.setCell ⟨F, o + (A + j), none⟩ (.int .u8 b)).drew = W6 at HY ⊢
              obtain ⟨q, hq⟩ : ∃ q, (A + j) / 16 = q := ⟨_, rfl⟩
              have hq1 : q < 64 := by omega
              have hqi : ((A : Int) + (j : Int)) / 16 = (q : Int) := by omega
              have hqt : ((A : Int) + (j : Int)).tdiv 16 = (q : Int) := by rw [Int.tdiv_eq_ediv_of_nonneg (by omega)]; exact hqi
              obtain ⟨b6, s1⟩ := HY.out.1.file.has (j := 1 + q) (by omega) (by omega)
              have s2 := HY.out.1.file.free (1 + q)
              have e0 : (0 : Int) ≤ (q : Int) := by omega
              have e1 : (q : Int) < 64 := by omega
              clear C c1 c2 c3 c4 c7
              go_wp2_with fail
              go_roundw
              case rel => exact ⟨j + 1, by omega, by go_num, Lib.hid ⟨S5, HY.out.1.has (by omega) true, by rw [lenAt_has (by omega)]; exact HY.out.2⟩⟩
              case measure => simp [intOf]; omega
            · obtain rfl : j = m := by omega
              have j1 : ¬ (j : Int) < (j : Int) := by omega
              go_wp2_with fail
              go_ret
              exact HX.out.1.done (by omega) (by omega)
set_option maxRecDepth 100000 in
theorem twrite2_any {S : Nat → Prop} {w : World} {t c : Nat} {bs : List Nat} {T : List (Option Nd)} (h : TR S w t c bs T) (hc : c ≤ 100000) (n pos : Int) (hn : R64 n) (a : Option Addr) (m cap : Nat) (xs : List Value)
    (hd : DatW S w a m cap xs) (hb : ∀ x ∈ xs, IsByte x) :
    Calls Tryz.prog 56 #[.pointer (some ⟨t, 0, none⟩), .int .i64 n, .int .i64 pos, .slice a m cap] w (WriteP S t c bs T w) := by
  obtain ⟨M, p, v, h⟩ := h
  have hd2 := h.below (Below.refl w.heap.size w).drew
  have C1 := filen_any hd2 hc n hn
  have C2 : Hid (∀ f : Int, 0 ≤ f → f ≤ 1000002 → Calls Tryz.prog 89 #[.pointer (some ⟨p, 0, none⟩), .int .i64 f, .int .i64 pos, .slice a m cap] w.drew (PStep S p c 0 64 w.drew)) := Lib.hid fun f f0 f1 => write2_any S w.drew p c hd2.pool (by omega) f pos (by omega) (by omega) a m cap xs (DatW.below hd (Below.refl _ _).drew) hb
  have t1 := h.cells.2.1
  have HT := Lib.hid hd2
  clear h hd hd2 hb
  go_enter Tryz.func56, Tryz.ntmps56
  go_upto_region 1 with fail
  go_region_held3 (fun X => X.cell? ⟨t, 1, none⟩ = some (.pointer (some ⟨p, 0, none⟩))) (first | exact t1 | exact q1) (first | (go_at_call 88; refine C1.mono ?_; rintro e w2 ⟨f, rfl, rfl, f0, f1⟩) | (go_at_call 89; refine (C2.out f f0 f1).mono ?_; rintro e w3 ⟨code, S', rfl, c0, c1, hs, hs2, _, hfr, hpo⟩; obtain ⟨hst, q1⟩ := HT.out.wrote hs hs2 hfr hpo; have HR := Lib.hid hst; clear hs hs2 hfr hpo hst))
  go_wp2_with fail
  go_ret
  exact ⟨code, S', rfl, c0, c1, HR.out⟩
attribute [local go_sem ↓] run_field38 run_field38s
set_option maxRecDepth 100000 in
set_option maxHeartbeats 8000000 in
theorem writem_any {S : Nat → Prop} {w : World} {g : MG} {c : Nat} {bs : List Nat} {T : List (Option Nd)} {tv : Value} {l : List Mt} {fl : Nat → Nat → Fl} {cw : Nat → Int × Int} (hm : MA S w g c bs T tv l fl cw) (p : Nat) (hp : p < 2) (q : Cl) (xs : List Value) (hdat : DatW S w q.da q.dl q.dc xs) (hby : ∀ x ∈ xs, IsByte x) (hdl : q.dl ≤ 2000) (x : Fl) (hx : Liv T x.an) (hpos : 0 ≤ x.pos ∧ x.pos ≤ 4294967296 + 1024 * (c : Int)) (hcc : c + 3 ≤ 99000) : Calls Tryz.prog 30 #[.pointer (some ⟨g.m, 0, none⟩), .int .i64 (p : Int), q.val, x.val] w (RoP S g (c + 3) 6 w) := by
  have HC := Lib.hid (And.intro hm (And.intro hp (And.intro (LivD.r64 hm.wi.ctx hx) (And.intro hpos hcc))))
  have HD := Lib.hid (And.intro hdat (And.intro hby hdl))
  clear hm hx hpos hp hcc hdat hby hdl
  have C21 : Hid (∀ (n : Int) (X : World), Calls Tryz.prog 21 #[.int .i64 n] X fun e w' => e = .returned (.agg #[.int .i64 n, .int .i64 0, .slice none 0 0, .slice none 0 0, .int .i64 0, .int .i64 0, .int .i64 0, .int .i64 0, .int .i64 0, .int .i64 0, .int .i64 0]) ∧ Below X.heap.size X w') := Lib.hid no15_any
  have C53 : Hid (∀ X, Below w.heap.size w X → Calls Tryz.prog 53 #[.pointer (some ⟨g.m, 0, none⟩), .int .i64 x.an] X (WsP T x.an X)) := Lib.hid fun X hX => mstat_any (HC.out.1.below hX) x.an HC.out.2.2.1
  have C55 : Hid (∀ X, Below w.heap.size w X → ∀ n : Int, n ≤ 4294967296 + 1024 * ((c + 3 : Nat) : Int) → Calls Tryz.prog 55 #[.pointer (some ⟨g.fb, 0, none⟩), .int .i64 (p : Int), .int .i64 q.fd, .int .i64 n] X fun e w' => ∃ code : Int, e = .returned (.int .i64 code) ∧ MS S S g (c + 3) X w' ∧ Fr S [121] X w') := Lib.hid fun X hX n hn => (seek_any (HC.out.1.below hX).ft (by have := HC.out.2.1; omega) q.fd n (by have := HC.out.2.2.2.2; omega)).mono fun e w' h => by
    obtain ⟨code, rfl, h⟩ := h
    exact ⟨code, rfl, seek_files ((HC.out.1.below hX).mono (Nat.le_add_right c 3) HC.out.2.2.2.2) (by have := HC.out.2.1; omega) hn h, h.1⟩
  unfold Cl.val Fl.val
  go_enter Tryz.func30, Tryz.ntmps30
  go_upto_region 1 with fail
  refine box3g (fun W hbx hnx => ?_)
  have H1B := Lib.hid hbx
  have H1 := Lib.hid hnx
  clear hbx hnx
  generalize hE : w.heap.size + 1 + 1 = E at H1 ⊢
  generalize hD : w.heap.size + 1 = D at H1 ⊢
  obtain ⟨C, hC⟩ : ∃ C, w.heap.size = C := ⟨_, rfl⟩
  rw [hC] at H1 ⊢
  have H1E : Hid (w.heap.size = C ∧ w.heap.size + 1 = D ∧ w.heap.size + 2 = E) := Lib.hid (by omega)
  clear hC hD hE
  have HQ := Lib.hid fun (X : World) (hX : Below W.heap.size W X) => And.intro (H1.out.1.below hX).k9 (And.intro (H1.out.2.1.below hX).k4 (And.intro (H1.out.2.2.below hX).k11 ((H1.out.2.2.below hX).free)))
  obtain ⟨⟨-, -, -, e0, -, -, e1, e2, -⟩, ⟨e3, e4, e5, e6⟩, ⟨e7, e8, e9, e10, e11, e12, e13, e14, e15, e16, e17⟩, e18⟩ := HQ.out _ (Below.refl _ _)
  have HB : Hid (Below W.heap.size W W) := Lib.hid (Below.refl _ _)
  have HBW : Hid (∀ X, Below W.heap.size W X → Below w.heap.size w X) := Lib.hid fun X hX => H1B.out.trans (hX.mono H1B.out.size)
  have HEF : Hid (Blk W E 40 rz ∧ w.heap.size ≤ E) := Lib.hid ⟨H1.out.2.2, by have := H1E.out; omega⟩
  have HWW : Hid (∀ X, Below W.heap.size W X → Below W.heap.size W X) := Lib.hid fun X hX => hX
  obtain ⟨m3, m4, m5, m6, m7⟩ := mcell (HC.out.1.below H1B.out).blk
  have HNo : Hid (∀ X, Below W.heap.size W X → ∀ (tm : Array Value) (code : Int), tm.getD 8 undef = .pointer (some ⟨E, 0, none⟩) → bodyPost Tryz.prog Tryz.f30 (RoP S g (c + 3) 6 w) .ret ⟨tm, []⟩ (res11 X E (.int .i64 code) (.int .i64 0) (.slice none 0 0) (.slice none 0 0) (.int .i64 0) (.int .i64 0) (.int .i64 0) (.int .i64 0) (.int .i64 0) (.int .i64 0) (.int .i64 0))) := Lib.hid fun X hX tm code h4 =>
    ro_fin (Res.no code) (.slice none 0 0) (.slice none 0 0) rfl (MS.same HC.out.1 (HBW.out X hX) (Nat.le_add_right c 3) HC.out.2.2.2.2) (HEF.out.1.below hX) HEF.out.2 (.inl ⟨rfl, rfl, rfl, rfl⟩) ⟨off_nil _, off_nil _⟩ (fld_no (.inr (by decide))) h4
  unfold res11 at HNo
  have C56 : Hid (∀ X, Below w.heap.size w X → ∀ n : Int, Calls Tryz.prog 56 #[.pointer (some ⟨g.t, 0, none⟩), .int .i64 x.an, .int .i64 n, .slice q.da q.dl q.dc] X (WriteP S g.t c bs T X)) := Lib.hid fun X hX n => twrite2_any (HC.out.1.below hX).wi.tr (by have := HC.out.1.wi.cc; omega) x.an n HC.out.2.2.1 q.da q.dl q.dc xs (HD.out.1.below hX) HD.out.2.1
  have HQ2 : Hid (∀ X, Below W.heap.size W X → X.cell? ⟨g.m, 4, none⟩ = some (.pointer (some ⟨g.t, 0, none⟩)) ∧ X.cell? ⟨C, 8, none⟩ = some (.slice q.da q.dl q.dc) ∧ X.cell? ⟨D, 1, none⟩ = some (.int .i64 x.an)) := Lib.hid fun X hX => ⟨((HC.out.1.below H1B.out).below hX).blk.cell 4, (H1.out.1.below hX).cell 8, (H1.out.2.1.below hX).cell 1⟩
  go_upto_if 21 with (first | (go_at_call 21; (with_reducible refine (C21.out _ _).mono ?_); rintro e wn ⟨rfl, hb⟩; replace HB := Lib.hid (HB.out.trans (hb.mono HB.out.size)); clear hb e0 e1 e2 e3 e4 e5 e6 e7 e8 e9 e10 e11 e12 e13 e14 e15 e16 e17 e18; obtain ⟨⟨-, -, -, e0, -, -, e1, e2, -⟩, ⟨e3, e4, e5, e6⟩, ⟨e7, e8, e9, e10, e11, e12, e13, e14, e15, e16, e17⟩, e18⟩ := HQ.out _ HB.out))
  all_goals first
    | with_reducible exact HNo.out _ (HWW.out _ HB.out) _ _ rfl
    | skip
  go_cut [9] (fun v wx => ∃ n : Int, v = .int .i64 n ∧ n ≤ 4294967296 + 1024 * (c : Int) ∧ 0 ≤ n ∧ Hid (Below W.heap.size W wx))
  case first =>
    have hps := HC.out.2.2.2.1
    go_wp2_with (first | (go_at_call 53; (with_reducible refine (C53.out _ (HBW.out _ HB.out)).mono ?_); rintro e wn ⟨s, rfl, hs, hb⟩; replace HB := Lib.hid (HB.out.trans (hb.mono HB.out.size)); clear hb e0 e1 e2 e3 e4 e5 e6 e7 e8 e9 e10 e11 e12 e13 e14 e15 e16 e17 e18; obtain ⟨⟨-, -, -, e0, -, -, e1, e2, -⟩, ⟨e3, e4, e5, e6⟩, ⟨e7, e8, e9, e10, e11, e12, e13, e14, e15, e16, e17⟩, e18⟩ := HQ.out _ HB.out; have HS1 := Lib.hid hs; clear hs; unfold Stt.val))
    all_goals
      go_meet
    · obtain ⟨n0, n1⟩ : 0 ≤ s.size ∧ s.size ≤ 1000000 := by
        rcases HS1.out with ⟨rfl, _⟩ | ⟨i, y, lk, sz, _, _, q1, q2, rfl⟩
        · exact ⟨by decide, by decide⟩
        · exact ⟨q1, q2⟩
      exact ⟨_, rfl, by omega, n0, HB⟩
    · exact ⟨_, rfl, hps.2, hps.1, HB⟩
  case rest =>
    obtain ⟨n, rfl, n1, n0, HBX⟩ := hcut
    have HN := Lib.hid (And.intro n1 n0)
    clear n1 n0 e0 e1 e2 e3 e4 e5 e6 e7 e8 e9 e10 e11 e12 e13 e14 e15 e16 e17 e18 m3 m4 m5 m6 m7
    obtain ⟨m4, c8, d1⟩ := HQ2.out _ HBX.out
    have HQF : Hid (∀ X S0, Fr S0 TD W X → (X.cell? ⟨g.m, 6, none⟩ = some (.pointer (some ⟨g.fb, 0, none⟩)) ∧ X.cell? ⟨C, 3, none⟩ = some (.int .i64 q.fd) ∧ X.cell? ⟨C, 8, none⟩ = some (.slice q.da q.dl q.dc)) ∧ Blk X E 40 rz) := Lib.hid fun X S0 hX => ⟨⟨((HC.out.1.below H1B.out).blk.fr hX (by decide)).cell 6, (H1.out.1.fr hX (by decide)).cell 3, (H1.out.1.fr hX (by decide)).cell 8⟩, HEF.out.1.fr hX (by decide)⟩
    have C1 := C56.out _ (HBW.out _ HBX.out.drew) n
    go_upto_region 6 with fail
    go_still_tail 10, (by kernel_rfl)
    change wpList _ _ _ _ _ (World.drew _)
    go_upto_region 7 with (first | (go_at_call 56; (with_reducible refine C1.mono ?_); rintro e w5 ⟨code, S5, rfl, _, _, hs5⟩))
    have HA5 : Hid (MA S5 w5 g c bs T tv l fl cw) := Lib.hid (((HC.out.1.below (HBW.out _ HBX.out.drew)).world (WStep.tree hs5 (HC.out.1.below (HBW.out _ HBX.out.drew)).wi.tab) HC.out.1.wi.inv HC.out.1.wi.mi HC.out.1.wi.ml HC.out.1.wi.m0 HC.out.1.wi.ll HC.out.1.wi.cc (Nat.le_refl c)))
    have HS5 : Hid (MS S S5 g (c + 3) w w5) := Lib.hid (MS.below (HBW.out _ HBX.out.drew) ⟨hs5.sub, hs5.sup, hs5.fr.mono (fun _ h => .inl h) TT_TD, _, _, _, _, _, _, HA5.out.mono (Nat.le_add_right c 3) HC.out.2.2.2.2⟩)
    have HF5 := Lib.hid ((Fr.of_below (S := S) (T := TD) HBX.out.drew).trans (hs5.fr.mono (T' := TD) (fun _ h => .inl h) TT_TD) (fun _ h => .inl h))
    clear hs5 m4 c8 d1 C1
    obtain ⟨⟨m6, c3, c8⟩, hE5⟩ := HQF.out _ _ HF5.out
    have HE5 := Lib.hid hE5
    clear hE5
    by_cases hcode : code = 0
    case neg =>
      go_wp2_with (first | (go_at_call 21; (with_reducible refine (C21.out _ _).mono ?_); rintro e wn ⟨rfl, hb⟩; have HE6 := Lib.hid (HE5.out.below hb); have HS6 := Lib.hid (HS5.out.trans (MS.same HA5.out hb (Nat.le_add_right c 3) HC.out.2.2.2.2)); clear hb m6 c3 c8; obtain ⟨r0, r1, r2, r3, r4, r5, r6, r7, r8, r9, r10, rf⟩ := rz_cells HE6.out))
      have HX := Lib.hid (fun (tm : Array Value) (h4 : tm.getD 8 undef = .pointer (some ⟨E, 0, none⟩)) => ro_fin (op := 6) (fn := Tryz.f30) (Res.no code) (.slice none 0 0) (.slice none 0 0) rfl HS6.out HE6.out HEF.out.2 (.inl ⟨rfl, rfl, rfl, rfl⟩) ⟨off_nil _, off_nil _⟩ (fld_no (.inr (by decide))) h4)
      unfold res11 at HX
      dsimp only [Res.no, Res.zero] at HX
      with_reducible exact HX.out _ rfl
    subst hcode
    have hn2 : wrap64 (n + (q.dl : Int)) ≤ 4294967296 + 1024 * ((c + 3 : Nat) : Int) := by
      have h1 := HN.out
      have h2 := HC.out.2.2.2.2
      have h3 := HD.out.2.2
      rw [IntWalk.wrap64_in _ ⟨by omega, by omega⟩]
      omega
    have HN2 := Lib.hid hn2
    have C2 : Calls Tryz.prog 55 #[.pointer (some ⟨g.fb, 0, none⟩), .int .i64 (p : Int), .int .i64 q.fd, .int .i64 (wrap64 (n + (q.dl : Int)))] w5.drew (fun e w' => ∃ code : Int, e = .returned (.int .i64 code) ∧ MS S5 S5 g (c + 3) w5.drew w') := (seek_any (HA5.out.below (Below.refl _ _).drew).ft (p := p) (by have := HC.out.2.1; omega) q.fd (wrap64 (n + (q.dl : Int))) (by have h1 := HN2.out; have h2 := HC.out.2.2.2.2; omega)).mono fun e w' h => by
      obtain ⟨code, rfl, h⟩ := h
      exact ⟨code, rfl, seek_files ((HA5.out.below (Below.refl _ _).drew).mono (Nat.le_add_right c 3) HC.out.2.2.2.2) (by have := HC.out.2.1; omega) HN2.out h⟩
    clear hn2
    go_upto_region 9 with fail
    go_still_tail 12, (by kernel_rfl)
    change wpList _ _ _ _ _ (World.drew _)
    go_upto_region 10 with (first | (go_at_call 55; (with_reducible refine C2.mono ?_); rintro e w6 ⟨code, rfl, hms⟩))
    have HS6 := Lib.hid (HS5.out.trans (MS.below (Below.refl _ _).drew hms))
    have HF6 := Lib.hid ((((HF5.out.mono (S' := fun _ => True) (T' := TD) (fun _ _ => .inl trivial) (fun _ h => h)).trans (Fr.of_below (S := S) (T := TD) (Below.refl w5.heap.size w5).drew) (fun _ _ => .inl trivial))).trans hms.fr (fun _ _ => .inl trivial))
    clear hms m6 c3 c8 C2
    obtain ⟨⟨m6, c3, c8⟩, hE6⟩ := HQF.out _ _ HF6.out
    have HE6 := Lib.hid hE6
    obtain ⟨r0, r1, r2, r3, r4, r5, r6, r7, r8, r9, r10, rf⟩ := rz_cells HE6.out
    clear hE6
    go_wp2_with fail
    have HX := Lib.hid (fun (tm : Array Value) (h4 : tm.getD 8 undef = .pointer (some ⟨E, 0, none⟩)) => ro_fin (op := 6) (fn := Tryz.f30) { Res.zero with n := (q.dl : Int) } (.slice none 0 0) (.slice none 0 0) rfl HS6.out HE6.out HEF.out.2 (.inl ⟨rfl, rfl, rfl, rfl⟩) ⟨off_nil _, off_nil _⟩ (by simp [fldI, Res.zero, stat0, statI]) h4)
    unfold res11 at HX
    dsimp only [Res.zero] at HX
    with_reducible exact HX.out _ rfl
end Go.Proofs.YtfjghemojnhmbaaGreat
