/- The tree: Move, behind its tests. -/
import Derived.Test.YtfjghemojnhmbaaGreatTrN
namespace Go.Proofs.YtfjghemojnhmbaaGreat
open Go.RowKit

def Nd.more (y : Nd) (i : Nat) : Nd := { y with named := y.named + 1, up := if y.kind = 1 then i + 1 else y.up }
def Nd.grip (z : Nd) : Nd := { z with held := z.held + 1 }
/-- A name goes from one Dir to another: the plain law. -/
theorem TInv.move {T : List (Option Nd)} {R : Nat → Nat} {i j a k : Nat} {x z y : Nd} {s0 s2 : ByteArray} (h : TInv T R none) (hx : T[i]? = some (some x)) (hk : x.es[k]? = some (s0, j + 1)) (hz : T[j]? = some (some z)) (hy : T[a]? = some (some y)) (hky : y.kind = 1) (haj : a ≠ j) (hg : a = 0 ∨ 1 ≤ y.named) (hav : z.kind = 1 → Avoid T (j + 1) (a + 1)) :
    ∃ y2, (((T.set j (some z.grip)).set i (some { x with es := x.es.eraseIdx k })).set j (some (z.grip.less j)))[a]? = some (some y2) ∧ y2.kind = 1 ∧
      outT (T.set j (some z.grip)) i j k x z.grip = ((T.set j (some z.grip)).set i (some { x with es := x.es.eraseIdx k })).set j (some (z.grip.less j)) ∧
      ∀ es : List (ByteArray × Nat), es.Perm (y2.es ++ [(s2, j + 1)]) → TInv (((((T.set j (some z.grip)).set i (some { x with es := x.es.eraseIdx k })).set j (some (z.grip.less j))).set a (some { y2 with es := es })).set j (some { (z.grip.less j).more a with held := z.held })) R none := by
  obtain ⟨hn, hij, hkx⟩ := h.named hx hk hz
  have h1 : TInv (T.set j (some z.grip)) R none := h.turn hz rfl rfl rfl rfl fun k' hk' => ⟨fun _ => Nat.le_refl _, fun e => by
    subst e
    obtain ⟨j', z', e1, e2, e3⟩ := h.refs _ hk'
    obtain rfl : j = j' := by omega
    rw [hz] at e2; cases e2
    exact Nat.le_succ_of_le e3⟩
  have hx1 : (T.set j (some z.grip))[i]? = some (some x) := by rw [set_get hij]; exact hx
  have hz1 : (T.set j (some z.grip))[j]? = some (some z.grip) := set_self hz
  have h2 : TInv (((T.set j (some z.grip)).set i (some { x with es := x.es.eraseIdx k })).set j (some (z.grip.less j))) R (some j) := h1.out hx1 hk hz1 (.inr rfl)
  have hz1' : ((T.set j (some z.grip)).set i (some { x with es := x.es.eraseIdx k }))[j]? = some (some z.grip) := by rw [set_get (by omega)]; exact hz1
  have hz2 : (((T.set j (some z.grip)).set i (some { x with es := x.es.eraseIdx k })).set j (some (z.grip.less j)))[j]? = some (some (z.grip.less j)) := set_self hz1'
  -- the others keep kind, up and name
  have same : ∀ (m : Nat) (b : Nd), T[m]? = some (some b) → m ≠ j → ∃ b', (((T.set j (some z.grip)).set i (some { x with es := x.es.eraseIdx k })).set j (some (z.grip.less j)))[m]? = some (some b') ∧ b'.kind = b.kind ∧ b'.up = b.up ∧ b'.named = b.named := by
    intro m b hb hm
    by_cases hmi : m = i
    · subst hmi
      rw [hx] at hb; cases hb
      exact ⟨{ x with es := x.es.eraseIdx k }, by rw [set_get hm]; exact set_self hx1, rfl, rfl, rfl⟩
    · exact ⟨b, by rw [set_get hm, set_get hmi, set_get hm]; exact hb, rfl, rfl, rfl⟩
  obtain ⟨y2, hy2, ek, eu, en⟩ := same a y hy haj
  refine ⟨y2, hy2, ek.trans hky, ?_, fun es hp => ?_⟩
  · rw [outT, reapT, if_pos (.inr (.inr (by simp [Nd.less, Nd.grip])))]
  have hav2 : (z.grip.less j).kind = 1 → Avoid (((T.set j (some z.grip)).set i (some { x with es := x.es.eraseIdx k })).set j (some (z.grip.less j))) (j + 1) (a + 1) := fun hkz => (hav hkz).like (fun _ => False) (fun m b hb hkb hm _ => by
    obtain ⟨b', q1, q2, q3, _⟩ := same m b hb (by omega)
    exact ⟨b', q1, q2.trans hkb, q3⟩) (fun _ _ _ _ _ _ _ _ _ _ => id) (fun _ _ => id)
  have h3 := h2.put (.inr rfl) hy2 (ek.trans hky) (by rw [en]; exact hg) hz2 haj hp hav2
  have hz3 : ((((T.set j (some z.grip)).set i (some { x with es := x.es.eraseIdx k })).set j (some (z.grip.less j))).set a (some { y2 with es := es }))[j]? = some (some (z.grip.less j)) := by rw [set_get (by omega)]; exact hz2
  have h4 := h3.turn (y := { (z.grip.less j).more a with held := z.held }) (R' := R) (set_self hz3) rfl rfl rfl rfl fun k' hk' => ⟨fun _ => Nat.le_refl _, fun e => by
    subst e
    obtain ⟨j', z', e1, e2, e3⟩ := h.refs _ hk'
    obtain rfl : j = j' := by omega
    rw [hz] at e2; cases e2
    exact e3⟩
  rw [List.set_set] at h4
  exact h4
/-- Move's end: the node gripped, its name taken out, put in, and let go. -/
structure MoveR (S : Nat → Prop) (t c : Nat) (R : Nat → Nat) (Tb : List (Option Nd)) (i a j bz : Nat) (s s2 : ByteArray) (held : Nat) (w V : World) : Prop where
  c11 : V.cell? ⟨bz, 11, none⟩ = some (.int .i64 held)
  fr : V.frozen? ⟨bz, 11, none⟩ = false
  hb : held ≤ 100000
  out : Calls Tryz.prog 110 #[.pointer (some ⟨t, 0, none⟩), .int .i64 ((i : Int) + 1), .string s] (V.setCell ⟨bz, 11, none⟩ (.int .i64 ((held : Int) + 1))) fun e w3 => e = .returned (.tuple #[]) ∧
    Calls Tryz.prog 94 #[.pointer (some ⟨t, 0, none⟩), .int .i64 ((a : Int) + 1), .string s2, .int .i64 ((j : Int) + 1)] w3 fun e w4 => e = .returned (.tuple #[]) ∧ w4.cell? ⟨bz, 11, none⟩ = some (.int .i64 ((held : Int) + 1)) ∧ w4.frozen? ⟨bz, 11, none⟩ = false ∧ TreeP S t (c + 2) R Tb w (.returned (.int .i64 0)) (w4.setCell ⟨bz, 11, none⟩ (.int .i64 held))
theorem move_rest {S S2 : Nat → Prop} {w V : World} {t c : Nat} {bs : List Nat} {Tb T : List (Option Nd)} {R : Nat → Nat} {i j a k bz : Nat} {x z y : Nd} {s s0 s2 : ByteArray} (hst : TStep S S2 t c bs w V T) (hi : TInv T R none) (hc : c + 2 ≤ 100000) (hx : T[i]? = some (some x)) (hk : First x.es s k (s0, j + 1)) (hz : T[j]? = some (some z)) (hbz : bs[j]? = some bz)
    (hy : T[a]? = some (some y)) (hky : y.kind = 1) (haj : a ≠ j) (hg : a = 0 ∨ 1 ≤ y.named) (hav : z.kind = 1 → Avoid T (j + 1) (a + 1)) (hs2 : s2.size ≤ 5000) (hkk : KK Tb T) : MoveR S t c R Tb i a j bz s s2 z.held w V := by
  obtain ⟨M, p, v, h⟩ := hst.tr
  obtain ⟨u, hu⟩ := h.nd j z bz hz hbz
  obtain ⟨y2, hy2, hky2, hout, hfin⟩ := hi.move (s2 := s2) hx hk.at_ hz hy hky haj hg hav
  obtain ⟨hn, hij, hkx⟩ := hi.named hx hk.at_ hz
  have ho := h.ok j z hz
  have h1 := (h.mono (Nat.le_succ c)).turn1 (j := 11) (val := .int .i64 ((z.held : Int) + 1)) (y := z.grip) hz hbz hu (by simp [Nd.cells, Nd.grip]) rfl { ho.mono (Nat.le_succ c) with he := Nat.succ_le_succ ho.he }
  have hx1 : (T.set j (some z.grip))[i]? = some (some x) := by rw [set_get hij]; exact hx
  have hz1 : (T.set j (some z.grip))[j]? = some (some z.grip) := set_self hz
  have hhe := ho.he
  refine ⟨hu.cs.c11, hu.blk.free 11, by omega, (out_any h1.1.tr (by omega) hx1 hk hz1 hij hn).mono ?_⟩
  rintro e w3 ⟨rfl, S3, st3⟩
  refine ⟨rfl, ?_⟩
  rw [hout] at st3
  have hz2 : (((T.set j (some z.grip)).set i (some { x with es := x.es.eraseIdx k })).set j (some (z.grip.less j)))[j]? = some (some (z.grip.less j)) := set_self (by rw [set_get (by omega)]; exact hz1)
  refine (put_any st3.tr (by omega) hy2 hz2 haj s2 hs2).mono ?_
  rintro e w4 ⟨rfl, es, hpe, st4⟩
  obtain ⟨M4, p4, v4, h4⟩ := st4.tr
  have hz3 : (((((T.set j (some z.grip)).set i (some { x with es := x.es.eraseIdx k })).set j (some (z.grip.less j))).set a (some { y2 with es := es })).set j (some ((z.grip.less j).more a)))[j]? = some (some ((z.grip.less j).more a)) := set_self (by rw [set_get (by omega)]; exact hz2)
  obtain ⟨u4, hu4⟩ := h4.nd j _ bz hz3 hbz
  have ho4 := h4.ok j _ hz3
  have h5 := h4.turn1 (j := 11) (val := .int .i64 (z.held : Int)) (y := { (z.grip.less j).more a with held := z.held }) hz3 hbz hu4 (by simp [Nd.cells]) rfl { ho4 with he := by show z.held ≤ _; omega }
  refine ⟨rfl, ?_, hu4.blk.free 11, 0, S3, bs, _, rfl, by omega, by omega, ((((hst.mono (Nat.le_succ c)).trans (TStep.of h1 (by simp))).trans st3).trans st4).trans (TStep.of h5 (by simp)), ?_⟩
  · have := hu4.cs.c11
    simpa [Nd.more, Nd.less, Nd.grip] using this
  · rw [List.set_set]
    have k1 : KK T (T.set j (some z.grip)) := KK.set hz rfl
    have k2 := k1.trans (KK.two (x' := { x with es := x.es.eraseIdx k }) (y' := z.grip.less j) hx1 hz1 hij rfl rfl)
    have k3 := k2.trans (KK.two (x' := { y2 with es := es }) (y' := (z.grip.less j).more a) hy2 hz2 haj rfl rfl)
    have k4 := k3.trans (KK.set (y := { (z.grip.less j).more a with held := z.held }) hz3 rfl)
    rw [List.set_set] at k4
    exact ⟨hfin es hpe, hkk.trans k4⟩
end Go.Proofs.YtfjghemojnhmbaaGreat
/- The tree: Move walked. -/
namespace Go.Proofs.YtfjghemojnhmbaaGreat
open Go.RowKit

theorem First.erase : ∀ {es : List (ByteArray × Nat)} {s : ByteArray} {k k2 : Nat} {e e2 : ByteArray × Nat}, First es s k e → es[k2]? = some e2 → k2 ≠ k → ∃ k', First (es.eraseIdx k2) s k' e
  | [], s, k, k2, e, e2, h, _, _ => by have := h.at_; simp at this
  | a :: l, s, 0, 0, e, e2, h, h2, hn => absurd rfl hn
  | a :: l, s, k + 1, 0, e, e2, h, h2, hn => ⟨k, by simpa using h.at_, h.nm, fun j e' hj he' => h.lt (j + 1) e' (by omega) (by simpa using he')⟩
  | a :: l, s, 0, k2 + 1, e, e2, h, h2, hn => ⟨0, by simpa using h.at_, h.nm, fun j e' hj => by omega⟩
  | a :: l, s, k + 1, k2 + 1, e, e2, h, h2, hn => by
    have hl : First l s k e := ⟨by simpa using h.at_, h.nm, fun j e' hj he' => h.lt (j + 1) e' (by omega) (by simpa using he')⟩
    obtain ⟨k', hk'⟩ := hl.erase (e2 := e2) (by simpa using h2) (by omega)
    refine ⟨k' + 1, by simpa using hk'.at_, h.nm, fun j e' hj he' => ?_⟩
    cases j with
    | zero => exact h.lt 0 e' (by omega) (by simpa using he')
    | succ j => exact hk'.lt j e' (by omega) (by simpa using he')
/-- When what had the new name is gone: the rest stands. -/
theorem TInv.had {T : List (Option Nd)} {R : Nat → Nat} {i j a o k k2 : Nat} {x z y zo : Nd} {s s0 s2 s3 : ByteArray} (h : TInv T R none) (hx : T[i]? = some (some x)) (hk : First x.es s k (s0, j + 1)) (hz : T[j]? = some (some z)) (hy : T[a]? = some (some y)) (hk2 : First y.es s2 k2 (s3, o + 1)) (ho : T[o]? = some (some zo)) (hes : zo.es = []) (hoj : o ≠ j) (haj : a ≠ j) (hav : z.kind = 1 → Avoid T (j + 1) (a + 1)) :
    TInv (outT T a o k2 y zo) R none ∧ (∃ x0 k0, (outT T a o k2 y zo)[i]? = some (some x0) ∧ First x0.es s k0 (s0, j + 1)) ∧ (outT T a o k2 y zo)[j]? = some (some z) ∧ (outT T a o k2 y zo)[a]? = some (some { y with es := y.es.eraseIdx k2 }) ∧ (z.kind = 1 → Avoid (outT T a o k2 y zo) (j + 1) (a + 1)) := by
  obtain ⟨hn, hao, hky⟩ := h.named hy hk2.at_ ho
  have ho1 : (T.set a (some { y with es := y.es.eraseIdx k2 }))[o]? = some (some zo) := by rw [set_get (by omega)]; exact ho
  have ho2 : ((T.set a (some { y with es := y.es.eraseIdx k2 })).set o (some (zo.less o)))[o]? = some (some (zo.less o)) := set_self ho1
  have h2 := h.out hy hk2.at_ ho (.inl hes) (ex := none)
  have hin : TInv (outT T a o k2 y zo) R none := h2.reap ho2
  have at2 : ∀ m, m ≠ o → (outT T a o k2 y zo)[m]? = (T.set a (some { y with es := y.es.eraseIdx k2 }))[m]? := by
    intro m hm
    unfold outT reapT
    split
    · rw [set_get hm]
    · rw [set_get hm, set_get hm]
  have hio : i ≠ o := by
    rintro rfl
    rw [hx] at ho; cases ho
    have := hk.at_
    rw [hes] at this
    simp at this
  refine ⟨hin, ?_, by rw [at2 j (by omega), set_get (by omega)]; exact hz, by rw [at2 a hao]; exact set_self hy, fun hkz => ?_⟩
  · by_cases hia : i = a
    · subst hia
      rw [hx] at hy; cases hy
      have hkk : k2 ≠ k := by
        rintro rfl
        have := hk.at_.symm.trans hk2.at_
        simp at this
        omega
      obtain ⟨k', hk'⟩ := hk.erase hk2.at_ hkk
      exact ⟨_, k', by rw [at2 i hio]; exact set_self hx, hk'⟩
    · exact ⟨x, k, by rw [at2 i hio, set_get hia]; exact hx, hk⟩
  · refine (hav hkz).like (fun m => m = o) (fun m b hb hkb hm hmo => ?_) (fun m j' b hb hkb hm hmo hup hup2 hj' => ?_) (fun j' hj' => by rintro rfl; omega)
    · by_cases hma : m = a
      · subst hma
        rw [hy] at hb; cases hb
        exact ⟨{ y with es := y.es.eraseIdx k2 }, by rw [at2 m hmo]; exact set_self hy, hkb, rfl⟩
      · exact ⟨b, by rw [at2 m hmo, set_get hma]; exact hb, hkb, rfl⟩
    · rintro rfl
      rcases h.up m b hb (by simp) hkb with e | ⟨q, zq, s', e1, e2, e3⟩
      · exact hup e
      · obtain rfl : j' = q := by omega
        rw [ho] at e2; cases e2
        rw [hes] at e3; cases e3
set_option maxRecDepth 100000 in
set_option maxHeartbeats 4000000 in
theorem move_any {S : Nat → Prop} {w : World} {t c : Nat} {bs : List Nat} {T : List (Option Nd)} {R : Nat → Nat} (h : TR S w t c bs T) (hi : TInv T R none) (hc : c + 2 ≤ 100000) (n m : Int) (hn : R64 n) (hm : R64 m) (s s2 : ByteArray) (hs2 : s2.size ≤ 5000) :
    Calls Tryz.prog 99 #[.pointer (some ⟨t, 0, none⟩), .int .i64 n, .string s, .int .i64 m, .string s2] w (TreeP S t (c + 2) R T w) := by
  obtain ⟨M, p, v, h⟩ := h
  have C1 := dir_any h (by omega) n hn
  have C2 := dir_any h (by omega) m hm
  have C3 := right_any s2 (by omega) w
  have HT := Lib.hid h
  have HI := Lib.hid hi
  have HS : Hid (∀ (code : Int) (w' : World), 0 ≤ code → code ≤ 64 → Below w.heap.size w w' → TreeP S t (c + 2) R T w (.returned (.int .i64 code)) w') := Lib.hid fun code w' h0 h1 hb => .same (h.mono (by omega)).tr hi hb h0 h1
  clear h hi
  go_enter Tryz.func99, Tryz.ntmps99
  go_wp2_with fail
  refine C1.mono ?_
  rintro e w' ⟨rfl, ⟨hl, rfl⟩ | ⟨i, x, b, rfl, hx, hb, hkx, rfl⟩⟩
  · clear hl
    go_wp2_with fail
    go_ret
    exact HS.out 1 _ (by omega) (by omega) (Below.refl _ _)
  have HX := Lib.hid (And.intro hx (And.intro hkx hb))
  clear hx hb hkx C1
  go_wp2_with fail
  refine C2.mono ?_
  rintro e w' ⟨rfl, ⟨hl, rfl⟩ | ⟨a, y, ba, rfl, hy, hba, hky, rfl⟩⟩
  · clear hl
    go_wp2_with fail
    go_ret
    exact HS.out 1 _ (by omega) (by omega) (Below.refl _ _)
  have HY := Lib.hid (And.intro hy (And.intro hky hba))
  clear hy hba hky C2
  go_wp2_with fail
  refine C3.mono ?_
  rintro e w1 ⟨⟨r, rfl⟩, hb1⟩
  have HB1 := Lib.hid hb1
  have HT1 := Lib.hid (HT.out.below hb1)
  clear hb1 C3
  cases r
  · go_wp2_with fail
    go_ret
    exact HS.out 1 _ (by omega) (by omega) HB1.out
  have C4 := fnd_any HT1.out (by omega) ((i : Int) + 1) hn s
  go_wp2_with fail
  refine C4.mono ?_
  rintro e w2 ⟨hd, ⟨hno, rfl⟩ | ⟨x2, k, f, hx2, hk2, hf, rfl⟩⟩
  · have HB2 := Lib.hid (HB1.out.trans (hd.below.mono HB1.out.size))
    clear hno hd
    go_wp2_with fail
    go_ret
    exact HS.out 32 _ (by omega) (by omega) HB2.out
  have HB2 := Lib.hid (HB1.out.trans (hd.below.mono HB1.out.size))
  have HT2 := Lib.hid (HT1.out.below hd.below)
  obtain rfl : x = x2 := by rw [lv_of HX.out.1] at hx2; cases hx2; rfl
  obtain ⟨j, z, hj, hz⟩ := HI.out.el i x f HX.out.1 (List.mem_of_getElem? hf.at_)
  obtain ⟨s0, fn⟩ := f
  simp only at hj
  subst hj
  obtain ⟨bz, uz, hbz, huz⟩ := HT2.out.block hz
  have C5 := gone_any HT2.out (by omega) HY.out.1
  have C6 := nat_live HT2.out (by omega) hz hbz
  have cz1 := huz.cs.c1
  have HZ := Lib.hid (And.intro hz (And.intro hbz hf))
  have ecast : (((j + 1 : Nat)) : Int) = (j : Int) + 1 := by omega
  rw [ecast]
  clear hd hx2 hk2 hf hz hbz huz C4 ecast
  go_wp2_with fail
  refine C5.mono ?_
  rintro e w3 ⟨rfl, r, rfl, hr⟩
  cases r
  case true =>
    go_wp2_with fail
    go_ret
    exact HS.out 32 _ (by omega) (by omega) HB2.out
  have HG := Lib.hid (hr rfl)
  clear hr C5
  have hil := (List.getElem?_eq_some_iff.1 HX.out.1).1
  have hal := (List.getElem?_eq_some_iff.1 HY.out.1).1
  have hjl := (List.getElem?_eq_some_iff.1 HZ.out.1).1
  have htl := HT2.out.tl
  have C9 := fnd_any HT2.out (by omega) ((a : Int) + 1) ⟨by omega, by omega⟩ s2
  by_cases hkz : z.kind = 1
  case' pos =>
    have hkzb : (z.kind == 1) = true := by simp [hkz]
    by_cases haj : a = j
    case pos =>
      subst haj
      have e1 : ((a : Int) + 1 == (a : Int) + 1) = true := by simp
      go_wp2_with (first | (go_at_call 37; refine C6.mono ?_; rintro e w4 ⟨rfl, rfl⟩))
      go_ret
      exact HS.out 39 _ (by omega) (by omega) HB2.out
    have e1 : ((a : Int) + 1 == (j : Int) + 1) = false := by simp; omega
    obtain ⟨d, hd⟩ := HI.out.ends a y HY.out.1 (by simp) HY.out.2.1
    have C8 : Calls Tryz.prog 120 #[.pointer (some ⟨t, 0, none⟩), .int .i64 ((a : Int) + 1), .int .i64 ((j : Int) + 1)] w3 (WithinP T (a + 1) (j + 1) w3) := by
      have := within_any HT2.out (by omega) (a + 1) (j + 1) (by omega) hd
      simpa using this
    clear hd
    go_upto_region 8 with (first | (go_at_call 37; refine C6.mono ?_; rintro e w4 ⟨rfl, rfl⟩))
    go_wp2_with fail
    refine C8.mono ?_
    rintro e w5 ⟨rfl, r, rfl, hr⟩
    cases r
    case true =>
      clear hr
      go_wp2_with fail
      go_ret
      exact HS.out 39 _ (by omega) (by omega) HB2.out
    have HAV : Hid (z.kind = 1 → Avoid T (j + 1) (a + 1)) := Lib.hid fun _ => hr rfl (by omega) ⟨j, z, rfl, HZ.out.1, hkz⟩
    have HAJ : Hid (a ≠ j) := Lib.hid haj
    clear hr haj C8 C6 e1
    go_upto_region 10 with fail
  case' neg =>
    have hkzb : (z.kind == 1) = false := by simp [hkz]
    have HAV : Hid (z.kind = 1 → Avoid T (j + 1) (a + 1)) := Lib.hid fun h => absurd h hkz
    have HAJ : Hid (a ≠ j) := Lib.hid (by
      rintro rfl
      have := HY.out.1
      rw [HZ.out.1] at this; cases this
      exact hkz HY.out.2.1)
    go_upto_region 10 with (first | (go_at_call 37; refine C6.mono ?_; rintro e w4 ⟨rfl, rfl⟩))
    clear C6
  all_goals
    go_wp2_with fail
    refine C9.mono ?_
    clear cz1 C9
    rintro e w6 ⟨hd2, ⟨hno, rfl⟩ | ⟨y2, k2, f2, hy2, hky2, hf2, rfl⟩⟩
    case' inl =>
      have HB6 := Lib.hid (HB2.out.trans (hd2.below.mono HB2.out.size))
      have HT6 := Lib.hid (HT2.out.below hd2.below)
      clear hno hd2
      have C10 := links_any HT6.out (by omega) HI.out.el HY.out.1
      have HM := Lib.hid (move_rest (TStep.same (HT.out.tr) HB6.out) HI.out hc HX.out.1 HZ.out.2.2 HZ.out.1 HZ.out.2.1 HY.out.1 HY.out.2.1 HAJ.out HG.out HAV.out hs2 (KK.refl T))
    case' inr =>
      have HB6 := Lib.hid (HB2.out.trans (hd2.below.mono HB2.out.size))
      have HT6 := Lib.hid (HT2.out.below hd2.below)
      have e2 : y2 = y := by rw [lv_of HY.out.1] at hy2; cases hy2; rfl
      subst e2
      obtain ⟨o, zo, ho, hzo⟩ := HI.out.el a y2 f2 HY.out.1 (List.mem_of_getElem? hf2.at_)
      obtain ⟨s3, fn2⟩ := f2
      simp only at ho
      subst ho
      obtain ⟨bo, uo, hbo, huo⟩ := HT6.out.block hzo
      have C11 := nat_live HT6.out (by omega) hzo hbo
      have co1 := huo.cs.c1
      have co8 := huo.cs.c8
      obtain ⟨uoa, uoc, rfl⟩ := huo.row.value
      have hoel := (HT6.out.ok o zo hzo).el
      have HO := Lib.hid (And.intro hzo hf2)
      have ecast : (((o + 1 : Nat)) : Int) = (o : Int) + 1 := by omega
      rw [ecast]
      clear hd2 hy2 hky2 hf2 hzo hbo huo ecast
  · by_cases hoj' : o = j
    · subst hoj'
      have hob : ((o : Int) + 1 == (o : Int) + 1) = true := by simp
      go_wp2_with fail
      go_ret
      exact HS.out 0 _ (by omega) (by omega) HB6.out
    have hoj : ¬ o = j := by
      rintro rfl
      exact hoj' rfl
    have hob : ((o : Int) + 1 == (j : Int) + 1) = false := by simp; omega
    by_cases hko : zo.kind = 1
    · have hkob : (zo.kind == 1) = true := by simp [hko]
      go_wp2_with (first | (go_at_call 37; refine C11.mono ?_; rintro e w7 ⟨rfl, rfl⟩))
      go_ret
      exact HS.out 38 _ (by omega) (by omega) HB6.out
    have hkob : (zo.kind == 1) = false := by simp [hko]
    by_cases hlen : 0 < zo.es.length
    · have hlb : (0 : Int) < (zo.es.length : Int) := by omega
      go_wp2_with (first | (go_at_call 37; refine C11.mono ?_; rintro e w7 ⟨rfl, rfl⟩))
      go_ret
      exact HS.out 47 _ (by omega) (by omega) HB6.out
    have hlb : ¬ (0 : Int) < (zo.es.length : Int) := by omega
    have hes : zo.es = [] := List.eq_nil_of_length_eq_zero (by omega)
    have hfa := HI.out.named HY.out.1 HO.out.2.at_ HO.out.1
    have C12 := out_any HT6.out.tr (by omega) HY.out.1 HO.out.2 HO.out.1 hfa.2.1 hfa.1
    have HH := Lib.hid (HI.out.had HX.out.1 HZ.out.2.2 HZ.out.1 HY.out.1 HO.out.2 HO.out.1 hes hoj HAJ.out HAV.out)
    clear hfa hes
    go_upto_region 25 with (first | (go_at_call 37; refine C11.mono ?_; rintro e w7 ⟨rfl, rfl⟩) | (go_at_call 110; refine C12.mono ?_; rintro e w9 ⟨rfl, S', hst⟩; have HST := Lib.hid hst; clear hst))
    obtain ⟨x0, k0, hx0, hk0⟩ := HH.out.2.1
    have HM := Lib.hid (move_rest (TStep.below HB6.out HST.out) HH.out.1 hc hx0 hk0 HH.out.2.2.1 HZ.out.2.1 HH.out.2.2.2.1 HY.out.2.1 HAJ.out HG.out HH.out.2.2.2.2 hs2 (KK.outT HY.out.1 HO.out.1 (HI.out.named HY.out.1 HO.out.2.at_ HO.out.1).2.1))
    clear hx0 hk0 co1 co8
    have c11 := HM.out.c11
    have c11f := HM.out.fr
    have hhb := HM.out.hb
    go_wp2_with (first | (go_at_call 110; refine HM.out.out.mono ?_; rintro e w7 ⟨rfl, hcall⟩; have HC := Lib.hid hcall; clear hcall) | (go_at_call 94; refine HC.out.mono ?_; rintro e w8 ⟨rfl, g1, g2, hfin⟩; have HE := Lib.hid hfin; clear hfin))
    go_ret
    exact HE.out
  · have c11 := HM.out.c11
    have c11f := HM.out.fr
    have hhb := HM.out.hb
    go_wp2_with (first | (go_at_call 110; refine HM.out.out.mono ?_; rintro e w7 ⟨rfl, hcall⟩; have HC := Lib.hid hcall; clear hcall) | (go_at_call 94; refine HC.out.mono ?_; rintro e w8 ⟨rfl, g1, g2, hfin⟩; have HE := Lib.hid hfin; clear hfin))
    go_ret
    exact HE.out
  · by_cases hoj' : o = j
    · subst hoj'
      have hob : ((o : Int) + 1 == (o : Int) + 1) = true := by simp
      go_wp2_with fail
      go_ret
      exact HS.out 0 _ (by omega) (by omega) HB6.out
    have hoj : ¬ o = j := by
      rintro rfl
      exact hoj' rfl
    have hob : ((o : Int) + 1 == (j : Int) + 1) = false := by simp; omega
    by_cases hko : zo.kind = 1
    case neg =>
      have hkob : (zo.kind != 1) = true := by simp [hko]
      go_wp2_with (first | (go_at_call 37; refine C11.mono ?_; rintro e w7 ⟨rfl, rfl⟩))
      go_ret
      exact HS.out 37 _ (by omega) (by omega) HB6.out
    have hkob : (zo.kind != 1) = false := by simp [hko]
    by_cases hlen : 0 < zo.es.length
    · have hlb : (0 : Int) < (zo.es.length : Int) := by omega
      go_wp2_with (first | (go_at_call 37; refine C11.mono ?_; rintro e w7 ⟨rfl, rfl⟩))
      go_ret
      exact HS.out 47 _ (by omega) (by omega) HB6.out
    have hlb : ¬ (0 : Int) < (zo.es.length : Int) := by omega
    have hes : zo.es = [] := List.eq_nil_of_length_eq_zero (by omega)
    have hfa := HI.out.named HY.out.1 HO.out.2.at_ HO.out.1
    have C12 := out_any HT6.out.tr (by omega) HY.out.1 HO.out.2 HO.out.1 hfa.2.1 hfa.1
    have HH := Lib.hid (HI.out.had HX.out.1 HZ.out.2.2 HZ.out.1 HY.out.1 HO.out.2 HO.out.1 hes hoj HAJ.out HAV.out)
    clear hfa hes
    obtain ⟨qd, hqd⟩ : ∃ qd, ((i : Int) + 1 != (a : Int) + 1) = qd := ⟨_, rfl⟩
    cases qd
    all_goals
      go_upto_region 25 with (first | (go_at_call 37; refine C11.mono ?_; rintro e w7 ⟨rfl, rfl⟩) | (go_at_call 110; refine C12.mono ?_; rintro e w9 ⟨rfl, S', hst⟩; have HST := Lib.hid hst; clear hst))
      obtain ⟨x0, k0, hx0, hk0⟩ := HH.out.2.1
      have HM := Lib.hid (move_rest (TStep.below HB6.out HST.out) HH.out.1 hc hx0 hk0 HH.out.2.2.1 HZ.out.2.1 HH.out.2.2.2.1 HY.out.2.1 HAJ.out HG.out HH.out.2.2.2.2 hs2 (KK.outT HY.out.1 HO.out.1 (HI.out.named HY.out.1 HO.out.2.at_ HO.out.1).2.1))
      clear hx0 hk0 co1 co8
      have c11 := HM.out.c11
      have c11f := HM.out.fr
      have hhb := HM.out.hb
      go_wp2_with (first | (go_at_call 110; refine HM.out.out.mono ?_; rintro e w7 ⟨rfl, hcall⟩; have HC := Lib.hid hcall; clear hcall) | (go_at_call 94; refine HC.out.mono ?_; rintro e w8 ⟨rfl, g1, g2, hfin⟩; have HE := Lib.hid hfin; clear hfin))
      go_ret
      exact HE.out
  · have c11 := HM.out.c11
    have c11f := HM.out.fr
    have hhb := HM.out.hb
    obtain ⟨qd, hqd⟩ : ∃ qd, ((i : Int) + 1 != (a : Int) + 1) = qd := ⟨_, rfl⟩
    cases qd
    · go_wp2_with (first | (go_at_call 110; refine HM.out.out.mono ?_; rintro e w7 ⟨rfl, hcall⟩; have HC := Lib.hid hcall; clear hcall) | (go_at_call 94; refine HC.out.mono ?_; rintro e w8 ⟨rfl, g1, g2, hfin⟩; have HE := Lib.hid hfin; clear hfin))
      go_ret
      exact HE.out
    · go_upto_region 25 with (first | (go_at_call 95; refine C10.mono ?_; rintro e w7 ⟨lk, rfl, rfl, lk0, lk1⟩))
      all_goals first | (go_ret; exact HS.out 44 _ (by omega) (by omega) HB6.out) | skip
      go_wp2_with (first | (go_at_call 110; refine HM.out.out.mono ?_; rintro e w7 ⟨rfl, hcall⟩; have HC := Lib.hid hcall; clear hcall) | (go_at_call 94; refine HC.out.mono ?_; rintro e w8 ⟨rfl, g1, g2, hfin⟩; have HE := Lib.hid hfin; clear hfin))
      go_ret
      exact HE.out
end Go.Proofs.YtfjghemojnhmbaaGreat
