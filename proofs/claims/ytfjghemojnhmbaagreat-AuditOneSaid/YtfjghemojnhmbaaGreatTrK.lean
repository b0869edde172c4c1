/- The tree: put. -/
import Derived.Laws.Cover1
import Derived.Test.YtfjghemojnhmbaaGreatTab6
import Derived.Test.YtfjghemojnhmbaaGreatTrG
namespace Go.Proofs.YtfjghemojnhmbaaGreat
open Go.RowKit

/-- While a name is put into a Dir. -/
structure PuI (w wr : World) (b i : Nat) (x : Nd) (V : Value) (fs es : List (ByteArray × Nat)) : Prop where
  blk : Blk wr b 110 (x.cells (i + 1) V)
  row : Win wr w.heap.size 188 2 V es.length (erows es)
  frm : Frm [b] w wr
  perm : es.Perm fs
theorem PuI.drewN {w wr : World} {b i : Nat} {x : Nd} {V : Value} {fs es : List (ByteArray × Nat)} (h : PuI w wr b i x V fs es) (n : Nat) : PuI w (wr.drewN n) b i x V fs es :=
  ⟨h.blk.below (below_drewN (Below.refl _ _) n), h.row.below (below_drewN (Below.refl _ _) n), h.frm.drewN n, h.perm⟩
theorem PuI.entry {w wr : World} {b i : Nat} {x : Nd} {fs es : List (ByteArray × Nat)} {f o cap n : Nat} (h : PuI w wr b i x (.slice (some ⟨f, o, none⟩) n cap) fs es) (hn : es.length = n) {j : Nat} {e : ByteArray × Nat} (he : es[j]? = some e) :
    wr.cell? ⟨f, o + j * 2, none⟩ = some (.string e.1) ∧ wr.cell? ⟨f, o + j * 2 + 1, none⟩ = some (.int .i64 (e.2 : Int)) := by
  subst hn
  have hl := (List.getElem?_eq_some_iff.1 he).1
  obtain ⟨q1, q2⟩ := erows_at es j e he
  have := h.row.cells (j * 2 + 1) (by omega)
  rw [← Nat.add_assoc] at this
  exact ⟨(h.row.cells (j * 2) (by omega)).trans q1, this.trans q2⟩
theorem erows_set : ∀ (l : List (ByteArray × Nat)) (i : Nat) (e : ByteArray × Nat), i < l.length → erows (l.set i e) = ((erows l).set (i * 2) (.string e.1)).set (i * 2 + 1) (.int .i64 (e.2 : Int))
  | [], i, e, h => by simp at h
  | y :: l, 0, e, _ => by simp [erows]
  | y :: l, i + 1, e, h => by
    have := erows_set l i e (by simpa using h)
    simp only [erows, List.map_cons, List.flatten_cons, List.set_cons_succ] at this ⊢
    rw [this, show (i + 1) * 2 = i * 2 + 1 + 1 from by omega]
    simp
theorem swap_perm : ∀ (l : List (ByteArray × Nat)) (k : Nat) (a b : ByteArray × Nat), l[k]? = some a → l[k + 1]? = some b → ((l.set k b).set (k + 1) a).Perm l
  | [], k, a, b, h, _ => by simp at h
  | [y], 0, a, b, _, h => by simp at h
  | y :: z :: l, 0, a, b, h1, h2 => by
    simp at h1 h2
    subst h1; subst h2
    exact List.Perm.swap _ _ _
  | y :: l, k + 1, a, b, h1, h2 => by
    have := swap_perm l k a b (by simpa using h1) (by simpa using h2)
    simpa using this
theorem Frm.far {l : List Nat} {a w : World} (h : Frm l a w) {p : Addr} (hp : a.heap.size ≤ p.block) (v : Value) : Frm l a (w.setCell p v) :=
  ⟨h.os, h.tape, h.output, by simpa using h.size, fun k hk hn => (Below.heap_setCell _ _ _ _ (by omega)).trans (h.block k hk hn)⟩
theorem Win.of_base' {w : World} {base base' : Nat} {e : TypeId} {size : Nat} {v : Value} {n : Nat} {xs : List Value} (h : Win w base' e size v n xs) (hb : base ≤ base') : Win w base e size v n xs := h.of_base hb
theorem PuI.swap {w V : World} {b i : Nat} {x : Nd} {fs es : List (ByteArray × Nat)} {f o cap n k : Nat} {x1 x2 : ByteArray × Nat} (h : PuI w V b i x (.slice (some ⟨f, o, none⟩) n cap) fs es) (hn : es.length = n) (hb : b < w.heap.size) (h1 : es[k]? = some x1) (h2 : es[k + 1]? = some x2) :
    PuI w ((((V.setCell ⟨f, o + k * 2, none⟩ (.string x2.1)).setCell ⟨f, o + k * 2 + 1, none⟩ (.int .i64 (x2.2 : Int))).setCell ⟨f, o + (k + 1) * 2, none⟩ (.string x1.1)).setCell ⟨f, o + (k + 1) * 2 + 1, none⟩ (.int .i64 (x1.2 : Int))).drew b i x (.slice (some ⟨f, o, none⟩) n cap) fs ((es.set k x2).set (k + 1) x1) := by
  subst hn
  have hl := (List.getElem?_eq_some_iff.1 h2).1
  have hf := (h.row.lt f rfl).1
  have hfb : f ≠ b := by omega
  have hr := (((h.row.setc (j := k * 2) (by omega) (.string x2.1)).setc (j := k * 2 + 1) (by omega) (.int .i64 (x2.2 : Int))).setc (j := (k + 1) * 2) (by omega) (.string x1.1)).setc (j := (k + 1) * 2 + 1) (by omega) (.int .i64 (x1.2 : Int))
  simp only [← Nat.add_assoc] at hr
  refine ⟨(((h.blk.other (by simpa using hfb) _).other (by simpa using hfb) _).other (by simpa using hfb) _).other (by simpa using hfb) _, ?_, ?_, (swap_perm es k x1 x2 h1 h2).trans h.perm⟩
  · rw [erows_set _ _ _ (by simpa using hl), erows_set _ _ _ (by omega), List.length_set, List.length_set]
    exact hr.drew
  · exact ((((h.frm.far hf _).far hf _).far hf _).far hf _).drew
/-- What put does. -/
def PutP (S : Nat → Prop) (t c : Nat) (bs : List Nat) (T : List (Option Nd)) (i j : Nat) (x y : Nd) (s : ByteArray) (w : World) (e : Ending) (w' : World) : Prop := e = .returned (.tuple #[]) ∧
  ∃ es, es.Perm (x.es ++ [(s, j + 1)]) ∧ TStep S S t c bs w w' ((T.set i (some { x with es := es })).set j (some { y with named := y.named + 1, up := if y.kind = 1 then i + 1 else y.up }))
/-- Behind the loop. -/
structure PutT (S : Nat → Prop) (t c : Nat) (bs : List Nat) (T : List (Option Nd)) (i j : Nat) (x y : Nd) (s : ByteArray) (w V : World) (bj : Nat) : Prop where
  call : Calls Tryz.prog 37 #[.pointer (some ⟨t, 0, none⟩), .int .i64 ((j : Int) + 1)] V fun e w' => e = .returned (.pointer (some ⟨bj, 0, none⟩)) ∧ w' = V
  c1 : V.cell? ⟨bj, 1, none⟩ = some (.int .i64 y.kind)
  c9 : V.cell? ⟨bj, 9, none⟩ = some (.int .i64 y.up)
  c10 : V.cell? ⟨bj, 10, none⟩ = some (.int .i64 y.named)
  fr : ∀ k, V.frozen? ⟨bj, k, none⟩ = false
  na : y.named ≤ 100000
  no : y.kind ≠ 1 → PutP S t (c + 1) bs T i j x y s w (.returned (.tuple #[])) (V.setCell ⟨bj, 10, none⟩ (.int .i64 ((y.named : Int) + 1)))
  yes : y.kind = 1 → PutP S t (c + 1) bs T i j x y s w (.returned (.tuple #[])) ((V.setCell ⟨bj, 10, none⟩ (.int .i64 ((y.named : Int) + 1))).setCell ⟨bj, 9, none⟩ (.int .i64 ((i : Int) + 1)))
theorem put_tail {S : Nat → Prop} {w V : World} {t c : Nat} {M : Int} {p : Nat} {v u V2 : Value} {bs : List Nat} {T : List (Option Nd)} {i j b : Nat} {x y : Nd} {s : ByteArray} {es : List (ByteArray × Nat)} (h : TreeAt S w t c M p v bs T) (hc : c + 1 ≤ 100000) (hx : T[i]? = some (some x)) (hy : T[j]? = some (some y)) (hij : i ≠ j) (hs : s.size ≤ 5000) (hb : bs[i]? = some b) (hu : NdAt S w b (i + 1) x u)
    (hp : PuI w V b i x V2 (x.es ++ [(s, j + 1)]) es) : ∃ bj, PutT S t c bs T i j x y s w V bj := by
  have hil := (List.getElem?_eq_some_iff.1 hx).1
  have hjl := (List.getElem?_eq_some_iff.1 hy).1
  have htl := h.tl
  have ho := h.ok i x hx
  have hoy := h.ok j y hy
  have hlen := hp.perm.length_eq
  have h1 := (h.mono (Nat.le_succ c)).turn (y := { x with es := es }) (u' := V2) (S' := S) (w' := V) hx hb hp.frm (fun _ h => h) ⟨hp.blk, hu.own, hp.row.of_base' (Nat.zero_le _)⟩
    { ho.mono (Nat.le_succ c) with
      el := by have := ho.el; simp at hlen; show es.length ≤ c + 1; omega
      eo := fun e he => by
        rcases List.mem_append.1 (hp.perm.mem_iff.1 he) with q | q
        · exact ⟨(ho.eo e q).1, Nat.le_succ_of_le (ho.eo e q).2⟩
        · simp at q; subst q; exact ⟨hs, by simp; omega⟩ }
  have hy1 : (T.set i (some { x with es := es }))[j]? = some (some y) := by rw [List.getElem?_set_ne hij]; exact hy
  obtain ⟨bj, uj, hbj, huj⟩ := h1.1.block hy1
  have h2 := h1.1.turn1 (j := 10) (val := .int .i64 ((y.named : Int) + 1)) (y := { y with named := y.named + 1 }) hy1 hbj huj (by simp [Nd.cells]) rfl { hoy.mono (Nat.le_succ c) with na := Nat.succ_le_succ hoy.na }
  have hy2 : ((T.set i (some { x with es := es })).set j (some { y with named := y.named + 1 }))[j]? = some (some { y with named := y.named + 1 }) := List.getElem?_set_self (by simpa using hjl)
  obtain ⟨uj2, huj2⟩ := h2.1.nd j _ bj hy2 hbj
  have h3 := h2.1.turn1 (j := 9) (val := .int .i64 ((i : Int) + 1)) (y := { y with named := y.named + 1, up := i + 1 }) hy2 hbj huj2 (by simp [Nd.cells]) rfl { hoy.mono (Nat.le_succ c) with na := Nat.succ_le_succ hoy.na, up := by simp; omega }
  rw [List.set_set] at h3
  have st := (TStep.of h1 (by simp)).trans (TStep.of h2 (by simp))
  refine ⟨bj, nat_live h1.1 hc hy1 hbj, huj.cs.c1, huj.cs.c9, huj.cs.c10, huj.blk.free, by have := hoy.na; omega, fun hk => ⟨rfl, es, hp.perm, ?_⟩, fun hk => ⟨rfl, es, hp.perm, ?_⟩⟩
  · simpa [hk] using st
  · simpa [hk] using st.trans (TStep.of h3 (by simp))
set_option maxRecDepth 100000 in
set_option maxHeartbeats 4000000 in
theorem put_any {S : Nat → Prop} {w : World} {t c : Nat} {bs : List Nat} {T : List (Option Nd)} (h : TR S w t c bs T) (hc : c + 1 ≤ 100000) {i j : Nat} {x y : Nd} (hx : T[i]? = some (some x)) (hy : T[j]? = some (some y)) (hij : i ≠ j) (s : ByteArray) (hs : s.size ≤ 5000) :
    Calls Tryz.prog 94 #[.pointer (some ⟨t, 0, none⟩), .int .i64 ((i : Int) + 1), .string s, .int .i64 ((j : Int) + 1)] w (PutP S t (c + 1) bs T i j x y s w) := by
  obtain ⟨M, p, v, h⟩ := h
  obtain ⟨b, u, hb, hu⟩ := h.block hx
  have C1 := nat_live h (by omega) hx hb
  have HT := Lib.hid h
  have HX := Lib.hid (And.intro hx (And.intro hb (And.intro hy hu)))
  have c8 := hu.cs.c8
  have bl := hu.blk.lt
  have ho := h.ok i x hx
  have hel := ho.el
  have htl := h.tl
  have hil := (List.getElem?_eq_some_iff.1 hx).1
  have hjl := (List.getElem?_eq_some_iff.1 hy).1
  obtain ⟨ua, uc, rfl⟩ := hu.row.value
  obtain ⟨f1, o1, cap1, w1, r1, r2, r3, r4⟩ := ent_copy (ty := 108) hu.row rfl (by omega)
  obtain ⟨f2, o2, cap2, w2, s1, s2, s3, s4⟩ := ent_more (ty := 108) (fs := [(s, j + 1)]) (m := 1) (c := 1) (a := some ⟨w1.heap.size, 0, none⟩) (r2.alloc (.cells #[.string s, .int .i64 ((j : Int) + 1)] 188)) rfl (.inl ⟨_, rfl, by rw [show erows [(s, j + 1)] = [.string s, .int .i64 ((j : Int) + 1)] from by simp [erows]]; exact new_cells w1 [.string s, .int .i64 ((j : Int) + 1)] 188⟩) rfl (by omega) (by have := r3.size; simp; omega)
  have HTL : Hid (∀ V es, PuI w V b i x (.slice (some ⟨f2, o2, none⟩) (x.es.length + 1) cap2) (x.es ++ [(s, j + 1)]) es → ∃ bj, PutT S t c bs T i j x y s w V bj) := Lib.hid fun V es hp => put_tail h hc hx hy hij hs hb hu hp
  have HR1 := Lib.hid r1
  have HR2 := Lib.hid s1
  have b2 : Below w.heap.size w w2 := (r3.alloc r3.size (.cells #[.string s, .int .i64 ((j : Int) + 1)] 188)).trans (s3.mono (Nat.le_refl _))
  have hb2 : Blk w2 b 110 (x.cells (i + 1) (.slice ua x.es.length uc)) := hu.blk.below b2
  have d8 := hb2.cell 8
  have df := hb2.free 8
  have HP : Hid (PuI w (w2.setCell ⟨b, 8, none⟩ (.slice (some ⟨f2, o2, none⟩) (x.es.length + 1) cap2)) b i x (.slice (some ⟨f2, o2, none⟩) (x.es.length + 1) cap2) (x.es ++ [(s, j + 1)]) (x.es ++ [(s, j + 1)])) := Lib.hid ⟨by simpa [Nd.cells] using hb2.set 8 (.slice (some ⟨f2, o2, none⟩) (x.es.length + 1) cap2), by
      rw [List.length_append]
      refine s2.kept fun k hk => ?_
      cases hk
      exact Below.heap_setCell _ _ _ _ (by simp; omega), (Frm.of_below b2).setCell (by simp) _, List.Perm.refl _⟩
  clear h hx hb hu hy ho r1 r2 r3 s1 s2 s3 hb2 b2
  go_enter Tryz.func94, Tryz.ntmps94
  go_upto_region 1 with (first | (go_at_call 37; refine C1.mono ?_; rintro e w' ⟨rfl, rfl⟩))
  go_upto_region 2 with (first | (at_builtin; go_must (first | (refine wpList_append_run rfl (.tmp 15) (.tmp 19) 108 rfl HR1.out ?_) | (refine wpList_append_run rfl (.tmp 20) (.tmp 24) 108 rfl HR2.out ?_))))
  generalize w2.setCell ⟨b, 8, none⟩ (.slice (some ⟨f2, o2, none⟩) (x.es.length + 1) cap2) = W at HP ⊢
  obtain ⟨fs, hfs⟩ : ∃ fs, x.es ++ [(s, j + 1)] = fs := ⟨_, rfl⟩
  have hfl : fs.length = x.es.length + 1 := by rw [← hfs]; simp
  have HFS := Lib.hid hfs
  rw [hfs] at HP HTL
  clear d8 df c8 HR1 HR2 hfs C1
  have e8 : W.cell? ⟨b, 8, none⟩ = some (.slice (some ⟨f2, o2, none⟩) (x.es.length + 1) cap2) := HP.out.blk.cell 8
  go_wp2_with fail
  go_loopw [9] (fun kv wr => ∃ k : Nat, k ≤ x.es.length ∧ kv = .int .i64 k ∧ Hid (∃ es, PuI w' wr b i x (.slice (some ⟨f2, o2, none⟩) (x.es.length + 1) cap2) fs es)) (fun kv _ => (intOf kv).toNat)
  case atStart => exact ⟨x.es.length, by omega, by go_num, Lib.hid ⟨_, HP.out⟩⟩
  case round =>
    obtain ⟨k, hk, rfl, HI⟩ := hrel
    obtain ⟨es, HI⟩ := HI.out
    have HI := Lib.hid HI
    have hel2 : es.length = x.es.length + 1 := by rw [HI.out.perm.length_eq, hfl]
    have g8 : wr.cell? ⟨b, 8, none⟩ = some (.slice (some ⟨f2, o2, none⟩) (x.es.length + 1) cap2) := HI.out.blk.cell 8
    by_cases hk0 : 0 < k
    · obtain ⟨k', rfl⟩ : ∃ k', k = k' + 1 := ⟨k - 1, by omega⟩
      have e1 : es[k']? = some es[k'] := List.getElem?_eq_getElem (by omega)
      have e2 : es[k' + 1]? = some es[k' + 1] := List.getElem?_eq_getElem (by omega)
      generalize es[k'] = x1 at e1
      generalize es[k' + 1] = x2 at e2
      obtain ⟨q1, q2⟩ := HI.out.entry hel2 e1
      obtain ⟨q3, q4⟩ := HI.out.entry hel2 e2
      have k0 : (0 : Int) < ((k' + 1 : Nat) : Int) := by omega
      have k1 : ((k' + 1 : Nat) : Int) - 1 = (k' : Int) := by omega
      have k2 : (0 : Int) ≤ (k' : Int) := by omega
      have k3 : (k' : Int) < (x.es.length : Int) + 1 := by omega
      have k4 : (k' : Int) + 1 < (x.es.length : Int) + 1 := by omega
      have k5 : (0 : Int) ≤ (k' : Int) + 1 := by omega
      have k6 : IntKind.i64.wrap (k' : Int) = (k' : Int) := by rw [IntWalk.i64_left]; exact IntWalk.wrap64_in _ ⟨by omega, by omega⟩
      have HE := Lib.hid (And.intro e1 e2)
      clear e1 e2
      go_upto_region 3 with fail
      go_quiet (fail)
      have HI2 := Lib.hid (HI.out.drewN nq)
      generalize wr.drewN nq = V at HI2 ⊢
      have g8 : V.cell? ⟨b, 8, none⟩ = some (.slice (some ⟨f2, o2, none⟩) (x.es.length + 1) cap2) := HI2.out.blk.cell 8
      obtain ⟨q1, q2⟩ := HI2.out.entry hel2 HE.out.1
      obtain ⟨q3, q4⟩ := HI2.out.entry hel2 HE.out.2
      have vf : ∀ j, V.frozen? ⟨f2, j, none⟩ = false := by
        obtain ⟨cur, hcur⟩ := HI2.out.row.blkOf (f := f2) rfl
        exact hcur.free
      obtain ⟨bj, HT2⟩ := HTL.out V es HI2.out
      have HT2 := Lib.hid HT2
      go_upto_region 5 with fail
      · have HSW := Lib.hid (HI2.out.swap hel2 bl HE.out.1 HE.out.2)
        go_region
        go_wp2_with fail
        go_roundw
        case rel => exact ⟨k', by omega, by go_num, _, HSW.out⟩
        case measure => simp [intOf]
      · refine HT2.out.call.mono ?_
        rintro e w6 ⟨rfl, rfl⟩
        have y1 := HT2.out.c1
        have y9 := HT2.out.c9
        have y10 := HT2.out.c10
        have yf := HT2.out.fr
        have yn := HT2.out.na
        by_cases hky : y.kind = 1
        · have hkb : (y.kind == 1) = true := by simp [hky]
          go_wp2_with fail
          go_end0
          exact HT2.out.yes hky
        · have hkb : (y.kind == 1) = false := by simp [hky]
          go_wp2_with fail
          go_end0
          exact HT2.out.no hky
    · obtain rfl : k = 0 := by omega
      have k0 : ¬ (0 : Int) < ((0 : Nat) : Int) := by omega
      go_upto_region 3 with fail
      go_quiet (fail)
      have HI2 := Lib.hid (HI.out.drewN nq)
      generalize wr.drewN nq = V at HI2 ⊢
      obtain ⟨bj, HT2⟩ := HTL.out V es HI2.out
      have HT2 := Lib.hid HT2
      go_wp2_with fail
      refine HT2.out.call.mono ?_
      rintro e w6 ⟨rfl, rfl⟩
      have y1 := HT2.out.c1
      have y9 := HT2.out.c9
      have y10 := HT2.out.c10
      have yf := HT2.out.fr
      have yn := HT2.out.na
      by_cases hky : y.kind = 1
      · have hkb : (y.kind == 1) = true := by simp [hky]
        go_wp2_with fail
        go_end0
        exact HT2.out.yes hky
      · have hkb : (y.kind == 1) = false := by simp [hky]
        go_wp2_with fail
        go_end0
        exact HT2.out.no hky
end Go.Proofs.YtfjghemojnhmbaaGreat
