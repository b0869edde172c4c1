/- The tree: out. -/
import Derived.Test.YtfjghemojnhmbaaGreatTrK
import Derived.Test.YtfjghemojnhmbaaGreatTrM
namespace Go.Proofs.YtfjghemojnhmbaaGreat
open Go.RowKit

theorem erows_take (l : List (ByteArray × Nat)) (k : Nat) : erows (l.take k) = (erows l).take (k * 2) := by
  induction l generalizing k with
  | nil => simp [erows]
  | cons y l ih =>
    cases k with
    | zero => simp [erows]
    | succ k =>
      have := ih k
      simp only [erows, List.take_succ_cons, List.map_cons, List.flatten_cons] at this ⊢
      rw [this, show (k + 1) * 2 = k * 2 + 1 + 1 from by omega]
      simp
theorem erows_drop (l : List (ByteArray × Nat)) (k : Nat) : erows (l.drop k) = (erows l).drop (k * 2) := by
  induction l generalizing k with
  | nil => simp [erows]
  | cons y l ih =>
    cases k with
    | zero => simp [erows]
    | succ k =>
      have := ih k
      simp only [erows, List.drop_succ_cons, List.map_cons, List.flatten_cons] at this ⊢
      rw [this, show (k + 1) * 2 = k * 2 + 1 + 1 from by omega]
      simp
/-- A node that one name less has. -/
def Nd.less (y : Nd) (j : Nat) : Nd := { y with named := y.named - 1, up := if y.kind = 1 then j + 1 else y.up }
def outT (T : List (Option Nd)) (i j k : Nat) (x y : Nd) : List (Option Nd) := reapT ((T.set i (some { x with es := x.es.eraseIdx k })).set j (some (y.less j))) j (y.less j)
def OutP (S : Nat → Prop) (t c : Nat) (bs : List Nat) (T' : List (Option Nd)) (w : World) (e : Ending) (w' : World) : Prop := e = .returned (.tuple #[]) ∧ ∃ S', TStep S S' t c bs w w' T'
/-- Behind the entry's going. -/
structure OutB (S : Nat → Prop) (t c : Nat) (bs : List Nat) (T' : List (Option Nd)) (j : Nat) (y : Nd) (w V : World) (bj : Nat) : Prop where
  call : Calls Tryz.prog 37 #[.pointer (some ⟨t, 0, none⟩), .int .i64 ((j : Int) + 1)] V fun e w' => e = .returned (.pointer (some ⟨bj, 0, none⟩)) ∧ w' = V
  c1 : V.cell? ⟨bj, 1, none⟩ = some (.int .i64 y.kind)
  c9 : V.cell? ⟨bj, 9, none⟩ = some (.int .i64 y.up)
  c10 : V.cell? ⟨bj, 10, none⟩ = some (.int .i64 y.named)
  fr : ∀ k, V.frozen? ⟨bj, k, none⟩ = false
  na : y.named ≤ 100000
  no : y.kind ≠ 1 → Calls Tryz.prog 45 #[.pointer (some ⟨t, 0, none⟩), .int .i64 ((j : Int) + 1)] (V.setCell ⟨bj, 10, none⟩ (.int .i64 ((y.named : Int) - 1))) fun e w' => e = .returned (.tuple #[]) ∧ OutP S t c bs T' w (.returned (.tuple #[])) w'
  yes : y.kind = 1 → Calls Tryz.prog 45 #[.pointer (some ⟨t, 0, none⟩), .int .i64 ((j : Int) + 1)] ((V.setCell ⟨bj, 10, none⟩ (.int .i64 ((y.named : Int) - 1))).setCell ⟨bj, 9, none⟩ (.int .i64 ((j : Int) + 1))) fun e w' => e = .returned (.tuple #[]) ∧ OutP S t c bs T' w (.returned (.tuple #[])) w'
theorem out_tail {S : Nat → Prop} {w V : World} {t c : Nat} {M : Int} {p : Nat} {v u V2 : Value} {bs : List Nat} {T : List (Option Nd)} {i j b k : Nat} {x y : Nd} (h : TreeAt S w t c M p v bs T) (hc : c ≤ 100000) (hx : T[i]? = some (some x)) (hy : T[j]? = some (some y)) (hij : i ≠ j) (hn1 : 1 ≤ y.named) (hb : bs[i]? = some b) (hu : NdAt S w b (i + 1) x u)
    (hp : Blk V b 110 (x.cells (i + 1) V2)) (hr : Win V w.heap.size 188 2 V2 (x.es.eraseIdx k).length (erows (x.es.eraseIdx k))) (hf : Frm [b] w V) : ∃ bj, OutB S t c bs (outT T i j k x y) j y w V bj := by
  have hjl := (List.getElem?_eq_some_iff.1 hy).1
  have htl := h.tl
  have ho := h.ok i x hx
  have hoy := h.ok j y hy
  have h1 := h.turn (y := { x with es := x.es.eraseIdx k }) (u' := V2) (S' := S) (w' := V) hx hb hf (fun _ h => h) ⟨hp, hu.own, hr.of_base' (Nat.zero_le _)⟩
    { ho with
      el := Nat.le_trans (List.length_eraseIdx_le _ _) ho.el
      eo := fun e he => ho.eo e (List.mem_of_mem_eraseIdx he) }
  have hy1 : (T.set i (some { x with es := x.es.eraseIdx k }))[j]? = some (some y) := by rw [List.getElem?_set_ne hij]; exact hy
  obtain ⟨bj, uj, hbj, huj⟩ := h1.1.block hy1
  have e10 : (((y.named - 1 : Nat)) : Int) = (y.named : Int) - 1 := by omega
  have h2 := h1.1.turn1 (j := 10) (val := .int .i64 ((y.named : Int) - 1)) (y := { y with named := y.named - 1 }) hy1 hbj huj (by simp [Nd.cells, e10]) rfl { hoy with na := Nat.le_trans (Nat.sub_le _ _) hoy.na }
  have hy2 : ((T.set i (some { x with es := x.es.eraseIdx k })).set j (some { y with named := y.named - 1 }))[j]? = some (some { y with named := y.named - 1 }) := List.getElem?_set_self (by simpa using hjl)
  obtain ⟨uj2, huj2⟩ := h2.1.nd j _ bj hy2 hbj
  have h3 := h2.1.turn1 (j := 9) (val := .int .i64 ((j : Int) + 1)) (y := { y with named := y.named - 1, up := j + 1 }) hy2 hbj huj2 (by simp [Nd.cells]) rfl { hoy with na := Nat.le_trans (Nat.sub_le _ _) hoy.na, up := by simp; omega }
  rw [List.set_set] at h3
  have st := (TStep.of h1 (by simp)).trans (TStep.of h2 (by simp))
  refine ⟨bj, nat_live h1.1 hc hy1 hbj, huj.cs.c1, huj.cs.c9, huj.cs.c10, huj.blk.free, by have := hoy.na; omega, fun hk => ?_, fun hk => ?_⟩
  · have e : y.less j = { y with named := y.named - 1 } := by simp [Nd.less, hk]
    refine (reap_any h2.1.tr hc hy2).mono ?_
    rintro e' w' ⟨rfl, S', hs⟩
    refine ⟨rfl, rfl, S', ?_⟩
    rw [outT, e]
    exact st.trans hs
  · have e : y.less j = { y with named := y.named - 1, up := j + 1 } := by simp [Nd.less, hk]
    refine (reap_any h3.1.tr hc (List.getElem?_set_self (by simpa using hjl))).mono ?_
    rintro e' w' ⟨rfl, S', hs⟩
    refine ⟨rfl, rfl, S', ?_⟩
    rw [outT, e]
    exact (st.trans (TStep.of h3 (by simp))).trans hs
set_option maxRecDepth 100000 in
set_option maxHeartbeats 4000000 in
theorem out_any {S : Nat → Prop} {w : World} {t c : Nat} {bs : List Nat} {T : List (Option Nd)} (h : TR S w t c bs T) (hc : c ≤ 100000) {i j k : Nat} {x y : Nd} {s s' : ByteArray} (hx : T[i]? = some (some x)) (hk : First x.es s k (s', j + 1)) (hy : T[j]? = some (some y)) (hij : i ≠ j) (hn : 1 ≤ y.named) :
    Calls Tryz.prog 110 #[.pointer (some ⟨t, 0, none⟩), .int .i64 ((i : Int) + 1), .string s] w (OutP S t c bs (outT T i j k x y) w) := by
  obtain ⟨M, p, v, h⟩ := h
  obtain ⟨b, u, hb, hu⟩ := h.block hx
  have C1 := nat_live h (by omega) hx hb
  have ho := h.ok i x hx
  have hel := ho.el
  have C2 : Calls Tryz.prog 92 #[.pointer (some ⟨b, 0, none⟩), .string s] w fun e w' => e = .returned (.int .i64 k) ∧ w' = w := (find_any hu (by omega) s).mono (by
    rintro e w' ⟨hw, ⟨hno, _⟩ | ⟨k', f, hf, rfl⟩⟩
    · exact (hk.no hno).elim
    · obtain ⟨rfl, _⟩ := hk.inj hf
      exact ⟨rfl, hw⟩)
  have HT := Lib.hid h
  have HX := Lib.hid (And.intro hx (And.intro hb (And.intro hy hu)))
  have c8 := hu.cs.c8
  have bl := hu.blk.lt
  have htl := h.tl
  have hil := (List.getElem?_eq_some_iff.1 hx).1
  have hjl := (List.getElem?_eq_some_iff.1 hy).1
  have hkl := (List.getElem?_eq_some_iff.1 hk.at_).1
  obtain ⟨f, o, cap, q1, q2, q3⟩ := hu.entry hk.at_
  subst q1
  have q3 : w.cell? ⟨f, o + k * 2 + 1, none⟩ = some (.int .i64 ((j : Int) + 1)) := by rw [q3]; simp
  have hroom := hu.row.room
  have HK := Lib.hid hk
  have k0 : (0 : Int) ≤ (k : Int) := by omega
  have k1 : (k : Int) < (x.es.length : Int) := by omega
  have k2 : (k : Int) ≤ (x.es.length : Int) := by omega
  have k3 : (x.es.length : Int) ≤ (cap : Int) := by omega
  have k4 : (k : Int) ≤ (cap : Int) := by omega
  have k5 : (k : Int) + 1 ≤ (x.es.length : Int) := by omega
  have k6 : (0 : Int) ≤ (k : Int) + 1 := by omega
  have k7 : (cap : Int) ≤ 9223372036854775807 := by have := hroom.2; unfold maxLen at this; omega
  have k8 : ¬ (k : Int) < 0 := by omega
  obtain ⟨f1, o1, cap1, w1, r1, r2, r3, r4⟩ := ent_more (w := w.drew.alloc (.cells #[] 188)) (B := w.drew.heap.size) (ty := 108) (f := w.drew.heap.size) (o := 0) (n := 0) (cap := 0) (es := []) (fs := x.es.take k) (m := k) (c := cap) (a := some ⟨f, o, none⟩) (Win.empty w.drew 188 2) rfl (by
    have := ((hu.row.below (Below.refl _ _).drew).alloc (.cells #[] 188)).src (m := k) (by omega) (c := cap) (by simp)
    rwa [← erows_take] at this) (by simp; omega) (by omega) (by simp)
  rw [Nat.zero_add] at r1 r2
  have u1 : NdAt S w1 b (i + 1) x (.slice (some ⟨f, o, none⟩) x.es.length cap) := hu.fr (T := []) (fun _ h => h) (Fr.of_below (S := S) (((Below.refl w.heap.size w).drew.alloc (Nat.le_refl _) _).trans r3)) (by simp) (by simp)
  obtain ⟨ad, had, hsrc⟩ : ∃ ad, (if cap = k + 1 then (some ⟨f, o, none⟩ : Option Addr) else some ⟨f, o + (k + 1) * 2, none⟩) = some ⟨f, ad, none⟩ ∧ ∀ j u, (erows (x.es.drop (k + 1)))[j]? = some u → w1.cell? ((⟨f, ad, none⟩ : Addr).add j) = some u := by
    by_cases hcap : cap = k + 1
    · refine ⟨o, by rw [if_pos hcap], fun j u hj => ?_⟩
      have : x.es.drop (k + 1) = [] := List.drop_eq_nil_of_le (by omega)
      rw [this] at hj
      simp [erows] at hj
    · refine ⟨o + (k + 1) * 2, by rw [if_neg hcap], fun j u hj => ?_⟩
      have hc := u1.row.cut (k + 1) (by omega)
      rw [← erows_drop] at hc
      have hl := (List.getElem?_eq_some_iff.1 hj).1
      rw [erows_len, List.length_drop] at hl
      rw [Addr.add_mid]
      exact (hc.cells j hl).trans hj
  obtain ⟨f2, o2, cap2, w2, s1, s2, s3, s4⟩ := ent_more (w := w1) (B := w.drew.heap.size) (ty := 108) (f := f1) (o := o1) (n := k) (cap := cap1) (es := [] ++ x.es.take k) (fs := x.es.drop (k + 1)) (m := x.es.length - (k + 1)) (c := cap - (k + 1)) (a := some ⟨f, ad, none⟩) r2 (by simp; omega) (.inl ⟨_, rfl, hsrc⟩) (by simp) (by omega) (by have := r3.size; simp at this; show w.heap.size ≤ _; omega)
  have e0 : k + (x.es.length - (k + 1)) = x.es.length - 1 := by omega
  have e1 : [] ++ x.es.take k ++ x.es.drop (k + 1) = x.es.eraseIdx k := by rw [List.nil_append, List.eraseIdx_eq_take_drop_succ]
  rw [e0] at s1 s2
  rw [e1] at s2
  have hw : IntKind.i64.wrap ((k : Int) + 1) = (k : Int) + 1 := by rw [IntWalk.i64_left]; exact IntWalk.wrap64_in _ ⟨by omega, by omega⟩
  have b2 : Below w.heap.size w w2 := (((Below.refl w.heap.size w).drew.alloc (Nat.le_refl _) _).trans r3).trans s3
  have hb2 : Blk w2 b 110 (x.cells (i + 1) (.slice (some ⟨f, o, none⟩) x.es.length cap)) := hu.blk.below b2
  have g8 : w2.cell? ⟨b, 8, none⟩ = some (.slice (some ⟨f, o, none⟩) x.es.length cap) := hb2.cell 8
  have gf := hb2.free 8
  obtain ⟨bj, hob⟩ := out_tail (V := w2.setCell ⟨b, 8, none⟩ (.slice (some ⟨f2, o2, none⟩) (x.es.length - 1) cap2)) (V2 := .slice (some ⟨f2, o2, none⟩) (x.es.length - 1) cap2) (k := k) h hc hx hy hij hn hb hu (by simpa [Nd.cells] using hb2.set 8 (.slice (some ⟨f2, o2, none⟩) (x.es.length - 1) cap2)) (by
    rw [List.length_eraseIdx_of_lt hkl]
    refine s2.kept fun k hk => ?_
    cases hk
    exact Below.heap_setCell _ _ _ _ (by have := (s2.lt f2 rfl).1; simp; show f2 ≠ b; have : w.drew.heap.size = w.heap.size := rfl; omega)) ((Frm.of_below b2).setCell (by simp) _)
  have y1 := hob.c1
  have y9 := hob.c9
  have y10 := hob.c10
  have yf := hob.fr
  have yn := hob.na
  have HO := Lib.hid hob
  have HR1 := Lib.hid r1
  have HR2 := Lib.hid s1
  have d8 : w1.cell? ⟨b, 8, none⟩ = some (.slice (some ⟨f, o, none⟩) x.es.length cap) := u1.cs.c8
  clear h hx hb hu hy ho hk q2 r1 r2 r3 u1 s1 s2 s3 hsrc b2 hb2 hob
  go_enter Tryz.func110, Tryz.ntmps110
  go_upto_region 3 with (first | (go_at_call 37; refine C1.mono ?_; rintro e w' ⟨rfl, rfl⟩) | (go_at_call 92; refine C2.mono ?_; rintro e w' ⟨rfl, rfl⟩))
  generalize hW : w2.setCell ⟨b, 8, none⟩ (.slice (some ⟨f2, o2, none⟩) (x.es.length - 1) cap2) = W at HO y1 y9 y10 yf
  have HWW := Lib.hid hW
  clear hW
  go_region_law (first | (refine step_append_run rfl (.tmp 25) (.tmp 31) 108 rfl HR1.out ?_) | (refine step_append_run rfl (.tmp 32) (.tmp 39) 108 rfl HR2.out ?_))
  all_goals
    rw [HWW.out]
    clear g8 gf
    by_cases hky : y.kind = 1
    · have hkb : (y.kind == 1) = true := by simp [hky]
      go_wp2_with (first | (go_at_call 37; refine HO.out.call.mono ?_; rintro e w5 ⟨rfl, rfl⟩) | (go_at_call 45; refine (HO.out.yes hky).mono ?_; rintro e w6 ⟨rfl, hfin⟩; have HF := Lib.hid hfin; clear hfin))
      go_end0
      exact HF.out
    · have hkb : (y.kind == 1) = false := by simp [hky]
      go_wp2_with (first | (go_at_call 37; refine HO.out.call.mono ?_; rintro e w5 ⟨rfl, rfl⟩) | (go_at_call 45; refine (HO.out.no hky).mono ?_; rintro e w6 ⟨rfl, hfin⟩; have HF := Lib.hid hfin; clear hfin))
      go_end0
      exact HF.out
end Go.Proofs.YtfjghemojnhmbaaGreat
/- The tree's law is kept: a name more, a name less. -/
namespace Go.Proofs.YtfjghemojnhmbaaGreat
open Go.RowKit

theorem countP_erase {α : Type} (p : α → Bool) : ∀ (l : List α) (k : Nat) (e : α), l[k]? = some e → (l.eraseIdx k).countP p + (if p e then 1 else 0) = l.countP p
  | [], k, e, h => by simp at h
  | a :: l, 0, e, h => by
    simp at h; subst h
    simp [List.countP_cons]
  | a :: l, k + 1, e, h => by
    have := countP_erase p l k e (by simpa using h)
    simp only [List.eraseIdx_cons_succ, List.countP_cons]
    omega
theorem mem_erase {α : Type} : ∀ (l : List α) (k : Nat) (e f : α), l[k]? = some e → f ∈ l → f ≠ e → f ∈ l.eraseIdx k
  | [], k, e, f, h, _, _ => by simp at h
  | a :: l, 0, e, f, h, hf, hne => by
    simp at h; subst h
    rcases List.mem_cons.1 hf with rfl | h'
    · exact absurd rfl hne
    · simpa using h'
  | a :: l, k + 1, e, f, h, hf, hne => by
    rcases List.mem_cons.1 hf with rfl | h'
    · simp
    · simp [mem_erase l k e f (by simpa using h) h' hne]
theorem TInv.named {T : List (Option Nd)} {R : Nat → Nat} {ex : Option Nat} {i j k : Nat} {x y : Nd} {s : ByteArray} (h : TInv T R ex) (hx : T[i]? = some (some x)) (hk : x.es[k]? = some (s, j + 1)) (hy : T[j]? = some (some y)) : 1 ≤ y.named ∧ i ≠ j ∧ x.kind = 1 := by
  have hm := List.mem_of_getElem? hk
  have h1 := cnt_pos T (j + 1) ⟨i, x, _, hx, hm, rfl⟩
  have h2 := h.na j y hy
  have h3 := h.ns i x _ hx hm
  refine ⟨by omega, fun e => h3 (by simp [e]), ?_⟩
  apply Classical.byContradiction
  intro hn
  rw [h.fd i x hx hn] at hm
  cases hm
/-- A name less. -/
theorem TInv.out {T : List (Option Nd)} {R : Nat → Nat} {i j k : Nat} {x y : Nd} {s : ByteArray} (h : TInv T R none) (hx : T[i]? = some (some x)) (hk : x.es[k]? = some (s, j + 1)) (hy : T[j]? = some (some y)) {ex : Option Nat} (hex : y.es = [] ∨ ex = some j) :
    TInv ((T.set i (some { x with es := x.es.eraseIdx k })).set j (some (y.less j))) R ex := by
  obtain ⟨hn, hij, hkx⟩ := h.named hx hk hy
  have hm := List.mem_of_getElem? hk
  have hy1 : (T.set i (some { x with es := x.es.eraseIdx k }))[j]? = some (some y) := by rw [set_get (by omega)]; exact hy
  have hexm : ∀ m, m ≠ j → some m ≠ (none : Option Nat) := fun m _ => by simp
  have hc : ∀ k', cnt ((T.set i (some { x with es := x.es.eraseIdx k })).set j (some (y.less j))) k' + (if j + 1 = k' then 1 else 0) = cnt T k' := fun k' => by
    have h1 := cnt_set T i (some x) (some { x with es := x.es.eraseIdx k }) k' hx
    have h2 := cnt_set (T.set i (some { x with es := x.es.eraseIdx k })) j (some y) (some (y.less j)) k' hy1
    have h3 := countP_erase (fun e : ByteArray × Nat => e.2 == k') x.es k _ hk
    simp only [namesOf] at h1 h2
    have e : (y.less j).es = y.es := rfl
    rw [e] at h2
    simp only [beq_iff_eq] at h3
    omega
  have was : ∀ (m : Nat) (z : Nd), ((T.set i (some { x with es := x.es.eraseIdx k })).set j (some (y.less j)))[m]? = some (some z) → (m = j ∧ z = y.less j) ∨ (m = i ∧ m ≠ j ∧ z = { x with es := x.es.eraseIdx k }) ∨ (m ≠ i ∧ m ≠ j ∧ T[m]? = some (some z)) := by
    intro m z hz
    rcases get_set hz with ⟨q, e, _⟩ | ⟨q, hz⟩
    · cases e; exact .inl ⟨q, rfl⟩
    · rcases get_set hz with ⟨q2, e, _⟩ | ⟨q2, hz⟩
      · cases e; exact .inr (.inl ⟨q2, q, rfl⟩)
      · exact .inr (.inr ⟨q2, q, hz⟩)
  have atj : ((T.set i (some { x with es := x.es.eraseIdx k })).set j (some (y.less j)))[j]? = some (some (y.less j)) := set_self hy1
  have ati : ((T.set i (some { x with es := x.es.eraseIdx k })).set j (some (y.less j)))[i]? = some (some { x with es := x.es.eraseIdx k }) := by rw [set_get hij]; exact set_self hx
  have ato : ∀ m, m ≠ i → m ≠ j → ((T.set i (some { x with es := x.es.eraseIdx k })).set j (some (y.less j)))[m]? = T[m]? := fun m h1 h2 => by rw [set_get h2, set_get h1]
  generalize hT : (T.set i (some { x with es := x.es.eraseIdx k })).set j (some (y.less j)) = T2 at *
  -- entries that stay
  have stay : ∀ (p : Nat) (z : Nd) (e : ByteArray × Nat), T[p]? = some (some z) → e ∈ z.es → e.2 ≠ j + 1 → ∃ z', T2[p]? = some (some z') ∧ e ∈ z'.es := by
    intro p z e hz he hne
    by_cases h1 : p = i
    · subst h1
      rw [hx] at hz; cases hz
      exact ⟨_, ati, mem_erase _ _ _ _ hk he (by rintro rfl; exact hne rfl)⟩
    · by_cases h2 : p = j
      · subst h2
        rw [hy] at hz; cases hz
        exact ⟨_, atj, he⟩
      · exact ⟨z, by rw [ato p h1 h2]; exact hz, he⟩
  have live : ∀ (p : Nat) (z : Nd), T[p]? = some (some z) → ∃ z', T2[p]? = some (some z') ∧ z'.kind = z.kind ∧ z'.held = z.held ∧ (p ≠ j → z'.up = z.up) := by
    intro p z hz
    by_cases h1 : p = i
    · subst h1
      rw [hx] at hz; cases hz
      exact ⟨_, ati, rfl, rfl, fun _ => rfl⟩
    · by_cases h2 : p = j
      · subst h2
        rw [hy] at hz; cases hz
        exact ⟨_, atj, rfl, rfl, fun h => absurd rfl h⟩
      · exact ⟨z, by rw [ato p h1 h2]; exact hz, rfl, rfl, fun _ => rfl⟩
  have old : ∀ (m : Nat) (z : Nd), T2[m]? = some (some z) → ∃ z', T[m]? = some (some z') ∧ z'.kind = z.kind ∧ (∀ e, e ∈ z.es → e ∈ z'.es) ∧ (m ≠ j → z'.up = z.up ∧ z'.named = z.named) := by
    intro m z hz
    rcases was m z hz with ⟨rfl, rfl⟩ | ⟨rfl, _, rfl⟩ | ⟨_, _, q⟩
    · exact ⟨y, hy, rfl, fun _ h => h, fun h => absurd rfl h⟩
    · exact ⟨x, hx, rfl, fun e he => List.mem_of_mem_eraseIdx he, fun _ => ⟨rfl, rfl⟩⟩
    · exact ⟨z, q, rfl, fun _ h => h, fun _ => ⟨rfl, rfl⟩⟩
  have hends : ∀ {d p : Nat}, Ends T d p → ∃ d', Ends T2 d' p := fun hd => Ends.like (fun m => m = j) (fun a b hb hkb hp => by obtain ⟨b', g1, g2, _, g4⟩ := live a b hb; exact ⟨b', g1, g2.trans hkb, g4 hp⟩) (fun a d ha hd => by
    subst ha
    obtain ⟨a', z, e1, e2, e3⟩ := hd.live
    obtain rfl : a = a' := by omega
    rw [hy] at e2; cases e2
    exact ⟨0, .stop atj e3 (by simp [Nd.less, e3])⟩) hd
  refine ⟨?_, ?_, ?_, ?_, ?_, ?_, ?_, ?_, ?_⟩
  · obtain ⟨z, hz, hkz⟩ := h.root
    obtain ⟨z', q, q1, _⟩ := live 0 z hz
    exact ⟨z', q, q1.trans hkz⟩
  · intro m z e hz he
    obtain ⟨z', q1, _, q3, _⟩ := old m z hz
    obtain ⟨p, z2, e1, e2⟩ := h.el m z' e q1 (q3 e he)
    obtain ⟨z3, e3, _⟩ := live p z2 e2
    exact ⟨p, z3, e1, e3⟩
  · intro m z e hz he
    obtain ⟨z', q1, _, q3, _⟩ := old m z hz
    exact h.ns m z' e q1 (q3 e he)
  · intro m z hz hkz
    obtain ⟨z', q1, q2, q3, _⟩ := old m z hz
    have := h.fd m z' q1 (by rw [q2]; exact hkz)
    exact List.eq_nil_iff_forall_not_mem.2 fun e he => by have := q3 e he; rw [h.fd m z' q1 (by rw [q2]; exact hkz)] at this; cases this
  · intro m z hz
    have hcm := hc (m + 1)
    rcases was m z hz with ⟨rfl, rfl⟩ | ⟨rfl, hmj, rfl⟩ | ⟨_, hmj, q⟩
    · have := h.na m y hy
      simp only [Nd.less]
      rw [if_pos rfl] at hcm
      omega
    · have := h.na m x hx
      show cnt T2 (m + 1) ≤ x.named
      omega
    · have := h.na m z q
      omega
  · intro m z hz hexz h0 hn0
    rcases was m z hz with ⟨rfl, rfl⟩ | ⟨rfl, hmj, rfl⟩ | ⟨_, hmj, q⟩
    · rcases hex with e | e
      · exact e
      · exact absurd e.symm hexz
    · have := h.ne m x hx (by simp) h0 hn0
      show x.es.eraseIdx k = []
      rw [this]; rfl
    · exact h.ne m z q (by simp) h0 hn0
  · intro m z hz hexz hkz
    by_cases hmj : m = j
    · subst hmj
      rw [atj] at hz; cases hz
      left
      have : y.kind = 1 := hkz
      simp [Nd.less, this]
    · obtain ⟨z', q1, q2, q3, q4⟩ := old m z hz
      rcases h.up m z' q1 (by simp) (by rw [q2]; exact hkz) with e | ⟨p, z2, s', e1, e2, e3⟩
      · exact .inl ((q4 hmj).1 ▸ e)
      · obtain ⟨z3, e4, e5⟩ := stay p z2 _ e2 e3 (by simp; omega)
        exact .inr ⟨p, z3, s', (q4 hmj).1 ▸ e1, e4, e5⟩
  · intro m z hz hexz hkz
    obtain ⟨z', q1, q2, q3, q4⟩ := old m z hz
    obtain ⟨d, hd⟩ := h.ends m z' q1 (by simp) (by rw [q2]; exact hkz)
    exact hends hd
  · intro p hp
    obtain ⟨m, z, q1, q2, q3⟩ := h.refs p hp
    obtain ⟨z', e1, _, e3, _⟩ := live m z q2
    exact ⟨m, z', q1, e1, by rw [e3]; exact q3⟩
/-- A name more. -/
theorem TInv.put {T : List (Option Nd)} {R : Nat → Nat} {ex : Option Nat} {i j : Nat} {x y : Nd} {s : ByteArray} {es : List (ByteArray × Nat)} (h : TInv T R ex) (hex : ex = none ∨ ex = some j) (hx : T[i]? = some (some x)) (hkx : x.kind = 1) (hgi : i = 0 ∨ 1 ≤ x.named) (hy : T[j]? = some (some y)) (hij : i ≠ j)
    (hp : es.Perm (x.es ++ [(s, j + 1)])) (hav : y.kind = 1 → Avoid T (j + 1) (i + 1)) :
    TInv ((T.set i (some { x with es := es })).set j (some { y with named := y.named + 1, up := if y.kind = 1 then i + 1 else y.up })) R none := by
  have hy1 : (T.set i (some { x with es := es }))[j]? = some (some y) := by rw [set_get (by omega)]; exact hy
  obtain ⟨y', hy'⟩ : ∃ y' : Nd, { y with named := y.named + 1, up := if y.kind = 1 then i + 1 else y.up } = y' := ⟨_, rfl⟩
  have yk : y'.kind = y.kind := by rw [← hy']
  have ye : y'.es = y.es := by rw [← hy']
  have yn : y'.named = y.named + 1 := by rw [← hy']
  have yh : y'.held = y.held := by rw [← hy']
  have yu : y.kind = 1 → y'.up = i + 1 := fun hk => by rw [← hy']; simp [hk]
  rw [hy']
  clear hy'
  have hexm : ∀ m, m ≠ j → some m ≠ ex := fun m hm => by rcases hex with rfl | rfl <;> simp [hm]
  have hmem : ∀ e, e ∈ es ↔ e ∈ x.es ∨ e = (s, j + 1) := fun e => by rw [hp.mem_iff]; simp
  have hc : ∀ k', cnt ((T.set i (some { x with es := es })).set j (some y')) k' = cnt T k' + (if j + 1 = k' then 1 else 0) := fun k' => by
    have h1 := cnt_set T i (some x) (some { x with es := es }) k' hx
    have h2 := cnt_set (T.set i (some { x with es := es })) j (some y) (some y') k' hy1
    have h3 := hp.countP_eq (fun e : ByteArray × Nat => e.2 == k')
    simp only [namesOf, ye] at h1 h2
    simp only [List.countP_append, List.countP_cons, List.countP_nil, beq_iff_eq] at h3
    omega
  have was : ∀ (m : Nat) (z : Nd), ((T.set i (some { x with es := es })).set j (some y'))[m]? = some (some z) → (m = j ∧ z = y') ∨ (m = i ∧ m ≠ j ∧ z = { x with es := es }) ∨ (m ≠ i ∧ m ≠ j ∧ T[m]? = some (some z)) := by
    intro m z hz
    rcases get_set hz with ⟨q, e, _⟩ | ⟨q, hz⟩
    · cases e; exact .inl ⟨q, rfl⟩
    · rcases get_set hz with ⟨q2, e, _⟩ | ⟨q2, hz⟩
      · cases e; exact .inr (.inl ⟨q2, q, rfl⟩)
      · exact .inr (.inr ⟨q2, q, hz⟩)
  have atj : ((T.set i (some { x with es := es })).set j (some y'))[j]? = some (some y') := set_self hy1
  have ati : ((T.set i (some { x with es := es })).set j (some y'))[i]? = some (some { x with es := es }) := by rw [set_get hij]; exact set_self hx
  have ato : ∀ m, m ≠ i → m ≠ j → ((T.set i (some { x with es := es })).set j (some y'))[m]? = T[m]? := fun m h1 h2 => by rw [set_get h2, set_get h1]
  generalize hT : (T.set i (some { x with es := es })).set j (some y') = T2 at *
  have live : ∀ (p : Nat) (z : Nd), T[p]? = some (some z) → ∃ z', T2[p]? = some (some z') ∧ z'.kind = z.kind ∧ z'.held = z.held ∧ (p ≠ j → z'.up = z.up) ∧ ∀ e, e ∈ z.es → e ∈ z'.es := by
    intro p z hz
    by_cases h1 : p = i
    · subst h1
      rw [hx] at hz; cases hz
      exact ⟨_, ati, rfl, rfl, fun _ => rfl, fun e he => (hmem e).2 (.inl he)⟩
    · by_cases h2 : p = j
      · subst h2
        rw [hy] at hz; cases hz
        exact ⟨_, atj, yk, yh, fun h => absurd rfl h, fun e he => by rw [ye]; exact he⟩
      · exact ⟨z, by rw [ato p h1 h2]; exact hz, rfl, rfl, fun _ => rfl, fun _ h => h⟩
  have hiend : y.kind = 1 → ∃ d, Ends T2 d (i + 1) := fun hk => (hav hk).ends fun a b hb hkb hne => by
    obtain ⟨b', g1, g2, _, g4, _⟩ := live a b hb
    exact ⟨b', g1, g2.trans hkb, g4 (by omega)⟩
  have hjend : y.kind = 1 → ∃ d, Ends T2 d (j + 1) := fun hk => by
    obtain ⟨d, hd⟩ := hiend hk
    exact ⟨d + 1, .step atj (yk.trans hk) (by rw [yu hk]; omega) (by rw [yu hk]; exact hd)⟩
  have hends : ∀ {d p : Nat}, Ends T d p → ∃ d', Ends T2 d' p := fun hd => Ends.like (fun m => m = j) (fun a b hb hkb hp => by obtain ⟨b', g1, g2, _, g4, _⟩ := live a b hb; exact ⟨b', g1, g2.trans hkb, g4 hp⟩) (fun a d ha hd => by
    subst ha
    obtain ⟨a', z, e1, e2, e3⟩ := hd.live
    obtain rfl : a = a' := by omega
    rw [hy] at e2; cases e2
    exact hjend e3) hd
  refine ⟨?_, ?_, ?_, ?_, ?_, ?_, ?_, ?_, ?_⟩
  · obtain ⟨z, hz, hkz⟩ := h.root
    obtain ⟨z', q, q1, _⟩ := live 0 z hz
    exact ⟨z', q, q1.trans hkz⟩
  · intro m z e hz he
    have key : (∃ z', T[m]? = some (some z') ∧ e ∈ z'.es) ∨ e = (s, j + 1) := by
      rcases was m z hz with ⟨rfl, rfl⟩ | ⟨rfl, hmj, rfl⟩ | ⟨_, hmj, q⟩
      · exact .inl ⟨y, hy, ye ▸ he⟩
      · rcases (hmem e).1 he with q | q
        · exact .inl ⟨x, hx, q⟩
        · exact .inr q
      · exact .inl ⟨z, q, he⟩
    rcases key with ⟨z', q1, q2⟩ | rfl
    · obtain ⟨p, z2, e1, e2⟩ := h.el m z' e q1 q2
      obtain ⟨z3, e3, _⟩ := live p z2 e2
      exact ⟨p, z3, e1, e3⟩
    · exact ⟨j, y', rfl, atj⟩
  · intro m z e hz he
    rcases was m z hz with ⟨rfl, rfl⟩ | ⟨rfl, hmj, rfl⟩ | ⟨_, hmj, q⟩
    · exact h.ns m y e hy (ye ▸ he)
    · rcases (hmem e).1 he with q | rfl
      · exact h.ns m x e hx q
      · simp; omega
    · exact h.ns m z e q he
  · intro m z hz hkz
    rcases was m z hz with ⟨rfl, rfl⟩ | ⟨rfl, hmj, rfl⟩ | ⟨_, hmj, q⟩
    · rw [ye]; exact h.fd m y hy (yk ▸ hkz)
    · exact absurd hkx hkz
    · exact h.fd m z q hkz
  · intro m z hz
    rw [hc]
    rcases was m z hz with ⟨rfl, rfl⟩ | ⟨rfl, hmj, rfl⟩ | ⟨_, hmj, q⟩
    · have := h.na m y hy
      rw [if_pos rfl, yn]; omega
    · have := h.na m x hx
      rw [if_neg (by omega)]
      exact this
    · have := h.na m z q
      rw [if_neg (by omega)]
      exact this
  · intro m z hz _ h0 hn0
    rcases was m z hz with ⟨rfl, rfl⟩ | ⟨rfl, hmj, rfl⟩ | ⟨_, hmj, q⟩
    · omega
    · have : x.named = 0 := hn0
      omega
    · exact h.ne m z q (hexm m hmj) h0 hn0
  · intro m z hz _ hkz
    rcases was m z hz with ⟨rfl, rfl⟩ | ⟨rfl, hmj, rfl⟩ | ⟨_, hmj, q⟩
    · exact .inr ⟨i, _, s, yu (yk ▸ hkz), ati, (hmem _).2 (.inr rfl)⟩
    · rcases h.up m x hx (hexm m hmj) hkz with e | ⟨p, z2, s', e1, e2, e3⟩
      · exact .inl e
      · obtain ⟨z3, e4, _, _, _, e5⟩ := live p z2 e2
        exact .inr ⟨p, z3, s', e1, e4, e5 _ e3⟩
    · rcases h.up m z q (hexm m hmj) hkz with e | ⟨p, z2, s', e1, e2, e3⟩
      · exact .inl e
      · obtain ⟨z3, e4, _, _, _, e5⟩ := live p z2 e2
        exact .inr ⟨p, z3, s', e1, e4, e5 _ e3⟩
  · intro m z hz _ hkz
    rcases was m z hz with ⟨rfl, rfl⟩ | ⟨rfl, hmj, rfl⟩ | ⟨_, hmj, q⟩
    · exact hjend (yk ▸ hkz)
    · obtain ⟨d, hd⟩ := h.ends m x hx (hexm m hmj) hkz
      exact hends hd
    · obtain ⟨d, hd⟩ := h.ends m z q (hexm m hmj) hkz
      exact hends hd
  · intro p hp'
    obtain ⟨m, z, q1, q2, q3⟩ := h.refs p hp'
    obtain ⟨z', e1, _, e3, _⟩ := live m z q2
    exact ⟨m, z', q1, e1, by rw [e3]; exact q3⟩
end Go.Proofs.YtfjghemojnhmbaaGreat
