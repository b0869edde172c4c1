/- The tree: Part, Join. -/
import Derived.Test.YtfjghemojnhmbaaGreatTrL
namespace Go.Proofs.YtfjghemojnhmbaaGreat
open Go.RowKit

/-- Who is live behind was live ahead, of the same kind. -/
def KK (T T' : List (Option Nd)) : Prop := T.length ≤ T'.length ∧ ∀ (i : Nat) (x' : Nd), T'[i]? = some (some x') → i < T.length → ∃ x, T[i]? = some (some x) ∧ x.kind = x'.kind
theorem KK.refl (T : List (Option Nd)) : KK T T := ⟨Nat.le_refl _, fun _ x h _ => ⟨x, h, rfl⟩⟩
theorem KK.trans {T T1 T2 : List (Option Nd)} (h : KK T T1) (k : KK T1 T2) : KK T T2 := ⟨Nat.le_trans h.1 k.1, fun i x' h2 hl => by
  obtain ⟨x1, q1, q2⟩ := k.2 i x' h2 (Nat.lt_of_lt_of_le hl h.1)
  obtain ⟨x, r1, r2⟩ := h.2 i x1 q1 hl
  exact ⟨x, r1, r2.trans q2⟩⟩
theorem KK.set {T : List (Option Nd)} {i : Nat} {x y : Nd} (hx : T[i]? = some (some x)) (hk : y.kind = x.kind) : KK T (T.set i (some y)) := ⟨by simp, fun j z hz _ => by
  rcases get_set hz with ⟨rfl, e, _⟩ | ⟨_, q⟩
  · cases e; exact ⟨x, hx, hk.symm⟩
  · exact ⟨z, q, rfl⟩⟩
theorem KK.gone (T : List (Option Nd)) (i : Nat) : KK T (T.set i none) := ⟨by simp, fun j z hz _ => by
  rcases get_set hz with ⟨rfl, e, _⟩ | ⟨_, q⟩
  · cases e
  · exact ⟨z, q, rfl⟩⟩
theorem KK.reap (T : List (Option Nd)) (i : Nat) (x : Nd) : KK T (reapT T i x) := by
  unfold reapT; split
  · exact KK.refl T
  · exact KK.gone T i
theorem KK.push (T : List (Option Nd)) (o : Option Nd) : KK T (T ++ [o]) := ⟨by simp, fun j z hz hl => ⟨z, by rw [List.getElem?_append_left hl] at hz; exact hz, rfl⟩⟩
theorem KK.two {T : List (Option Nd)} {i j : Nat} {x x' y y' : Nd} (hx : T[i]? = some (some x)) (hy : T[j]? = some (some y)) (hij : i ≠ j) (hk : x'.kind = x.kind) (hk2 : y'.kind = y.kind) : KK T ((T.set i (some x')).set j (some y')) :=
  (KK.set hx hk).trans (KK.set (by rw [set_get (by omega)]; exact hy) hk2)
theorem KK.outT {T : List (Option Nd)} {i j k : Nat} {x y : Nd} (hx : T[i]? = some (some x)) (hy : T[j]? = some (some y)) (hij : i ≠ j) : KK T (outT T i j k x y) :=
  (KK.two hx hy hij (x' := { x with es := x.es.eraseIdx k }) (y' := y.less j) rfl rfl).trans (KK.reap _ _ _)
/-- The tree is turned, its law kept. -/
def TreeP (S : Nat → Prop) (t c : Nat) (R : Nat → Nat) (T : List (Option Nd)) (w : World) (e : Ending) (w' : World) : Prop := ∃ (code : Int) (S' : Nat → Prop) (bs' : List Nat) (T' : List (Option Nd)), e = .returned (.int .i64 code) ∧ 0 ≤ code ∧ code ≤ 64 ∧ TStep S S' t c bs' w w' T' ∧ TInv T' R none ∧ KK T T'
theorem TreeP.same {S : Nat → Prop} {t c : Nat} {R : Nat → Nat} {w w' : World} {bs : List Nat} {T : List (Option Nd)} {code : Int} (h : TR S w t c bs T) (hi : TInv T R none) (hb : Below w.heap.size w w') (h0 : 0 ≤ code) (h1 : code ≤ 64) : TreeP S t c R T w (.returned (.int .i64 code)) w' :=
  ⟨code, S, bs, T, rfl, h0, h1, TStep.same h hb, hi, KK.refl T⟩
theorem TStep.below {S S' : Nat → Prop} {t c : Nat} {bs : List Nat} {w w1 w' : World} {T' : List (Option Nd)} (hb : Below w.heap.size w w1) (h : TStep S S' t c bs w1 w' T') : TStep S S' t c bs w w' T' := by
  have := hb.size
  refine ⟨h.sub, fun k hk => (h.sup k hk).imp id fun q => by omega, (Fr.of_below (S := S) hb).trans h.fr fun _ h => .inl h, h.tr⟩
set_option maxRecDepth 100000 in
theorem part_any {S : Nat → Prop} {w : World} {t c : Nat} {bs : List Nat} {T : List (Option Nd)} {R : Nat → Nat} (h : TR S w t c bs T) (hi : TInv T R none) (hc : c ≤ 100000) (n : Int) (hn : R64 n) (s : ByteArray) :
    Calls Tryz.prog 70 #[.pointer (some ⟨t, 0, none⟩), .int .i64 n, .string s] w (TreeP S t c R T w) := by
  obtain ⟨M, p, v, h⟩ := h
  have C1 := dir_any h hc n hn
  have C2 := fnd_any h hc n hn s
  have HT := Lib.hid h
  have HI := Lib.hid hi
  have HS : Hid (∀ (code : Int) (w' : World), 0 ≤ code → code ≤ 64 → Below w.heap.size w w' → TreeP S t c R T w (.returned (.int .i64 code)) w') := Lib.hid fun code w' h0 h1 hb => .same h.tr hi hb h0 h1
  clear h hi
  go_enter Tryz.func70, Tryz.ntmps70
  go_wp2_with fail
  refine C1.mono ?_
  rintro e w' ⟨rfl, ⟨hl, rfl⟩ | ⟨i, x, b, rfl, hx, hb, hk, rfl⟩⟩
  · clear hl C2
    go_wp2_with fail
    go_ret
    exact HS.out 1 _ (by omega) (by omega) (Below.refl _ _)
  · have HX := Lib.hid (And.intro hx hk)
    clear hx hb hk
    go_wp2_with fail
    refine C2.mono ?_
    rintro e w1 ⟨hd, ⟨hno, rfl⟩ | ⟨x2, k, f, hx2, hk2, hf, rfl⟩⟩
    · have HB := Lib.hid hd.below
      clear hno hd
      go_wp2_with fail
      go_ret
      exact HS.out 32 _ (by omega) (by omega) HB.out
    · have HB := Lib.hid hd.below
      obtain rfl : x2 = x := by rw [lv_of HX.out.1] at hx2; cases hx2; rfl
      obtain ⟨j, y, hj, hy⟩ := HI.out.el i x2 f HX.out.1 (List.mem_of_getElem? hf.at_)
      obtain ⟨fs, fn⟩ := f
      simp only at hj
      subst hj
      have hfa := HI.out.named HX.out.1 hf.at_ hy
      have hT1 := HT.out.below hd.below
      obtain ⟨bj, uj, hbj, huj⟩ := hT1.block hy
      have C3 := nat_live hT1 hc hy hbj
      have C4 := out_any hT1.tr hc HX.out.1 hf hy hfa.2.1 hfa.1
      have c8 := huj.cs.c8
      obtain ⟨va, vc, rfl⟩ := huj.row.value
      have hel := (hT1.ok j y hy).el
      have HY := Lib.hid (And.intro hy (And.intro hf.at_ (And.intro hfa hT1.tr)))
      have ecast : (((j + 1 : Nat)) : Int) = (j : Int) + 1 := by omega
      rw [ecast]
      clear hd hx2 hk2 hf hy hfa hT1 hbj huj C1 C2 ecast
      by_cases hes : 0 < y.es.length
      · have k0 : (0 : Int) < (y.es.length : Int) := by omega
        go_wp2_with (first | (go_at_call 37; refine C3.mono ?_; rintro e w2 ⟨rfl, rfl⟩))
        go_ret
        exact HS.out 47 _ (by omega) (by omega) HB.out
      · have k0 : ¬ (0 : Int) < (y.es.length : Int) := by omega
        have hes0 : y.es = [] := List.eq_nil_of_length_eq_zero (by omega)
        have HF := Lib.hid ((HI.out.out HX.out.1 HY.out.2.1 HY.out.1 (.inl hes0) (ex := none)).reap (set_self (by rw [set_get (by have := HY.out.2.2.1.2.1; omega)]; exact HY.out.1)))
        clear hes0
        go_wp2_with (first | (go_at_call 37; refine C3.mono ?_; rintro e w2 ⟨rfl, rfl⟩) | (go_at_call 110; refine C4.mono ?_; rintro e w3 ⟨rfl, S', hst⟩; have HST := Lib.hid hst; clear hst))
        go_ret
        exact ⟨0, S', bs, _, rfl, by omega, by omega, TStep.below HB.out HST.out, HF.out, KK.outT HX.out.1 HY.out.1 HY.out.2.2.1.2.1⟩
set_option maxRecDepth 100000 in
theorem join_any {S : Nat → Prop} {w : World} {t c : Nat} {bs : List Nat} {T : List (Option Nd)} {R : Nat → Nat} (h : TR S w t c bs T) (hi : TInv T R none) (hc : c + 1 ≤ 100000) (n m : Int) (hn : R64 n) (hm : R64 m) (s : ByteArray) (hs : s.size ≤ 5000) :
    Calls Tryz.prog 62 #[.pointer (some ⟨t, 0, none⟩), .int .i64 n, .string s, .int .i64 m] w (TreeP S t (c + 1) R T w) := by
  obtain ⟨M, p, v, h⟩ := h
  have C1 := dir_any h (by omega) n hn
  have C2 := nat_any h (by omega) m hm
  have C3 := right_any s (by omega) w
  have HT := Lib.hid h
  have HI := Lib.hid hi
  have HS : Hid (∀ (code : Int) (w' : World), 0 ≤ code → code ≤ 64 → Below w.heap.size w w' → TreeP S t (c + 1) R T w (.returned (.int .i64 code)) w') := Lib.hid fun code w' h0 h1 hb => .same (h.mono (Nat.le_succ c)).tr hi hb h0 h1
  clear h hi
  go_enter Tryz.func62, Tryz.ntmps62
  go_wp2_with fail
  refine C1.mono ?_
  rintro e w' ⟨rfl, hA⟩
  obtain ⟨va, hva⟩ : ∃ va, e = .returned va := by rcases hA with ⟨_, rfl⟩ | ⟨i, x, b, _, _, _, _, rfl⟩ <;> exact ⟨_, rfl⟩
  subst hva
  have HA := Lib.hid hA
  clear hA
  go_wp2_with fail
  refine C2.mono ?_
  rintro e w' ⟨rfl, hB⟩
  clear C1 C2
  rcases HA.out with ⟨hl, hva⟩ | ⟨i, x, b, rfl, hx, hb, hk, hva⟩
  · cases hva
    rcases hB with ⟨_, rfl⟩ | ⟨j, y, bj, _, _, _, rfl⟩
    · clear hl
      go_wp2_with fail
      go_ret
      exact HS.out 1 _ (by omega) (by omega) (Below.refl _ _)
    · clear hl
      go_wp2_with fail
      go_ret
      exact HS.out 1 _ (by omega) (by omega) (Below.refl _ _)
  cases hva
  rcases hB with ⟨_, rfl⟩ | ⟨j, y, bj, rfl, hy, hbj, rfl⟩
  · clear hx hb hk
    go_wp2_with fail
    go_ret
    exact HS.out 1 _ (by omega) (by omega) (Below.refl _ _)
  have HX := Lib.hid (And.intro hx (And.intro hk (And.intro hb (And.intro hy hbj))))
  clear hx hb hk hy hbj HA
  go_wp2_with fail
  refine C3.mono ?_
  rintro e w1 ⟨⟨r, rfl⟩, hb1⟩
  have HB := Lib.hid hb1
  have HT1 := Lib.hid (HT.out.below hb1)
  obtain ⟨u, hu⟩ := HT1.out.nd i x b HX.out.1 HX.out.2.2.1
  obtain ⟨uj, huj⟩ := HT1.out.nd j y bj HX.out.2.2.2.1 HX.out.2.2.2.2
  have c1 := huj.cs.c1
  have c10 := huj.cs.c10
  have hna := (HT1.out.ok j y HX.out.2.2.2.1).na
  have C4 := find_any hu (by have := (HT1.out.ok i x HX.out.1).el; omega) s
  have C5 := gone_any HT1.out (by omega) HX.out.1
  clear hb1 hu huj C3
  cases r
  · go_wp2_with fail
    go_ret
    exact HS.out 1 _ (by omega) (by omega) HB.out
  by_cases hky : y.kind = 1
  · go_wp2_with fail
    go_ret
    exact HS.out 1 _ (by omega) (by omega) HB.out
  go_wp2_with fail
  refine C4.mono ?_
  rintro e w2 ⟨rfl, ⟨hno, rfl⟩ | ⟨k, f, hf, rfl⟩⟩
  case inr =>
    have k0 : (0 : Int) ≤ (k : Int) := by omega
    clear hf C4 C5
    go_wp2_with fail
    go_ret
    exact HS.out 35 _ (by omega) (by omega) HB.out
  clear hno C4
  go_wp2_with fail
  refine C5.mono ?_
  rintro e w3 ⟨rfl, r, rfl, hr⟩
  cases r
  case true =>
    clear C5
    go_wp2_with fail
    go_ret
    exact HS.out 32 _ (by omega) (by omega) HB.out
  have HG := Lib.hid (hr rfl)
  clear hr C5
  by_cases hmax : (16 : Int) ≤ (y.named : Int)
  · go_wp2_with fail
    go_ret
    exact HS.out 44 _ (by omega) (by omega) HB.out
  have hij : i ≠ j := by
    rintro rfl
    have := HX.out.1
    rw [HX.out.2.2.2.1] at this
    cases this
    exact hky HX.out.2.1
  have C6 := put_any HT1.out.tr (by omega) HX.out.1 HX.out.2.2.2.1 hij s hs
  have HIJ := Lib.hid (And.intro hij hky)
  clear hij hky
  go_wp2_with (first | (go_at_call 94; refine C6.mono ?_; rintro e w4 ⟨rfl, es, hpe, hst⟩; have HST := Lib.hid (And.intro hpe hst); clear hpe hst))
  go_ret
  exact ⟨0, S, bs, _, rfl, by omega, by omega, TStep.below HB.out HST.out.2, HI.out.put (.inl rfl) HX.out.1 HX.out.2.1 HG.out HX.out.2.2.2.1 HIJ.out.1 HST.out.1 (fun h => absurd h HIJ.out.2), KK.two HX.out.1 HX.out.2.2.2.1 HIJ.out.1 rfl rfl⟩
end Go.Proofs.YtfjghemojnhmbaaGreat
/- The tree: a node more, in memory. -/
namespace Go.Proofs.YtfjghemojnhmbaaGreat
open Go.RowKit

theorem Ends.avoid {T : List (Option Nd)} {o : Option Nd} {d k : Nat} (h : Ends T d k) : Avoid (T ++ [o]) (T.length + 1) k := by
  have is : ∀ (j : Nat) (z : Nd), T[j]? = some (some z) → (T ++ [o])[j]? = some (some z) ∧ j + 1 ≠ T.length + 1 := fun j z hz => by
    have := (List.getElem?_eq_some_iff.1 hz).1
    exact ⟨by rw [List.getElem?_append_left this]; exact hz, by omega⟩
  induction h with
  | stop h1 h2 h3 => exact .stop (is _ _ h1).1 h2 h3 (is _ _ h1).2
  | step h1 h2 h3 h4 ih => exact .step (is _ _ h1).1 h2 h3 (is _ _ h1).2 ih
theorem info107 : (Tryz.prog.info? 107).map (fun i => (i.zero, i.size, i.bytes)) = some (some (.pointer none), 1, 8) := by kernel_rfl
/-- A node more. -/
theorem TreeAt.push {S : Nat → Prop} {w w4 : World} {t c : Nat} {M : Int} {p : Nat} {v u : Value} {bs : List Nat} {T : List (Option Nd)} {N f o cap : Nat} {y : Nd} (h : TreeAt S w t c M p v bs T) (hN : Blk w N 110 (y.cells (T.length + 1) u)) (hu : u = .slice none 0 0) (he : y.es = [])
    (hfr : ∀ (i : Nat) (x : Nd) (b : Nat), T[i]? = some (some x) → bs[i]? = some b → b ≠ N) (ho : NdOk (c + 1) y) (ha : AppTo w w4 v f [.pointer (some ⟨N, 0, none⟩)])
    (hw : Win w4 0 107 1 (.slice (some ⟨f, o, none⟩) (T.length + 1) cap) (T.length + 1) (ptrs bs T ++ [.pointer (some ⟨N, 0, none⟩)])) :
    (TreeAt (fun k => S k ∨ k = N ∨ k = f) (w4.setCell ⟨t, 2, none⟩ (.slice (some ⟨f, o, none⟩) (T.length + 1) cap)) t (c + 1) M p (.slice (some ⟨f, o, none⟩) (T.length + 1) cap) (bs ++ [N]) (T ++ [some y]) ∧ Fr S [107, 106] w (w4.setCell ⟨t, 2, none⟩ (.slice (some ⟨f, o, none⟩) (T.length + 1) cap)) ∧ (S f ∨ w.heap.size ≤ f)) ∧ w4.cell? ⟨t, 2, none⟩ = some v ∧ w4.frozen? ⟨t, 2, none⟩ = false := by
  have fr4 : Fr S [107] w w4 := ha.fr h.row h.rowS (by simp)
  have hb4 : Blk w4 t 106 #[.int .i64 M, .pointer (some ⟨p, 0, none⟩), v] := h.blk.fr fr4 (by simp)
  have fr5 : Fr S [107, 106] w (w4.setCell ⟨t, 2, none⟩ (.slice (some ⟨f, o, none⟩) (T.length + 1) cap)) := (fr4.mono (T' := [107, 106]) (fun _ h => .inl h) (by simp)).trans (Fr.one hb4 h.own (by simp) _) fun _ h => .inl h
  obtain ⟨cur, hcur⟩ := hw.blk
  have sub : ∀ k, S k → (S k ∨ k = N ∨ k = f) := fun _ h => .inl h
  have was : ∀ (j : Nat) (z : Nd) (b : Nat), (T ++ [some y])[j]? = some (some z) → (bs ++ [N])[j]? = some b → (T[j]? = some (some z) ∧ bs[j]? = some b) ∨ (j = T.length ∧ z = y ∧ b = N) := by
    intro j z b hz hb
    by_cases hj : j < T.length
    · rw [List.getElem?_append_left hj] at hz
      rw [List.getElem?_append_left (by rw [h.len]; exact hj)] at hb
      exact .inl ⟨hz, hb⟩
    · have hl := (List.getElem?_eq_some_iff.1 hz).1
      simp at hl
      have : j = T.length := by omega
      subst this
      rw [List.getElem?_append_right (by omega)] at hz
      rw [List.getElem?_append_right (by rw [h.len]; omega)] at hb
      simp [h.len] at hz hb
      exact .inr ⟨rfl, hz.symm, hb.symm⟩
  refine ⟨⟨⟨by simpa using hb4.set 2 _, .inl h.own, ?_, ?_, fun k hk => by cases hk; exact .inr (.inr rfl), by simp [h.len], by simpa using h.tl, ?_, ?_, ?_, h.m0, h.m1⟩, fr5, ha.own h.rowS⟩, hb4.cell 2, hb4.free 2⟩
  · exact (h.pool.kf (KF.of_fr0 fr5 (by simp) (by simp) sub) sub fr5 (by simp) (by simp)).mono (Nat.le_succ c)
  · rw [ptrs_push bs T N y h.len, List.length_append]
    refine hw.kept fun k hk => ?_
    cases hk
    exact Below.heap_setCell _ _ _ _ (by simpa using hcur.ne hb4 (by decide))
  · intro j z b hz hb
    rcases was j z b hz hb with ⟨q1, q2⟩ | ⟨rfl, rfl, rfl⟩
    · obtain ⟨u2, hu2⟩ := h.nd j z b q1 q2
      exact ⟨u2, hu2.fr sub fr5 (by simp) (by simp)⟩
    · subst hu
      refine ⟨_, hN.fr fr5 (by simp), .inr (.inl rfl), ?_⟩
      rw [he]
      exact Win.nil _ _ _ _
  · intro j k z z' b hz hz' hb hb'
    rcases was j z b hz hb with ⟨q1, q2⟩ | ⟨rfl, rfl, rfl⟩
    · rcases was k z' b hz' hb' with ⟨r1, r2⟩ | ⟨rfl, rfl, rfl⟩
      · exact h.inj j k z z' b q1 r1 q2 r2
      · exact absurd rfl (hfr j z b q1 q2)
    · rcases was k z' b hz' hb' with ⟨r1, r2⟩ | ⟨rfl, rfl, _⟩
      · exact absurd rfl (hfr k z' b r1 r2)
      · rfl
  · intro j z hz
    by_cases hj : j < T.length
    · rw [List.getElem?_append_left hj] at hz
      exact (h.ok j z hz).mono (Nat.le_succ c)
    · have hl := (List.getElem?_eq_some_iff.1 hz).1
      simp at hl
      rw [List.getElem?_append_right (by omega)] at hz
      have : j - T.length = 0 := by omega
      rw [this] at hz
      simp at hz
      subst hz
      exact ho
end Go.Proofs.YtfjghemojnhmbaaGreat
