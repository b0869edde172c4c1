/- The table of mounts: what lies on one, told exactly; a mount that is taken away. -/
import Derived.StillTailTactics
import Derived.Lib.ConvBytes
import Derived.Test.YtfjghemojnhmbaaGreatCals
import Derived.Test.YtfjghemojnhmbaaGreatWq
namespace Go.Proofs.YtfjghemojnhmbaaGreat
open Go.RowKit

/-- Something lies on a mount, among the first i. -/
def AbvN (l : List Mt) (m : Int) (i : Nat) : Prop := ∃ (j : Nat) (x : Mt), 1 ≤ j ∧ j < i ∧ l[j]? = some x ∧ x.live = true ∧ x.am = m
theorem AbvN.start (l : List Mt) (m : Int) : 0 < 0 ↔ AbvN l m 1 := ⟨fun h => absurd h (by omega), fun ⟨j, x, h1, h2, _⟩ => by omega⟩
theorem AbvN.skip {l : List Mt} {m : Int} {i : Nat} {x : Mt} (_h1 : 1 ≤ i) (hx : l[i]? = some x) (hn : x.live = true → ¬ x.am = m) : AbvN l m i ↔ AbvN l m (i + 1) :=
  ⟨fun ⟨j, y, q1, q2, q3⟩ => ⟨j, y, q1, by omega, q3⟩, fun ⟨j, y, q1, q2, q3, q4, q5⟩ => by
    by_cases hj : j = i
    · subst hj
      rw [hx] at q3
      cases q3
      exact absurd q5 (hn q4)
    · exact ⟨j, y, q1, by omega, q3, q4, q5⟩⟩
theorem AbvN.all {l : List Mt} {m : Int} {i : Nat} (h : l.length ≤ i) : AbvN l m i ↔ AbvN l m l.length :=
  ⟨fun ⟨j, y, q1, _, q3, q4⟩ => ⟨j, y, q1, (List.getElem?_eq_some_iff.1 q3).1, q3, q4⟩, fun ⟨j, y, q1, q2, q3⟩ => ⟨j, y, q1, by omega, q3⟩⟩
def AbvP (l : List Mt) (m : Int) (w : World) (e : Ending) (w' : World) : Prop := ∃ (v : Value) (xs : List Int), e = .returned v ∧ Ints w' w.heap.size v xs ∧ Below w.heap.size w w' ∧ (0 < xs.length ↔ AbvN l m l.length)
set_option maxRecDepth 100000 in
theorem above2_any (S : Nat → Prop) (w : World) (tb : Nat) (v : Value) (l : List Mt) (h : TabAt S w tb v l) (m : Int) : Calls Tryz.prog 101 #[.pointer (some ⟨tb, 0, none⟩), .int .i64 m] w (AbvP l m w) := by
  have hle := h.le
  obtain ⟨i3, h31, h32, h33, h34⟩ := info_parts info3
  have HO := Lib.hid h
  obtain ⟨va, vc, rfl⟩ := h.row.value
  clear h
  go_enter Tryz.func101, Tryz.ntmps101
  go_wp2_with fail
  go_loopw [6, 5] (fun iv v wr => ∃ i n : Nat, 1 ≤ i ∧ i ≤ l.length + 1 ∧ n ≤ i ∧ iv = .int .i64 i ∧ Hid (0 < n ↔ AbvN l m i) ∧ Hid (∃ xs, InI w wr v n xs)) (fun iv _ _ => l.length + 1 - (intOf iv).toNat)
  case atStart => exact ⟨1, 0, by omega, by omega, by omega, rfl, Lib.hid (AbvN.start l m), Lib.hid ⟨[], rfl, Win.nil _ _ _ _, by simp, Below.refl _ _⟩⟩
  case round =>
    obtain ⟨i, n, hi1, hi, hn, rfl, HA, HI⟩ := hrel
    obtain ⟨xs, hx⟩ := HI.out
    have HX := Lib.hid hx
    obtain ⟨ua, uc, rfl⟩ := hx.win.value
    have HT := Lib.hid (HO.out.fr (T := []) (fun _ h => h) (Fr.of_below (S := S) hx.bel) (by simp) (by simp))
    clear hx
    have wsz := HX.out.bel.size
    have p0 := HT.out.blk.cell 0
    by_cases hlt : i < l.length
    · have k0 : (0 : Int) ≤ (i : Int) := by omega
      have k1 : (i : Int) < (l.length : Int) := by omega
      obtain ⟨x, hx⟩ : ∃ x, l[i]? = some x := ⟨_, List.getElem?_eq_getElem hlt⟩
      obtain ⟨f, o, cap, hv, _, c0, c1, c2, c3⟩ := HT.out.entry hx
      cases hv
      have HXX := Lib.hid hx
      clear c1 c2 hx
      obtain ⟨am, an, nd, lv⟩ := x
      dsimp only at c3 c0
      cases lv
      · go_wp2_with fail
        go_roundw
        case rel => exact ⟨i + 1, n, by omega, by omega, by omega, by go_num, Lib.hid (HA.out.trans (AbvN.skip hi1 HXX.out (fun h => by cases h))), _, HX.out⟩
        case measure => simp [intOf]; omega
      · by_cases ea : am = m
        · subst ea
          go_upto_region 6 with fail
          go_wp2_with (first | (at_builtin; go_must (refine wpList_append_win _ rfl (.tmp 37) (.tmp 39) 81 rfl w.heap.size 3 i3 _ 1 8 Tryz.underlying81 h31 h32 h33 h34 rfl (by decide) (.slice ua n uc) n (xs.map (.int .i64)) rfl (HX.out.win.alloc _) ⟨wr.heap.size, 0, none⟩ 1 1 [.int .i64 i] rfl rfl (new_cells wr [.int .i64 i] 3) (by simp [Value.oneCell']) (by decide) (by unfold maxLen; omega) (by omega) (by simp; omega) ?_; intro f' o' cap' w4 hown hgrow hat; have HP := Lib.hid ((HX.out.alloc _).push hown hgrow k0 (by omega)); clear hown hgrow hat)))
          go_roundw
          case rel => exact ⟨i + 1, n + 1, by omega, by omega, by omega, by go_num, Lib.hid ⟨fun _ => ⟨i, _, hi1, by omega, HXX.out, rfl, rfl⟩, fun _ => by omega⟩, _, HP.out⟩
          case measure => simp [intOf]; omega
        · have HEA := Lib.hid ea
          go_wp2_with fail
          go_roundw
          case rel => exact ⟨i + 1, n, by omega, by omega, by omega, by go_num, Lib.hid (HA.out.trans (AbvN.skip hi1 HXX.out (fun _ => HEA.out))), _, HX.out⟩
          case measure => simp [intOf]; omega
    · have k1 : ¬ (i : Int) < (l.length : Int) := by omega
      go_wp2_with fail
      go_ret
      exact ⟨_, xs, rfl, ⟨by rw [HX.out.len]; exact HX.out.win, HX.out.rg, by rw [HX.out.len]; omega⟩, HX.out.bel, by rw [HX.out.len]; exact HA.out.trans (AbvN.all (by omega))⟩

set_option maxRecDepth 100000 in
theorem unbind2_any (S : Nat → Prop) (w : World) (tb : Nat) (v : Value) (l : List Mt) (h : TabAt S w tb v l) (i : Nat) (x : Mt) (hi1 : 1 ≤ i) (hx : l[i]? = some x) (hlv : x.live = true) (hno : ¬ AbvN l i l.length) : Calls Tryz.prog 104 #[.pointer (some ⟨tb, 0, none⟩), .int .i64 i] w fun e w' => e = .returned (.int .i64 0) ∧ ∃ v, TabAt S w' tb v (l.set i { x with live := false }) ∧ Fr S MT w w' := by
  have C1 := is_any S w tb v l h i
  have C2 := above2_any S w tb v l h i
  have HT := Lib.hid h
  have hle := h.le
  clear h
  have hk : isM l i = true := by
    unfold isM
    rw [if_pos (by omega)]
    rw [show ((i : Int)).toNat = i from by omega, hx]
    exact hlv
  rw [hk] at C1
  have hlt := (List.getElem?_eq_some_iff.1 hx).1
  have HX := Lib.hid (And.intro hx (And.intro hlv hno))
  clear hk hx hlv hno
  have hm : ¬ (i : Int) = 0 := by omega
  go_enter Tryz.func104, Tryz.ntmps104
  go_wp2_with (first | (go_at_call 105; refine C1.mono ?_; rintro e w1 ⟨rfl, rfl⟩))
  refine C2.mono ?_
  rintro e w2 ⟨u, xs, rfl, hu, hb, hxs⟩
  have HT2 := Lib.hid (HT.out.below hb)
  have HB := Lib.hid hb
  obtain ⟨ua, uc, rfl⟩ := hu.1.value
  have hn : ¬ 0 < xs.length := fun q => HX.out.2.2 (hxs.1 q)
  clear hu hb hxs
  obtain ⟨f, o, cap, hv, _, c0, c1, c2, c3⟩ := HT2.out.entry HX.out.1
  subst hv
  have t0 := HT2.out.blk.cell 0
  have k0 : (0 : Int) ≤ (i : Int) := by omega
  have k1 : (i : Int) < (l.length : Int) := by omega
  obtain ⟨cur, hbk⟩ := HT2.out.row.blk
  have ff := hbk.free
  clear c0 c1 c2 hbk
  go_wp2_with fail
  go_ret
  obtain ⟨q1, q2⟩ := HT2.out.kill HX.out.1
  exact ⟨rfl, _, q1, (Fr.of_below (S := S) HB.out).trans q2 (fun _ h => .inl h)⟩
end Go.Proofs.YtfjghemojnhmbaaGreat
/- Mounts refer to nodes: what is counted; nodes that are held and let go. -/
namespace Go.Proofs.YtfjghemojnhmbaaGreat
open Go.RowKit

/-- How often a mount refers to a node. -/
def mref (k : Nat) (x : Mt) : Nat := if x.live then (if x.an = (k : Int) then 1 else 0) + (if x.node = (k : Int) then 1 else 0) else 0
def mrefs (l : List Mt) (k : Nat) : Nat := ((l.drop 1).map (mref k)).sum
theorem sum_set {α : Type} (f : α → Nat) : ∀ (l : List α) (i : Nat) (x y : α), l[i]? = some x → ((l.set i y).map f).sum + f x = (l.map f).sum + f y
  | [], i, x, y, h => by simp at h
  | p :: l, 0, x, y, h => by
    simp at h; subst h
    simp; omega
  | p :: l, i + 1, x, y, h => by
    have := sum_set f l i x y (by simpa using h)
    simp only [List.map_cons, List.sum_cons, List.set_cons_succ] at this ⊢
    omega
theorem sum_pos {α : Type} (f : α → Nat) : ∀ (l : List α) (i : Nat) (x : α), l[i]? = some x → f x ≤ (l.map f).sum
  | [], i, x, h => by simp at h
  | p :: l, 0, x, h => by
    simp at h; subst h
    simp
  | p :: l, i + 1, x, h => by
    have := sum_pos f l i x (by simpa using h)
    simp only [List.map_cons, List.sum_cons]
    omega
theorem mrefs_set {l : List Mt} {i : Nat} {x y : Mt} (h1 : 1 ≤ i) (hx : l[i]? = some x) (k : Nat) : mrefs (l.set i y) k + mref k x = mrefs l k + mref k y := by
  unfold mrefs
  obtain ⟨j, rfl⟩ : ∃ j, i = j + 1 := ⟨i - 1, by omega⟩
  have e : (l.set (j + 1) y).drop 1 = (l.drop 1).set j y := by
    cases l with
    | nil => simp at hx
    | cons a l => simp
  rw [e]
  exact sum_set (mref k) (l.drop 1) j x y (by rw [List.getElem?_drop]; rw [Nat.add_comm]; exact hx)
theorem mrefs_kill {l : List Mt} {i : Nat} {x : Mt} (h1 : 1 ≤ i) (hx : l[i]? = some x) (hl : x.live = true) (k : Nat) : mrefs l k = mrefs (l.set i { x with live := false }) k + (if x.an = (k : Int) then 1 else 0) + (if x.node = (k : Int) then 1 else 0) := by
  have h := mrefs_set (y := { x with live := false }) h1 hx k
  have e1 : mref k x = (if x.an = (k : Int) then 1 else 0) + (if x.node = (k : Int) then 1 else 0) := by unfold mref; rw [hl]; rfl
  have e2 : mref k { x with live := false } = 0 := rfl
  rw [e1, e2] at h
  omega
theorem mrefs_push {l : List Mt} (h : l ≠ []) (am an nd : Int) (k : Nat) : mrefs (l ++ [⟨am, an, nd, true⟩]) k = mrefs l k + (if an = (k : Int) then 1 else 0) + (if nd = (k : Int) then 1 else 0) := by
  unfold mrefs
  rw [List.drop_append_of_le_length (by cases l with | nil => exact absurd rfl h | cons a l => simp)]
  simp [mref]
  omega
theorem mrefs_pos {l : List Mt} {i : Nat} {x : Mt} (h1 : 1 ≤ i) (hx : l[i]? = some x) (hl : x.live = true) {k : Nat} (hk : x.an = (k : Int) ∨ x.node = (k : Int)) : 0 < mrefs l k := by
  have := mrefs_kill h1 hx hl k
  rcases hk with e | e <;> rw [if_pos e] at this <;> omega
theorem TInv.congr {T : List (Option Nd)} {R R' : Nat → Nat} {ex : Option Nat} (h : TInv T R ex) (e : ∀ k, R' k = R k) : TInv T R' ex := by
  have : R' = R := funext e
  rw [this]; exact h
/-- A node is held. -/
theorem TInv.hold {T : List (Option Nd)} {R : Nat → Nat} {i : Nat} {x : Nd} (h : TInv T R none) (hx : T[i]? = some (some x)) : TInv (T.set i (some { x with held := x.held + 1 })) (fun k => R k + if k = i + 1 then 1 else 0) none := by
  refine h.turn hx rfl rfl rfl rfl (fun k hk => ⟨fun hne => by simp [hne], fun he => ?_⟩)
  subst he
  simp only [if_true]
  by_cases hr : 0 < R (i + 1)
  · obtain ⟨i', x', e1, e2, e3⟩ := h.refs _ hr
    obtain rfl : i' = i := by omega
    rw [hx] at e2
    cases e2
    omega
  · omega
/-- A node that was held is let go. -/
theorem TInv.loose {T : List (Option Nd)} {R : Nat → Nat} {i : Nat} {x : Nd} (h : TInv T (fun k => R k + if k = i + 1 then 1 else 0) none) (hx : T[i]? = some (some x)) : TInv (looseT T i x) R none ∧ 1 ≤ x.held := by
  have h1 : R (i + 1) + 1 ≤ x.held := by
    obtain ⟨i', x', e1, e2, e3⟩ := h.refs (i + 1) (by simp)
    obtain rfl : i' = i := by omega
    rw [hx] at e2
    cases e2
    simpa using e3
  have h2 : TInv (T.set i (some { x with held := x.held - 1 })) R none := by
    refine h.turn hx rfl rfl rfl rfl (fun k hk => ⟨fun hne => by simp, fun he => ?_⟩)
    subst he
    show R (i + 1) ≤ x.held - 1
    omega
  exact ⟨h2.reap (set_self hx), by omega⟩
theorem KK.loose {T : List (Option Nd)} {i : Nat} {x : Nd} (hx : T[i]? = some (some x)) : KK T (looseT T i x) := (KK.set (y := { x with held := x.held - 1 }) hx rfl).trans (KK.reap _ _ _)
/-- Who is referred to stays what it was. -/
theorem LivD.kept {T T' : List (Option Nd)} {R : Nat → Nat} (hi : TInv T' R none) (hk : KK T T') {n : Int} (h : LivD T n) (hr : ∀ k : Nat, n = (k : Int) → 0 < R k) : LivD T' n := by
  obtain ⟨i, x, e1, e2, e3⟩ := h
  obtain ⟨i', x', f1, f2, f3⟩ := hi.refs (i + 1) (hr (i + 1) (by omega))
  obtain rfl : i' = i := by omega
  obtain ⟨z, g1, g2⟩ := hk.2 i' x' f2 (List.getElem?_eq_some_iff.1 e2).1
  rw [e2] at g1
  cases g1
  exact ⟨i', x', e1, f2, by rw [← g2]; exact e3⟩
theorem Liv.kept {T' : List (Option Nd)} {R : Nat → Nat} (hi : TInv T' R none) {n : Int} (h : ∃ k : Nat, n = (k : Int) ∧ 0 < R k) : Liv T' n := by
  obtain ⟨k, rfl, hr⟩ := h
  obtain ⟨i, x, rfl, hx, _⟩ := hi.refs k hr
  exact ⟨i, x, by omega, hx⟩
theorem rootD {T : List (Option Nd)} {R : Nat → Nat} (h : TInv T R none) : LivD T 1 := by
  obtain ⟨x, h1, h2⟩ := h.root
  exact ⟨0, x, by omega, h1, h2⟩
def M0 (l : List Mt) : Prop := l[0]? = some ⟨0, 0, 1, true⟩
theorem ML.kept {T T' : List (Option Nd)} {l l' : List Mt} {Rb : Nat → Nat} (h : ML T l) (hi : TInv T' (fun k => mrefs l' k + Rb k) none) (hk : KK T T') (hs : ∀ (i : Nat) (x : Mt), l'[i]? = some x → x.live = true → l[i]? = some x) (h0 : M0 l) : ML T' l' := by
  intro i x hx hl
  have hx' := hs i x hx hl
  obtain ⟨q1, q2, q3, q4⟩ := h i x hx' hl
  by_cases h1 : 1 ≤ i
  · refine ⟨q1.kept hi hk (fun k e => ?_), q2, q3, fun _ => (q4 h1).kept hi hk (fun k e => ?_)⟩
    · have := mrefs_pos h1 hx hl (k := k) (.inr e)
      show 0 < mrefs l' k + Rb k
      omega
    · have := mrefs_pos h1 hx hl (k := k) (.inl e)
      show 0 < mrefs l' k + Rb k
      omega
  · obtain rfl : i = 0 := by omega
    unfold M0 at h0
    rw [hx'] at h0
    cases h0
    exact ⟨rootD hi, by omega, by omega, fun h => absurd h (by omega)⟩
/-- The tree and the mounts, with what refers to nodes otherwise. -/
structure WI (S : Nat → Prop) (w : World) (t c : Nat) (bs : List Nat) (T : List (Option Nd)) (tb : Nat) (tv : Value) (l : List Mt) (Rb : Nat → Nat) : Prop where
  tr : TR S w t c bs T
  inv : TInv T (fun k => mrefs l k + Rb k) none
  tab : TabAt S w tb tv l
  mi : MInv l
  ml : ML T l
  m0 : M0 l
  ll : l.length ≤ c
  cc : c ≤ 99000
theorem WI.ctx {S : Nat → Prop} {w : World} {t c : Nat} {bs : List Nat} {T : List (Option Nd)} {tb : Nat} {tv : Value} {l : List Mt} {Rb : Nat → Nat} (h : WI S w t c bs T tb tv l Rb) : Ctx S w t c bs T tb tv l := ⟨h.tr, ⟨_, h.inv⟩, h.tab, h.mi, h.ml, h.cc⟩
theorem WI.below {S : Nat → Prop} {w w' : World} {t c : Nat} {bs : List Nat} {T : List (Option Nd)} {tb : Nat} {tv : Value} {l : List Mt} {Rb : Nat → Nat} (h : WI S w t c bs T tb tv l Rb) (hb : Below w.heap.size w w') : WI S w' t c bs T tb tv l Rb :=
  ⟨h.tr.below hb, h.inv, h.tab.below hb, h.mi, h.ml, h.m0, h.ll, h.cc⟩
abbrev TM : List TypeId := [5, 189, 195, 142, 106, 107, 110, 112, 115]
/-- A step of the tree and the mounts. -/
structure WStep (S S' : Nat → Prop) (t c tb : Nat) (bs : List Nat) (tv : Value) (w w' : World) (T' : List (Option Nd)) (l' : List Mt) : Prop where
  sub : ∀ k, S k → S' k
  sup : ∀ k, S' k → S k ∨ w.heap.size ≤ k
  fr : Fr S TM w w'
  tr : TR S' w' t c bs T'
  tab : TabAt S' w' tb tv l'
theorem WStep.trans {S S' S'' : Nat → Prop} {t c c' tb : Nat} {bs bs' : List Nat} {tv tv' : Value} {w w' w'' : World} {T1 T2 : List (Option Nd)} {l1 l2 : List Mt} (h : WStep S S' t c tb bs tv w w' T1 l1) (k : WStep S' S'' t c' tb bs' tv' w' w'' T2 l2) : WStep S S'' t c' tb bs' tv' w w'' T2 l2 := by
  refine ⟨fun i hi => k.sub i (h.sub i hi), fun i hi => ?_, h.fr.trans k.fr h.sup, k.tr, k.tab⟩
  have := h.fr.size
  rcases k.sup i hi with q | q
  · exact h.sup i q
  · exact .inr (by omega)
theorem WStep.tree {S S' : Nat → Prop} {t c tb : Nat} {bs : List Nat} {tv : Value} {w w' : World} {T' : List (Option Nd)} {l : List Mt} (h : TStep S S' t c bs w w' T') (ht : TabAt S w tb tv l) : WStep S S' t c tb bs tv w w' T' l :=
  ⟨h.sub, h.sup, h.fr.mono (T' := TM) (fun _ h => .inl h) (by decide), h.tr, ht.fr h.sub h.fr (by decide) (by decide)⟩
theorem TR.fr {S S' S0 : Nat → Prop} {Ts : List TypeId} {w w' : World} {t c : Nat} {bs : List Nat} {T : List (Option Nd)} (h : TR S w t c bs T) (hs : ∀ k, S k → S' k) (hf : Fr S0 Ts w w') (h0 : ∀ e ∈ TT, e ∉ Ts) (h8 : 188 ∉ Ts) : TR S' w' t c bs T := by
  obtain ⟨M, p, v, ht⟩ := h
  exact ⟨M, p, v, ht.fr hs hf h0 h8⟩
theorem WStep.mounts {S S' : Nat → Prop} {t c tb : Nat} {bs : List Nat} {tv : Value} {w w' : World} {T : List (Option Nd)} {l' : List Mt} (h1 : ∀ k, S k → S' k) (h2 : ∀ k, S' k → S k ∨ w.heap.size ≤ k) (hf : Fr S MT w w') (ht : TabAt S' w' tb tv l') (htr : TR S w t c bs T) : WStep S S' t c tb bs tv w w' T l' :=
  ⟨h1, h2, hf.mono (T' := TM) (fun _ h => .inl h) (by decide), htr.fr h1 hf (by decide) (by decide), ht⟩
theorem WStep.same {S : Nat → Prop} {t c tb : Nat} {bs : List Nat} {tv : Value} {w w' : World} {T : List (Option Nd)} {l : List Mt} (htr : TR S w t c bs T) (ht : TabAt S w tb tv l) (hb : Below w.heap.size w w') : WStep S S t c tb bs tv w w' T l :=
  ⟨fun _ h => h, fun _ h => .inl h, Fr.of_below hb, htr.below hb, ht.below hb⟩
theorem WStep.mono {S S' : Nat → Prop} {t c c' tb : Nat} {bs : List Nat} {tv : Value} {w w' : World} {T' : List (Option Nd)} {l' : List Mt} (h : WStep S S' t c tb bs tv w w' T' l') (hc : c ≤ c') : WStep S S' t c' tb bs tv w w' T' l' := ⟨h.sub, h.sup, h.fr, h.tr.mono hc, h.tab⟩
theorem WStep.below {S S' : Nat → Prop} {t c tb : Nat} {bs : List Nat} {tv : Value} {w w1 w' : World} {T' : List (Option Nd)} {l' : List Mt} (hb : Below w.heap.size w w1) (h : WStep S S' t c tb bs tv w1 w' T' l') : WStep S S' t c tb bs tv w w' T' l' := by
  refine ⟨h.sub, fun k hk => ?_, (Fr.of_below (S := S) hb).trans h.fr (fun _ h => .inl h), h.tr, h.tab⟩
  have := hb.size
  rcases h.sup k hk with q | q
  · exact .inl q
  · exact .inr (by omega)
/-- What a call that turns mounts does. -/
def MtP (S : Nat → Prop) (t c tb : Nat) (Rb : Nat → Nat) (T : List (Option Nd)) (w : World) (e : Ending) (w' : World) : Prop := ∃ (code : Int) (S' : Nat → Prop) (bs' : List Nat) (T' : List (Option Nd)) (tv' : Value) (l' : List Mt), e = .returned (.int .i64 code) ∧ WStep S S' t c tb bs' tv' w w' T' l' ∧
  TInv T' (fun k => mrefs l' k + Rb k) none ∧ KK T T' ∧ MInv l' ∧ ML T' l' ∧ M0 l' ∧ l'.length ≤ c
theorem MtP.same {S : Nat → Prop} {w w' : World} {t c c' : Nat} {bs : List Nat} {T : List (Option Nd)} {tb : Nat} {tv : Value} {l : List Mt} {Rb : Nat → Nat} (h : WI S w t c bs T tb tv l Rb) (hc : c ≤ c') (hb : Below w.heap.size w w') (code : Int) : MtP S t c' tb Rb T w (.returned (.int .i64 code)) w' :=
  ⟨code, S, bs, T, tv, l, rfl, (WStep.same h.tr h.tab hb).mono hc, h.inv, KK.refl T, h.mi, h.ml, h.m0, Nat.le_trans h.ll hc⟩
theorem MtP.below {S : Nat → Prop} {w w1 w' : World} {t c tb : Nat} {T : List (Option Nd)} {Rb : Nat → Nat} {e : Ending} (hb : Below w.heap.size w w1) (h : MtP S t c tb Rb T w1 e w') : ∃ code : Int, e = .returned (.int .i64 code) ∧ MtP S t c tb Rb T w (.returned (.int .i64 code)) w' := by
  obtain ⟨code, S', bs', T', tv', l', rfl, h1, h2⟩ := h
  exact ⟨code, rfl, code, S', bs', T', tv', l', rfl, h1.below hb, h2⟩
theorem hold_ctx {S : Nat → Prop} {w : World} {t c : Nat} {bs : List Nat} {T : List (Option Nd)} {R : Nat → Nat} (h : TR S w t c bs T) (hi : TInv T R none) (hc : c + 1 ≤ 100000) {n : Int} (hl : Liv T n) :
    Calls Tryz.prog 20 #[.pointer (some ⟨t, 0, none⟩), .int .i64 n] w fun e w' => ∃ (code : Int) (T' : List (Option Nd)), e = .returned (.int .i64 code) ∧ TStep S S t (c + 1) bs w w' T' ∧ TInv T' (fun k => R k + if n = (k : Int) then 1 else 0) none ∧ KK T T' ∧ (∀ m, LivD T m → LivD T' m) ∧ (∀ m, Liv T m → Liv T' m) := by
  obtain ⟨i, x, rfl, hx⟩ := hl
  have htl : T.length ≤ c := by obtain ⟨M, p, v, ht⟩ := h; exact ht.tl
  have hlt := (List.getElem?_eq_some_iff.1 hx).1
  refine (hold_any h hc ((i : Int) + 1) ⟨by omega, by omega⟩).mono fun e w' hm => ?_
  obtain ⟨code, rfl, _, _, ⟨q, _⟩ | ⟨i', x', y, e1, e2, rfl, hs⟩⟩ := hm
  · rw [lv_of hx] at q
    cases q
  · obtain rfl : i = i' := by omega
    rw [hx] at e2
    cases e2
    refine ⟨code, _, rfl, hs, (hi.hold hx).congr (fun k => ?_), KK.set hx rfl, ?_, ?_⟩
    · by_cases hk : k = i + 1
      · subst hk; rw [if_pos rfl, if_pos (by omega)]
      · rw [if_neg hk, if_neg (by omega)]
    · rintro m ⟨j, z, g1, g2, g3⟩
      by_cases hj : j = i
      · subst hj
        rw [hx] at g2
        cases g2
        exact ⟨j, _, g1, set_self hx, g3⟩
      · exact ⟨j, z, g1, by rw [set_get hj]; exact g2, g3⟩
    · rintro m ⟨j, z, g1, g2⟩
      by_cases hj : j = i
      · subst hj
        exact ⟨j, _, g1, set_self hx⟩
      · exact ⟨j, z, g1, by rw [set_get hj]; exact g2⟩
theorem loose_ctx {S : Nat → Prop} {w : World} {t c : Nat} {bs : List Nat} {T : List (Option Nd)} {R : Nat → Nat} (h : TR S w t c bs T) {n : Int} (hi : TInv T (fun k => R k + if n = (k : Int) then 1 else 0) none) (hn : 0 ≤ n) (hc : c ≤ 100000) :
    Calls Tryz.prog 25 #[.pointer (some ⟨t, 0, none⟩), .int .i64 n] w fun e w' => ∃ (code : Int) (S' : Nat → Prop) (T' : List (Option Nd)), e = .returned (.int .i64 code) ∧ TStep S S' t c bs w w' T' ∧ TInv T' R none ∧ KK T T' := by
  obtain ⟨k0, rfl⟩ : ∃ k0 : Nat, n = k0 := ⟨n.toNat, by omega⟩
  obtain ⟨i, x, rfl, hx, _⟩ := hi.refs k0 (by simp)
  have htl : T.length ≤ c := by obtain ⟨M, p, v, ht⟩ := h; exact ht.tl
  have hlt := (List.getElem?_eq_some_iff.1 hx).1
  obtain ⟨l1, l2⟩ := TInv.loose (R := R) (hi.congr (fun k => by
    by_cases hk : k = i + 1
    · subst hk; simp
    · have h2 : ¬ ((i + 1 : Nat) : Int) = (k : Int) := by omega
      simp only [if_neg hk, if_neg h2])) hx
  refine (loose_any h hc ((i + 1 : Nat) : Int) ⟨by omega, by omega⟩).mono fun e w' hm => ?_
  obtain ⟨code, rfl, ⟨q, _⟩ | ⟨i', x', e1, e2, q⟩⟩ := hm
  · have e : ((i + 1 : Nat) : Int) = (i : Int) + 1 := by omega
    rw [e, lv_of hx] at q
    cases q
  · obtain rfl : i = i' := by omega
    rw [hx] at e2
    cases e2
    rcases q with ⟨q, _⟩ | ⟨_, S', hs⟩
    · omega
    · exact ⟨code, S', _, rfl, hs, l1, KK.loose hx⟩
end Go.Proofs.YtfjghemojnhmbaaGreat
