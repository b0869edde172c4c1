/- The table of mounts: what lies on one; the place above; where one lies; a new table. -/
import Derived.Test.YtfjghemojnhmbaaGreatTab
namespace Go.Proofs.YtfjghemojnhmbaaGreat
open Go.RowKit

set_option maxRecDepth 100000 in
theorem above_any (S : Nat → Prop) (w : World) (tb : Nat) (v : Value) (l : List Mt) (h : TabAt S w tb v l) (m : Int) : Calls Tryz.prog 101 #[.pointer (some ⟨tb, 0, none⟩), .int .i64 m] w (IntsP w) := by
  have hle := h.le
  obtain ⟨i3, h31, h32, h33, h34⟩ := info_parts info3
  have HO := Lib.hid h
  obtain ⟨va, vc, rfl⟩ := h.row.value
  clear h
  go_enter Tryz.func101, Tryz.ntmps101
  go_wp2_with fail
  go_loopw [6, 5] (fun iv v wr => ∃ i n : Nat, 1 ≤ i ∧ i ≤ l.length + 1 ∧ n ≤ i ∧ iv = .int .i64 i ∧ Hid (∃ xs, InI w wr v n xs)) (fun iv _ _ => l.length + 1 - (intOf iv).toNat)
  case atStart => exact ⟨1, 0, by omega, by omega, by omega, rfl, Lib.hid ⟨[], rfl, Win.nil _ _ _ _, by simp, Below.refl _ _⟩⟩
  case round =>
    obtain ⟨i, n, hi1, hi, hn, rfl, HI⟩ := hrel
    rename_i u wr
    obtain ⟨xs, hx⟩ := HI.out
    have HX := Lib.hid hx
    obtain ⟨ua, uc, rfl⟩ := hx.win.value
    have HT := Lib.hid (HO.out.fr (T := []) (fun _ h => h) (Fr.of_below (S := S) hx.bel) (by simp) (by simp))
    clear hx
    have wsz := HX.out.bel.size
    have p0 := HT.out.blk.cell 0
    by_cases hlt : i < l.length
    · have k0 : (0 : Int) ≤ (i : Int) := by omega
      have k1 : (i : Int) < (l.length : Int) := by omega
      obtain ⟨x, hx⟩ : ∃ x, l[i]? = some x := ⟨_, List.getElem?_eq_getElem hlt⟩
      obtain ⟨f, o, cap, hv, _, c0, c1, c2, c3⟩ := HT.out.entry hx
      cases hv
      clear c1 c2 hx
      obtain ⟨am, an, nd, lv⟩ := x
      dsimp only at c3 c0
      cases lv
      · go_wp2_with fail
        go_roundw
        case rel => exact ⟨i + 1, n, by omega, by omega, by omega, by go_num, _, HX.out⟩
        case measure => simp [intOf]; omega
      · by_cases ea : am = m
        · subst ea
          go_upto_region 6 with fail
          go_wp2_with (first | (at_builtin; go_must (refine wpList_append_win _ rfl (.tmp 37) (.tmp 39) 81 rfl w.heap.size 3 i3 _ 1 8 Tryz.underlying81 h31 h32 h33 h34 rfl (by decide) (.slice ua n uc) n (xs.map (.int .i64)) rfl (HX.out.win.alloc _) ⟨wr.heap.size, 0, none⟩ 1 1 [.int .i64 i] rfl rfl (new_cells wr [.int .i64 i] 3) (by simp [Value.oneCell']) (by decide) (by unfold maxLen; omega) (by omega) (by simp; omega) ?_; intro f' o' cap' w4 hown hgrow hat; have HP := Lib.hid ((HX.out.alloc _).push hown hgrow k0 (by omega)); clear hown hgrow hat)))
          go_roundw
          case rel => exact ⟨i + 1, n + 1, by omega, by omega, by omega, by go_num, _, HP.out⟩
          case measure => simp [intOf]; omega
        · go_wp2_with fail
          go_roundw
          case rel => exact ⟨i + 1, n, by omega, by omega, by omega, by go_num, _, HX.out⟩
          case measure => simp [intOf]; omega
    · have k1 : ¬ (i : Int) < (l.length : Int) := by omega
      go_wp2_with fail
      go_ret
      exact HX.out.done (by omega)

set_option maxRecDepth 100000 in
theorem at_any (S : Nat → Prop) (w : World) (tb : Nat) (v : Value) (l : List Mt) (h : TabAt S w tb v l) (i : Nat) (x : Mt) (hx : l[i]? = some x) : Calls Tryz.prog 103 #[.pointer (some ⟨tb, 0, none⟩), .int .i64 i] w fun e w' => e = .returned (.agg #[.int .i64 x.am, .int .i64 x.an]) ∧ Below w.heap.size w w' := by
  have hle := h.le
  have hlt := (List.getElem?_eq_some_iff.1 hx).1
  have HB : Hid (Below w.heap.size w (w.alloc (.cells #[.int .i64 0, .int .i64 0] 75))) := Lib.hid ((Below.refl _ _).alloc (Nat.le_refl _) _)
  have HZ := Lib.hid (Holds.new w #[.int .i64 0, .int .i64 0] 75)
  have HT := Lib.hid (h.fr (T := []) (fun _ h => h) (Fr.of_below (S := S) HB.out) (by simp) (by simp))
  clear h
  go_enter Tryz.func103, Tryz.ntmps103
  go_upto_region 1 with fail
  generalize w.alloc (.cells #[.int .i64 0, .int .i64 0] 75) = W at *
  obtain ⟨Z, hZ⟩ : ∃ Z, w.heap.size = Z := ⟨_, rfl⟩
  rw [hZ] at HZ ⊢
  have p0 := HT.out.blk.cell 0
  obtain ⟨f, o, cap, hv, _, c0, c1, c2, c3⟩ := HT.out.entry hx
  subst hv
  have z0 := HZ.out.cell 0
  have z1 := HZ.out.cell 1
  have zf := HZ.out.free
  have k0 : (0 : Int) ≤ (i : Int) := by omega
  have k1 : (i : Int) < (l.length : Int) := by omega
  have HX := Lib.hid hx
  have HZ2 := Lib.hid hZ
  clear hx c2 c3 hZ
  go_wp2_with fail
  refine place_ret rfl rfl (p := .int .i64 x.am) (q := .int .i64 x.an) (by simpa using (HZ.out.set 0 (.int .i64 x.am) (by simp)).set 1 (.int .i64 x.an) (by simp)) ⟨rfl, ?_⟩
  have := HZ2.out
  rw [← this] at *
  exact (HB.out.setCell (by simp) _).setCell (by simp) _

theorem tabnew_any (w : World) (k : Int) : Calls Tryz.prog 18 #[.int .i64 k] w fun e w' => ∃ tb v, e = .returned (.pointer (some ⟨tb, 0, none⟩)) ∧ w.heap.size ≤ tb ∧ Below w.heap.size w w' ∧ TabAt (fun j => w.heap.size ≤ j ∧ j < w'.heap.size) w' tb v [⟨0, 0, k, true⟩] := by
  go_enter Tryz.func18, Tryz.ntmps18
  go_wp2_with fail
  go_ret
  have hr := Blk.new w #[.int .i64 0, .int .i64 0, .int .i64 k, .bool true] 112
  refine ⟨w.heap.size + 1, .slice (some ⟨w.heap.size, 0, none⟩) 1 1, rfl, by omega, ((Below.refl _ _).alloc (Nat.le_refl _) _).alloc (by simp) _, by simpa using Blk.new (w.alloc (.cells #[.int .i64 0, .int .i64 0, .int .i64 k, .bool true] 112)) _ 115, by simp, ⟨by simp [mrows, Mt.cells], .inr ⟨w.heap.size, 0, 1, _, rfl, Nat.zero_le _, hr.alloc _, by simp, by unfold maxLen; simp, by simp, fun j hj => by simp [mrows, Mt.cells]⟩⟩, fun j hj => by cases hj; exact ⟨Nat.le_refl _, by simp; omega⟩, by simp⟩

/-- What Up answers. -/
def UpP (l : List Mt) (pm pn : Int) (w : World) (e : Ending) (w' : World) : Prop := Below w.heap.size w w' ∧ (e = .returned (.tuple #[.agg #[.int .i64 pm, .int .i64 pn], .bool false]) ∨ ∃ (i : Nat) (x : Mt), pm = i ∧ 1 ≤ i ∧ l[i]? = some x ∧ x.live = true ∧ e = .returned (.tuple #[.agg #[.int .i64 x.am, .int .i64 x.an], .bool true]))
theorem place_out2 {fn : Func} {tmps : Array Value} {w : World} {Z a b : Nat} {p q z : Value} (hr : fn.results = #[.cell a 75, .tmp b]) (h4 : tmps.getD a undef = .pointer (some ⟨Z, 0, none⟩)) (h5 : tmps.getD b undef = z)
    (v0 : w.cell? ⟨Z, 0, none⟩ = some p) (v1 : w.cell? ⟨Z, 1, none⟩ = some q) : (results fn tmps).run Tryz.prog w = .ok (.tuple #[.agg #[p, q], z]) w := by
  unfold results
  rw [hr]
  have h4' : tmps[a]?.getD undef = .pointer (some ⟨Z, 0, none⟩) := by rw [← h4]; simp
  have h5' : tmps[b]?.getD undef = z := by rw [← h5]; simp
  simp [asAddr, h4', h5', go_sem, v0, v1]
theorem place_ret2 {fn : Func} {tmps : Array Value} {w : World} {Z a b : Nat} {p q z : Value} {K : Ending → World → Prop} (hr : fn.results = #[.cell a 75, .tmp b]) (h4 : tmps.getD a undef = .pointer (some ⟨Z, 0, none⟩)) (h5 : tmps.getD b undef = z)
    (hz : Holds w Z #[p, q]) (hk : K (.returned (.tuple #[.agg #[p, q], z])) w) : bodyPost Tryz.prog fn K .ret ⟨tmps, []⟩ w :=
  bodyPost_ret (place_out2 hr h4 h5 (hz.cell 0) (hz.cell 1)) rfl hk
theorem far2 {V : World} {Z b o : Nat} {u p q : Value} (h : V.cell? ⟨b, o, none⟩ = some u) (hn : b ≠ Z) : ((V.setCell ⟨Z, 0, none⟩ p).setCell ⟨Z, 1, none⟩ q).cell? ⟨b, o, none⟩ = some u := by
  rw [World.cell?_setCell_other _ _ _ _ (by intro hh; cases hh; exact hn rfl), World.cell?_setCell_other _ _ _ _ (by intro hh; cases hh; exact hn rfl)]
  exact h
theorem Mt.at_least {w W : World} {Z : Nat} {a b : Value} (hz : Holds W Z #[a, b]) (hb : Below w.heap.size w W) (h : w.heap.size ≤ Z) (p q : Value) : Holds ((W.setCell ⟨Z, 0, none⟩ p).setCell ⟨Z, 1, none⟩ q) Z #[p, q] ∧ Below w.heap.size w ((W.setCell ⟨Z, 0, none⟩ p).setCell ⟨Z, 1, none⟩ q) :=
  ⟨by simpa using (hz.set 0 p (by simp)).set 1 q (by simp), (hb.setCell h _).setCell h _⟩
theorem UpP.no {l : List Mt} {pm pn : Int} {w V : World} {Z : Nat} {a b : Value} {tmps : Array Value} (hz : Holds V Z #[a, b]) (hb : Below w.heap.size w V) (h : w.heap.size ≤ Z) (h4 : tmps.getD 4 undef = .pointer (some ⟨Z, 0, none⟩)) (h5 : tmps.getD 5 undef = .bool false) :
    bodyPost Tryz.prog Tryz.f121 (UpP l pm pn w) .ret ⟨tmps, []⟩ ((V.setCell ⟨Z, 0, none⟩ (.int .i64 pm)).setCell ⟨Z, 1, none⟩ (.int .i64 pn)) := by
  obtain ⟨q1, q2⟩ := Mt.at_least hz hb h (.int .i64 pm) (.int .i64 pn)
  exact place_ret2 rfl h4 h5 q1 ⟨q2, .inl rfl⟩
theorem UpP.yes {l : List Mt} {pn : Int} {k : Nat} {x : Mt} {w V : World} {Z : Nat} {a b : Value} {tmps : Array Value} (hz : Holds V Z #[a, b]) (hb : Below w.heap.size w V) (h : w.heap.size ≤ Z) (hk : 1 ≤ k) (hx : l[k]? = some x) (hl : x.live = true) (h4 : tmps.getD 4 undef = .pointer (some ⟨Z, 0, none⟩)) (h5 : tmps.getD 5 undef = .bool true) :
    bodyPost Tryz.prog Tryz.f121 (UpP l k pn w) .ret ⟨tmps, []⟩ ((V.setCell ⟨Z, 0, none⟩ (.int .i64 x.am)).setCell ⟨Z, 1, none⟩ (.int .i64 x.an)).drew := by
  obtain ⟨q1, q2⟩ := Mt.at_least hz hb h (.int .i64 x.am) (.int .i64 x.an)
  exact place_ret2 rfl h4 h5 q1.drew ⟨q2.drew, .inr ⟨k, x, rfl, hk, hx, hl, rfl⟩⟩
set_option maxRecDepth 100000 in
set_option maxHeartbeats 1000000 in
theorem up_any (S : Nat → Prop) (w : World) (tb : Nat) (v : Value) (l : List Mt) (h : TabAt S w tb v l) (pm pn : Int) : Calls Tryz.prog 121 #[.pointer (some ⟨tb, 0, none⟩), .agg #[.int .i64 pm, .int .i64 pn]] w (UpP l pm pn w) := by
  obtain ⟨S', hS', hS⟩ : ∃ S' : Nat → Prop, S' = (fun k => S k ∧ k < w.heap.size) ∧ ∀ k, S' k → k < w.heap.size := ⟨_, rfl, fun k hk => hk.2⟩
  replace h := h.lts
  rw [← hS'] at h
  have HS := Lib.hid hS
  clear hS' hS
  have hle := h.le
  have HB : Hid (Below w.heap.size w ((w.alloc (.cells #[.int .i64 pm, .int .i64 pn] 75)).alloc (.cells #[.int .i64 0, .int .i64 0] 75))) := Lib.hid (((Below.refl _ _).alloc (Nat.le_refl _) _).alloc (by simp) _)
  have HP : Hid (Holds ((w.alloc (.cells #[.int .i64 pm, .int .i64 pn] 75)).alloc (.cells #[.int .i64 0, .int .i64 0] 75)) w.heap.size #[.int .i64 pm, .int .i64 pn]) := Lib.hid ((Holds.new _ _ _).alloc _)
  have HZ : Hid (Holds ((w.alloc (.cells #[.int .i64 pm, .int .i64 pn] 75)).alloc (.cells #[.int .i64 0, .int .i64 0] 75)) (w.heap.size + 1) #[.int .i64 0, .int .i64 0]) := Lib.hid (by simpa using Holds.new (w.alloc (.cells #[.int .i64 pm, .int .i64 pn] 75)) #[.int .i64 0, .int .i64 0] 75)
  have HT := Lib.hid (h.fr (T := []) (fun _ h => h) (Fr.of_below (S := S') HB.out) (by simp) (by simp))
  clear h
  go_enter Tryz.func121, Tryz.ntmps121
  go_upto_region 1 with fail
  generalize (w.alloc (.cells #[.int .i64 pm, .int .i64 pn] 75)).alloc (.cells #[.int .i64 0, .int .i64 0] 75) = W at *
  have p0 : W.cell? ⟨w.heap.size, 0, none⟩ = some (.int .i64 pm) := HP.out.cell 0
  have p1 : W.cell? ⟨w.heap.size, 1, none⟩ = some (.int .i64 pn) := HP.out.cell 1
  have t0 : W.cell? ⟨tb, 0, none⟩ = some v := HT.out.blk.cell 0
  have HC : Hid (∀ n, Calls Tryz.prog 105 #[.pointer (some ⟨tb, 0, none⟩), .int .i64 pm] (W.drewN n) fun e w' => e = .returned (.bool (isM l pm)) ∧ w' = W.drewN n) := Lib.hid fun n => is_any S' _ tb _ l (HT.out.fr (T := []) (fun _ h => h) (Fr.of_below (S := S') (below_drewN (Below.refl _ _) n)) (by simp) (by simp)) pm
  have hw0 : Hid (∀ n, Holds (W.drewN n) w.heap.size #[.int .i64 pm, .int .i64 pn] ∧ Holds (W.drewN n) (w.heap.size + 1) #[.int .i64 0, .int .i64 0] ∧ Below w.heap.size w (W.drewN n) ∧ TabAt S' (W.drewN n) tb v l) := Lib.hid fun n => ⟨HP.out.drewN n, HZ.out.drewN n, below_drewN HB.out n, HT.out.fr (T := []) (fun _ h => h) (Fr.of_below (S := S') (below_drewN (Below.refl _ _) n)) (by simp) (by simp)⟩
  obtain ⟨P, hP⟩ : ∃ P, w.heap.size = P := ⟨_, rfl⟩
  obtain ⟨Z, hZ⟩ : ∃ Z, P + 1 = Z := ⟨_, rfl⟩
  have HE : Hid (w.heap.size = P ∧ P + 1 = Z) := Lib.hid ⟨hP, hZ⟩
  rw [hP] at p0 p1 ⊢
  rw [hZ] at ⊢
  have hw1 : Hid (∀ n, Holds (W.drewN n) P #[.int .i64 pm, .int .i64 pn] ∧ Holds (W.drewN n) Z #[.int .i64 0, .int .i64 0]) := Lib.hid fun n => by
    have := hw0.out n
    rw [hP, hZ] at this
    exact ⟨this.1, this.2.1⟩
  clear hP hZ HP HZ
  by_cases hp : pm = 0
  · subst hp
    go_quiet (exact Calls.quiet_of_same (HC.out _))
    have H5 := Lib.hid (And.intro (hw1.out nq) (hw0.out nq).2.2)
    generalize W.drewN nq = V at H5 ⊢
    have p0 : V.cell? ⟨P, 0, none⟩ = some (.int .i64 0) := H5.out.1.1.cell 0
    have p1 : V.cell? ⟨P, 1, none⟩ = some (.int .i64 pn) := H5.out.1.1.cell 1
    have z0 : V.cell? ⟨Z, 0, none⟩ = some (.int .i64 0) := H5.out.1.2.cell 0
    have z1 : V.cell? ⟨Z, 1, none⟩ = some (.int .i64 0) := H5.out.1.2.cell 1
    have zf := H5.out.1.2.free
    go_wp2_with fail
    exact UpP.no H5.out.1.2 H5.out.2.1 (by have := HE.out; omega) rfl rfl
  · have hb : (pm == 0) = false := by simpa using hp
    rcases hk : isM l pm with _ | _
    · rw [hk] at HC
      go_quiet (with_reducible exact Calls.quiet_of_same (HC.out _))
      have H5 := Lib.hid (And.intro (hw1.out nq) (hw0.out nq).2.2)
      generalize W.drewN nq = V at H5 ⊢
      have p0 : V.cell? ⟨P, 0, none⟩ = some (.int .i64 pm) := H5.out.1.1.cell 0
      have p1 : V.cell? ⟨P, 1, none⟩ = some (.int .i64 pn) := H5.out.1.1.cell 1
      have z0 : V.cell? ⟨Z, 0, none⟩ = some (.int .i64 0) := H5.out.1.2.cell 0
      have z1 : V.cell? ⟨Z, 1, none⟩ = some (.int .i64 0) := H5.out.1.2.cell 1
      have zf := H5.out.1.2.free
      go_wp2_with fail
      exact UpP.no H5.out.1.2 H5.out.2.1 (by have := HE.out; omega) rfl rfl
    · obtain ⟨k, x, rfl, hx, hlv⟩ := isM_true hk
      rw [hk] at HC
      have HK : Hid (1 ≤ k) := Lib.hid (by omega)
      have hkl := (List.getElem?_eq_some_iff.1 hx).1
      obtain ⟨f, o, cap, hv, _, c0, c1, c2, c3⟩ := HT.out.entry hx
      subst hv
      have k0 : (0 : Int) ≤ (k : Int) := by omega
      have k1 : (k : Int) < (l.length : Int) := by omega
      have HX := Lib.hid (And.intro hx hlv)
      clear hx hlv hk
      by_cases hn : x.node = pn
      · have hc : (x.node != pn) = false := by simpa using hn
        go_quiet (exact Calls.quiet_of_same (HC.out _))
        have H5 := Lib.hid (And.intro (hw1.out nq) (hw0.out nq).2.2)
        generalize W.drewN nq = V at H5 ⊢
        have p0 : V.cell? ⟨P, 0, none⟩ = some (.int .i64 k) := H5.out.1.1.cell 0
        have t0 : V.cell? ⟨tb, 0, none⟩ = some (.slice (some ⟨f, o, none⟩) l.length cap) := H5.out.2.2.blk.cell 0
        obtain ⟨f', o', cap', hv, sf, c0, c1, c2, c3⟩ := H5.out.2.2.entry HX.out.1
        cases hv
        have n1 : Hid (P ≠ Z ∧ tb ≠ Z ∧ f ≠ Z) := Lib.hid (by
          have := HS.out f sf
          have := HS.out tb H5.out.2.2.own
          have := HE.out
          omega)
        clear sf
        have z0 : V.cell? ⟨Z, 0, none⟩ = some (.int .i64 0) := H5.out.1.2.cell 0
        have z1 : V.cell? ⟨Z, 1, none⟩ = some (.int .i64 0) := H5.out.1.2.cell 1
        have zf := H5.out.1.2.free
        clear c2 c3
        go_upto_region 3 with fail
        go_region_held3 (fun w' => w'.cell? ⟨P, 0, none⟩ = some (.int .i64 k) ∧ w'.cell? ⟨tb, 0, none⟩ = some (.slice (some ⟨f, o, none⟩) l.length cap) ∧ w'.cell? ⟨f, o + k * 4, none⟩ = some (.int .i64 x.am) ∧ w'.cell? ⟨f, o + k * 4 + 1, none⟩ = some (.int .i64 x.an)) (first | exact ⟨p0, t0, c0, c1⟩ | exact ⟨far2 p0 n1.out.1, far2 t0 n1.out.2.1, far2 c0 n1.out.2.2, far2 c1 n1.out.2.2⟩) (fail)
        go_wp2_with fail
        exact UpP.yes H5.out.1.2 H5.out.2.1 (by have := HE.out; omega) HK.out HX.out.1 HX.out.2 rfl rfl
      · have hc : (x.node != pn) = true := by simpa using hn
        go_quiet (exact Calls.quiet_of_same (HC.out _))
        have H5 := Lib.hid (And.intro (hw1.out nq) (hw0.out nq).2.2)
        generalize W.drewN nq = V at H5 ⊢
        have p0 : V.cell? ⟨P, 0, none⟩ = some (.int .i64 k) := H5.out.1.1.cell 0
        have p1 : V.cell? ⟨P, 1, none⟩ = some (.int .i64 pn) := H5.out.1.1.cell 1
        have z0 : V.cell? ⟨Z, 0, none⟩ = some (.int .i64 0) := H5.out.1.2.cell 0
        have z1 : V.cell? ⟨Z, 1, none⟩ = some (.int .i64 0) := H5.out.1.2.cell 1
        have zf := H5.out.1.2.free
        go_wp2_with fail
        exact UpP.no H5.out.1.2 H5.out.2.1 (by have := HE.out; omega) rfl rfl
end Go.Proofs.YtfjghemojnhmbaaGreat
/- The table of mounts: one is taken away; one more. -/
namespace Go.Proofs.YtfjghemojnhmbaaGreat
open Go.RowKit

theorem mrows_len : ∀ l : List Mt, (mrows l).length = l.length * 4
  | [] => rfl
  | x :: l => by
    have := mrows_len l
    simp only [mrows, List.map_cons, List.flatten_cons, List.length_append, List.length_cons] at this ⊢
    rw [this]; simp [Mt.cells]; omega
theorem mrows_set : ∀ (l : List Mt) (i : Nat) (x : Mt) (b : Bool), l[i]? = some x → mrows (l.set i { x with live := b }) = (mrows l).set (i * 4 + 3) (.bool b)
  | [], i, x, b, h => by simp at h
  | y :: l, 0, x, b, h => by
    simp at h; subst h
    simp [mrows, Mt.cells]
  | y :: l, i + 1, x, b, h => by
    have := mrows_set l i x b (by simpa using h)
    simp only [mrows, List.map_cons, List.flatten_cons, List.set_cons_succ] at this ⊢
    rw [this]
    have e : (i + 1) * 4 + 3 = i * 4 + 3 + 1 + 1 + 1 + 1 := by omega
    rw [e]
    simp [Mt.cells]
theorem mrows_push (l : List Mt) (x : Mt) : mrows (l ++ [x]) = mrows l ++ x.cells := by simp [mrows]
theorem Win.setc {w : World} {base : Nat} {e : TypeId} {size f o cap n j : Nat} {xs : List Value} (h : Win w base e size (.slice (some ⟨f, o, none⟩) n cap) n xs) (hj : j < n * size) (x : Value) : Win (w.setCell ⟨f, o + j, none⟩ x) base e size (.slice (some ⟨f, o, none⟩) n cap) n (xs.set j x) := by
  obtain ⟨h1, h2 | ⟨f', o', cap', cur, h3, h4, h5, h6, h7, h8, h9⟩⟩ := h
  · cases h2.1
  · cases h3
    have hle : n * size ≤ cap * size := Nat.mul_le_mul_right _ h6
    refine ⟨by simpa using h1, .inr ⟨f, o, cap, _, rfl, h4, Blk.set h5 (o + j) x, h6, h7, by simpa using h8, fun i hi => ?_⟩⟩
    by_cases hij : j = i
    · subst hij
      rw [List.getElem?_set_self (by omega), Array.getElem?_setIfInBounds_self_of_lt (by omega)]
    · rw [List.getElem?_set_ne hij, Array.getElem?_setIfInBounds_ne (by omega)]
      exact h9 i hi
/-- The types that the table of mounts turns. -/
abbrev MT : List TypeId := [112, 115]
theorem TabAt.kill {S : Nat → Prop} {w : World} {tb f o cap i : Nat} {l : List Mt} {x : Mt} (h : TabAt S w tb (.slice (some ⟨f, o, none⟩) l.length cap) l) (hx : l[i]? = some x) :
    TabAt S (w.setCell ⟨f, o + i * 4 + 3, none⟩ (.bool false)) tb (.slice (some ⟨f, o, none⟩) l.length cap) (l.set i { x with live := false }) ∧ Fr S MT w (w.setCell ⟨f, o + i * 4 + 3, none⟩ (.bool false)) := by
  obtain ⟨cur, hb⟩ := h.row.blk
  have hlt := (List.getElem?_eq_some_iff.1 hx).1
  have := h.row.setc (j := i * 4 + 3) (by omega) (.bool false)
  rw [← Nat.add_assoc] at this
  refine ⟨⟨h.blk.other (by simpa using hb.ne h.blk (by decide)) _, h.own, ?_, h.rowS, by simpa using h.le⟩, Fr.one hb (h.rowS f rfl) (by simp) _⟩
  rw [mrows_set l i x false hx, List.length_set]
  exact this
/-- What Unbind does. -/
def UnbP (S : Nat → Prop) (tb : Nat) (l : List Mt) (m : Int) (w : World) (e : Ending) (w' : World) : Prop := ∃ (code : Int) (v : Value) (l' : List Mt), e = .returned (.int .i64 code) ∧ TabAt S w' tb v l' ∧ Fr S MT w w' ∧
  ((code ≠ 0 ∧ l' = l) ∨ (code = 0 ∧ ∃ (i : Nat) (x : Mt), m = i ∧ 1 ≤ i ∧ l[i]? = some x ∧ x.live = true ∧ l' = l.set i { x with live := false }))
theorem TabAt.below {S : Nat → Prop} {w w' : World} {tb : Nat} {v : Value} {l : List Mt} (h : TabAt S w tb v l) (b : Below w.heap.size w w') : TabAt S w' tb v l := h.fr (T := []) (fun _ h => h) (Fr.of_below (S := S) b) (by simp) (by simp)
set_option maxRecDepth 100000 in
theorem unbind_any (S : Nat → Prop) (w : World) (tb : Nat) (v : Value) (l : List Mt) (h : TabAt S w tb v l) (m : Int) : Calls Tryz.prog 104 #[.pointer (some ⟨tb, 0, none⟩), .int .i64 m] w (UnbP S tb l m w) := by
  have C1 := is_any S w tb v l h m
  have C2 := above_any S w tb v l h m
  have HT := Lib.hid h
  have hle := h.le
  clear h
  have HN : Hid (∀ (code : Int), code ≠ 0 → UnbP S tb l m w (.returned (.int .i64 code)) w) := Lib.hid fun code hc => ⟨code, v, l, rfl, HT.out, Fr.refl _ _ _, .inl ⟨hc, rfl⟩⟩
  go_enter Tryz.func104, Tryz.ntmps104
  by_cases hm : m = 0
  · subst hm
    go_wp2_with fail
    go_ret
    exact HN.out 1 (by omega)
  rcases hk : isM l m with _ | _
  · rw [hk] at C1
    go_wp2_with (first | (go_at_call 105; refine C1.mono ?_; rintro e w1 ⟨rfl, rfl⟩))
    go_ret
    exact HN.out 1 (by omega)
  · rw [hk] at C1
    obtain ⟨i, x, rfl, hx, hlv⟩ := isM_true hk
    have hlt := (List.getElem?_eq_some_iff.1 hx).1
    have HX := Lib.hid (And.intro hx hlv)
    have hi1 : 1 ≤ i := by omega
    clear hk hx hlv
    go_wp2_with (first | (go_at_call 105; refine C1.mono ?_; rintro e w1 ⟨rfl, rfl⟩))
    refine C2.mono ?_
    rintro e w2 ⟨u, xs, rfl, hu, hb⟩
    have HT2 := Lib.hid (HT.out.below hb)
    have HB := Lib.hid hb
    obtain ⟨ua, uc, rfl⟩ := hu.1.value
    clear hu hb
    obtain ⟨f, o, cap, hv, _, c0, c1, c2, c3⟩ := HT2.out.entry HX.out.1
    subst hv
    have t0 := HT2.out.blk.cell 0
    have k0 : (0 : Int) ≤ (i : Int) := by omega
    have k1 : (i : Int) < (l.length : Int) := by omega
    obtain ⟨cur, hbk⟩ := HT2.out.row.blk
    have ff := hbk.free
    clear c0 c1 c2 hbk
    by_cases hn : 0 < xs.length
    · go_wp2_with fail
      go_ret
      exact ⟨15, _, l, rfl, HT2.out, Fr.of_below HB.out, .inl ⟨by omega, rfl⟩⟩
    · go_wp2_with fail
      go_ret
      obtain ⟨q1, q2⟩ := HT2.out.kill HX.out.1
      exact ⟨0, _, _, rfl, q1, (Fr.of_below (S := S) HB.out).trans q2 (fun _ h => .inl h), .inr ⟨rfl, i, x, rfl, hi1, HX.out.1, HX.out.2, rfl⟩⟩

/-- A mount more. -/
theorem TabAt.push {S : Nat → Prop} {w w' : World} {tb f o cap : Nat} {v : Value} {l : List Mt} {x : Mt} (h : TabAt S w tb v l) (ha : AppTo w w' v f x.cells) (hw : Win w' 0 112 4 (.slice (some ⟨f, o, none⟩) (l.length + 1) cap) (l.length + 1) (mrows l ++ x.cells)) (hc : l.length + 1 ≤ 1000000) :
    (TabAt (fun k => S k ∨ k = f) (w'.setCell ⟨tb, 0, none⟩ (.slice (some ⟨f, o, none⟩) (l.length + 1) cap)) tb (.slice (some ⟨f, o, none⟩) (l.length + 1) cap) (l ++ [x]) ∧ Fr S MT w (w'.setCell ⟨tb, 0, none⟩ (.slice (some ⟨f, o, none⟩) (l.length + 1) cap)) ∧ (S f ∨ w.heap.size ≤ f)) ∧ w'.cell? ⟨tb, 0, none⟩ = some v ∧ w'.frozen? ⟨tb, 0, none⟩ = false := by
  have fr : Fr S [112] w w' := ha.fr h.row h.rowS (by simp)
  have hb : Blk w' tb 115 #[v] := h.blk.fr fr (by simp)
  obtain ⟨cur, hcur⟩ := hw.blk
  refine ⟨⟨⟨by simpa using hb.set 0 _, .inl h.own, ?_, fun k hk => by cases hk; exact .inr rfl, by simpa using hc⟩, (fr.mono (T' := MT) (fun _ h => .inl h) (by simp)).trans (Fr.one hb h.own (by simp) _) (fun _ h => .inl h), ha.own h.rowS⟩, hb.cell 0, hb.free 0⟩
  rw [mrows_push, List.length_append]
  refine hw.kept fun k hk => ?_
  cases hk
  exact Below.heap_setCell _ _ _ _ (by simpa using hcur.ne hb (by decide))
theorem info112 : (Tryz.prog.info? 112).map (fun i => (i.zero, i.size, i.bytes)) = some (some (.agg #[.int .i64 0, .int .i64 0, .int .i64 0, .bool false]), 4, 32) := by kernel_rfl
/-- What Bind does. -/
def BindP (S : Nat → Prop) (tb : Nat) (l : List Mt) (am an nd : Int) (w : World) (e : Ending) (w' : World) : Prop := ∃ (r code : Int) (S' : Nat → Prop) (v : Value) (l' : List Mt), e = .returned (.tuple #[.int .i64 r, .int .i64 code]) ∧ (∀ k, S k → S' k) ∧ (∀ k, S' k → S k ∨ w.heap.size ≤ k) ∧ TabAt S' w' tb v l' ∧ Fr S MT w w' ∧
  ((code ≠ 0 ∧ l' = l) ∨ (code = 0 ∧ isM l am = true ∧ l' = l ++ [⟨am, an, nd, true⟩]))
theorem BindP.no {S : Nat → Prop} {tb : Nat} {l : List Mt} {am an nd code : Int} {w w' : World} {v : Value} (h : TabAt S w' tb v l) (hb : Below w.heap.size w w') (hc : code ≠ 0) : BindP S tb l am an nd w (.returned (.tuple #[.int .i64 0, .int .i64 code])) w' :=
  ⟨0, code, S, v, l, rfl, fun _ h => h, fun _ h => .inl h, h, Fr.of_below hb, .inl ⟨hc, rfl⟩⟩
theorem bind_step {S : Nat → Prop} {w W : World} {tb f o cap : Nat} {v : Value} {l : List Mt} {am an nd : Int} {tmp : Obj} {w4 : World} (h : TabAt S W tb v l) (hb : Below w.heap.size w W) (hm : isM l am = true) (hc : l.length + 1 ≤ 1000000)
    (hw : Win w4 0 112 4 (.slice (some ⟨f, o, none⟩) (l.length + 1) cap) (l.length + 1) (mrows l ++ [.int .i64 am, .int .i64 an, .int .i64 nd, .bool true])) (ha : AppTo (W.alloc tmp) w4 v f [.int .i64 am, .int .i64 an, .int .i64 nd, .bool true]) :
    (∀ r : Int, BindP S tb l am an nd w (.returned (.tuple #[.int .i64 r, .int .i64 0])) (w4.setCell ⟨tb, 0, none⟩ (.slice (some ⟨f, o, none⟩) (l.length + 1) cap))) ∧ w4.cell? ⟨tb, 0, none⟩ = some v ∧ w4.frozen? ⟨tb, 0, none⟩ = false := by
  have b2 : Below w.heap.size w (W.alloc tmp) := hb.alloc hb.size tmp
  obtain ⟨⟨q1, q2, q3⟩, q4⟩ := (h.below ((Below.refl _ _).alloc (Nat.le_refl _) tmp)).push (x := ⟨am, an, nd, true⟩) ha hw hc
  have := b2.size
  exact ⟨fun r => ⟨r, 0, _, _, _, rfl, fun _ h => .inl h, fun k hk => hk.elim .inl fun e => by subst e; exact q3.imp id fun h => by omega, q1, (Fr.of_below (S := S) b2).trans q2 (fun _ h => .inl h), .inr ⟨rfl, hm, rfl⟩⟩, q4⟩
theorem cells4_new (w : World) (a b c d : Value) (ty : TypeId) : ∀ j u, [a, b, c, d][j]? = some u → (w.alloc (.cells #[a, b, c, d] ty)).cell? ((⟨w.heap.size, 0, none⟩ : Addr).add j) = some u := new_cells w [a, b, c, d] ty
set_option maxRecDepth 100000 in
set_option maxHeartbeats 1000000 in
theorem bind_any (S : Nat → Prop) (w : World) (tb : Nat) (v : Value) (l : List Mt) (h : TabAt S w tb v l) (hc : l.length + 1 ≤ 1000000) (am an nd : Int) : Calls Tryz.prog 67 #[.pointer (some ⟨tb, 0, none⟩), .agg #[.int .i64 am, .int .i64 an], .int .i64 nd] w (BindP S tb l am an nd w) := by
  obtain ⟨i112, hi, hz0, hz1, hz2⟩ := info_parts info112
  have HB : Hid (Below w.heap.size w (w.alloc (.cells #[.int .i64 am, .int .i64 an] 75))) := Lib.hid ((Below.refl _ _).alloc (Nat.le_refl _) _)
  have HP := Lib.hid (Holds.new w #[.int .i64 am, .int .i64 an] 75)
  have HT := Lib.hid (h.below HB.out)
  clear h
  go_enter Tryz.func67, Tryz.ntmps67
  go_upto_region 1 with fail
  generalize w.alloc (.cells #[.int .i64 am, .int .i64 an] 75) = W at *
  obtain ⟨P, hP⟩ : ∃ P, w.heap.size = P := ⟨_, rfl⟩
  rw [hP] at HP ⊢
  clear hP
  have p0 : W.cell? ⟨P, 0, none⟩ = some (.int .i64 am) := HP.out.cell 0
  have p1 : W.cell? ⟨P, 1, none⟩ = some (.int .i64 an) := HP.out.cell 1
  have C1 := is_any S W tb v l HT.out am
  have C2 := over_any S W tb v l HT.out am an
  rcases hk : isM l am with _ | _
  · rw [hk] at C1
    clear hk
    go_wp2_with (first | (go_at_call 105; refine C1.mono ?_; rintro e w1 ⟨rfl, rfl⟩))
    go_ret2
    exact .no HT.out HB.out (by omega)
  rw [hk] at C1
  have HK := Lib.hid hk
  clear hk
  go_wp2_with (first | (go_at_call 105; refine C1.mono ?_; rintro e w1 ⟨rfl, rfl⟩))
  refine C2.mono ?_
  rintro e w2 ⟨r, rfl, hb2, hr⟩
  have H2 : Hid (TabAt S w2 tb v l ∧ Below w.heap.size w w2 ∧ Holds w2 P #[.int .i64 am, .int .i64 an]) := Lib.hid ⟨HT.out.below hb2, HB.out.trans (hb2.mono HB.out.size), HP.out.below hb2⟩
  clear hb2
  have hr' : r = -1 ∨ 0 ≤ r := by
    rcases hr with rfl | ⟨i, x, rfl, _⟩
    · exact .inl rfl
    · exact .inr (by omega)
  clear hr
  rcases hr' with rfl | k0
  case inr =>
    go_wp2_with fail
    go_ret2
    exact .no H2.out.1 H2.out.2.1 (by omega)
  case inl =>
    have C3 := list_any S w2 tb v l H2.out.1
    go_wp2_with fail
    refine C3.mono ?_
    rintro e w3 ⟨u, xs, rfl, hu, hb⟩
    have H3 : Hid (TabAt S w3 tb v l ∧ Below w.heap.size w w3 ∧ Holds w3 P #[.int .i64 am, .int .i64 an]) := Lib.hid ⟨H2.out.1.below hb, H2.out.2.1.trans (hb.mono H2.out.2.1.size), H2.out.2.2.below hb⟩
    obtain ⟨ua, uc, rfl⟩ := hu.1.value
    clear hu hb p0 p1 C2 C3
    by_cases hn : 8 ≤ xs.length
    · have k0 : (8 : Int) ≤ (xs.length : Int) := by omega
      go_wp2_with fail
      go_ret2
      exact .no H3.out.1 H3.out.2.1 (by omega)
    · have k0 : ¬ (8 : Int) ≤ (xs.length : Int) := by omega
      have q0 : w3.cell? ⟨P, 0, none⟩ = some (.int .i64 am) := H3.out.2.2.cell 0
      have q1 : w3.cell? ⟨P, 1, none⟩ = some (.int .i64 an) := H3.out.2.2.cell 1
      have t0 : w3.cell? ⟨tb, 0, none⟩ = some v := H3.out.1.blk.cell 0
      have tlt : tb < w3.heap.size := H3.out.1.blk.lt
      have tn : ¬ tb = w3.heap.size := by omega
      have HD : Hid (TabAt S w3.drew tb v l ∧ Below w.heap.size w w3.drew) := Lib.hid ⟨H3.out.1.below (Below.refl _ _).drew, H3.out.2.1.drew⟩
      go_upto_region 7 with fail
      go_region_law (first | (refine step_append_two _ rfl (.tmp 25) (.tmp 29) 113 rfl 0 112 i112 _ 4 32 Tryz.underlying113 hi hz0 hz1 hz2 rfl (by decide) v l.length (mrows l) (by simp [Act.eval]) (HD.out.1.row.alloc _) ⟨w3.heap.size, 0, none⟩ 1 1 [.int .i64 am, .int .i64 an, .int .i64 nd, .bool true] (by simp [Act.eval]) rfl (cells4_new w3.drew _ _ _ _ _) (by simp [Value.oneCell']) (by decide) (by unfold maxLen; omega) (by omega) (Nat.zero_le _) ?_; intro f' o' cap' w4 hown happ; obtain ⟨HB4, q4, qf4⟩ := bind_step HD.out.1 HD.out.2 HK.out hc hown happ; have HB4 := Lib.hid HB4; clear hown happ))
      all_goals
        go_wp2_with fail
        go_ret2
        exact HB4.out _
end Go.Proofs.YtfjghemojnhmbaaGreat
