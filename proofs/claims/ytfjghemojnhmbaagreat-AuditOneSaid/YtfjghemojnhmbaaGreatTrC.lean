/- The tree: Stat. -/
import Derived.Test.YtfjghemojnhmbaaGreatTab
import Derived.Test.YtfjghemojnhmbaaGreatTr
namespace Go.Proofs.YtfjghemojnhmbaaGreat
open Go.RowKit

theorem size38 : (Tryz.prog.info? 38).map (·.size) = some 7 := by kernel_rfl
theorem Holds.range {w : World} {b : Nat} {cs : Array Value} (h : Holds w b cs) : w.rangeAt b 0 cs.toList := fun j v hv => by
  rw [Nat.zero_add, h.cell j]; simpa using hv
theorem Holds.there {w : World} {b : Nat} {cs : Array Value} (h : Holds w b cs) : w.there b 0 cs.size := fun j hj => by
  rw [Nat.zero_add, h.cell j]
  exact ⟨by simp [hj], h.free j⟩
theorem Holds.setAll {w : World} {b : Nat} {cs : Array Value} (h : Holds w b cs) (vs : List Value) (hl : vs.length = cs.size) : Holds (w.setCells b 0 vs) b vs.toArray := by
  have key : ∀ (vs : List Value) (o : Nat) (w : World) (cs : Array Value), Holds w b cs → o + vs.length = cs.size → Holds (w.setCells b o vs) b (cs.toList.take o ++ vs).toArray := by
    intro vs
    induction vs with
    | nil =>
      intro o w cs h hl
      have : cs.toList.take o = cs.toList := List.take_of_length_le (by simp at hl ⊢; omega)
      show Holds w b _
      simpa [this] using h
    | cons v vs ih =>
      intro o w cs h hl
      simp only [List.length_cons] at hl
      have := ih (o + 1) _ _ (h.set o v (by omega)) (by simp; omega)
      have e : (cs.setIfInBounds o v).toList.take (o + 1) ++ vs = cs.toList.take o ++ v :: vs := by
        rw [Array.toList_setIfInBounds, List.take_add_one, List.getElem?_set_self (by simp; omega), List.take_set_of_le (Nat.le_refl _)]
        simp
      rw [e] at this
      exact this
  have := key vs 0 w cs h (by omega)
  simpa using this
theorem Below.setCells {B b : Nat} {w a : World} (h : Below B a w) (hb : B ≤ b) : ∀ (vs : List Value) (o : Nat), Below B a (w.setCells b o vs) := by
  intro vs
  induction vs generalizing w with
  | nil => intro o; exact h
  | cons v vs ih => intro o; exact ih (h.setCell hb v) (o + 1)
theorem Holds.otherS {w : World} {b : Nat} {cs : Array Value} (h : Holds w b cs) {b' : Nat} (hb : b' ≠ b) : ∀ (vs : List Value) (o : Nat), Holds (w.setCells b' o vs) b cs := by
  intro vs
  induction vs generalizing w with
  | nil => intro o; exact h
  | cons v vs ih => intro o; exact ih (h.other (by simpa using hb) v) (o + 1)
theorem stat_out {fn : Func} {tmps : Array Value} {w : World} {Z a b : Nat} {s : Stt} {z : Value} (hr : fn.results = #[.cell a 38, .tmp b]) (h4 : tmps.getD a undef = .pointer (some ⟨Z, 0, none⟩)) (h5 : tmps.getD b undef = z)
    (h : Holds w Z s.cells.toArray) : (results fn tmps).run Tryz.prog w = .ok (.tuple #[s.val, z]) w := by
  unfold results
  rw [hr]
  have h4' : tmps[a]?.getD undef = .pointer (some ⟨Z, 0, none⟩) := by rw [← h4]; simp
  have h5' : tmps[b]?.getD undef = z := by rw [← h5]; simp
  have v0 : w.cell? ⟨Z, 0, none⟩ = some (.int .i64 s.node) := h.cell 0
  have v1 : w.cell? ⟨Z, 1, none⟩ = some (.int .i64 s.kind) := h.cell 1
  have v2 : w.cell? ⟨Z, 2, none⟩ = some (.int .i64 s.mode) := h.cell 2
  have v3 : w.cell? ⟨Z, 3, none⟩ = some (.int .i64 s.uid) := h.cell 3
  have v4 : w.cell? ⟨Z, 4, none⟩ = some (.int .i64 s.gid) := h.cell 4
  have v5 : w.cell? ⟨Z, 5, none⟩ = some (.int .i64 s.links) := h.cell 5
  have v6 : w.cell? ⟨Z, 6, none⟩ = some (.int .i64 s.size) := h.cell 6
  simp [asAddr, h4', h5', go_sem, v0, v1, v2, v3, v4, v5, v6]
  rfl
theorem stat_ret {fn : Func} {tmps : Array Value} {w : World} {Z a b : Nat} {s : Stt} {z : Value} {K : Ending → World → Prop} (hr : fn.results = #[.cell a 38, .tmp b]) (h4 : tmps.getD a undef = .pointer (some ⟨Z, 0, none⟩)) (h5 : tmps.getD b undef = z)
    (h : Holds w Z s.cells.toArray) (hk : K (.returned (.tuple #[s.val, z])) w) : bodyPost Tryz.prog fn K .ret ⟨tmps, []⟩ w :=
  bodyPost_ret (stat_out hr h4 h5 h) rfl hk
theorem Stt.one (s : Stt) : s.cells.toArray.all (·.oneCell') = true := all_oneCell_toArray (by simp [Stt.cells, Value.oneCell'])
def Stt.zero : Stt := ⟨0, 0, 0, 0, 0, 0, 0⟩
def Nd.stt (x : Nd) (k : Nat) (lk sz : Int) : Stt := ⟨k, x.kind, x.mode, x.uid, x.gid, lk, sz⟩
/-- What Stat answers. -/
def StatP (T : List (Option Nd)) (n : Int) (w : World) (e : Ending) (w' : World) : Prop := Below w.heap.size w w' ∧ ((lv T n = none ∧ e = .returned (.tuple #[Stt.zero.val, .bool false])) ∨
  ∃ (i : Nat) (x : Nd) (lk sz : Int), n = (i : Int) + 1 ∧ T[i]? = some (some x) ∧ 0 ≤ sz ∧ sz ≤ 1000000 ∧ e = .returned (.tuple #[(x.stt (i + 1) lk sz).val, .bool true]))
set_option maxRecDepth 100000 in
theorem stat_any {S : Nat → Prop} {w : World} {t c : Nat} {M : Int} {p : Nat} {v : Value} {bs : List Nat} {T : List (Option Nd)} (h : TreeAt S w t c M p v bs T) (hc : c ≤ 100000) (he : EL T) (n : Int) (hn : R64 n) :
    Calls Tryz.prog 86 #[.pointer (some ⟨t, 0, none⟩), .int .i64 n] w (StatP T n w) := by
  have HB : Hid (Below w.heap.size w (w.alloc (.cells Stt.zero.cells.toArray 38))) := Lib.hid ((Below.refl _ _).alloc (Nat.le_refl _) _)
  have HZ := Lib.hid (Holds.new w Stt.zero.cells.toArray 38)
  have HH := Lib.hid (h.below HB.out)
  have HE := Lib.hid he
  have zc : Hid (Stt.zero.cells.toArray = #[.int .i64 0, .int .i64 0, .int .i64 0, .int .i64 0, .int .i64 0, .int .i64 0, .int .i64 0]) := Lib.hid rfl
  clear h he
  go_enter Tryz.func86, Tryz.ntmps86
  rw [zc.out] at HB HZ HH
  go_upto_region 1 with fail
  generalize w.alloc (.cells #[.int .i64 0, .int .i64 0, .int .i64 0, .int .i64 0, .int .i64 0, .int .i64 0, .int .i64 0] 38) = W at *
  obtain ⟨Z, hZ⟩ : ∃ Z, w.heap.size = Z := ⟨_, rfl⟩
  have HZZ := Lib.hid hZ
  rw [hZ] at HZ ⊢
  clear hZ
  have C1 := nat_any HH.out hc n hn
  go_wp2_with fail
  refine C1.mono ?_
  rintro e w' ⟨rfl, ⟨hl, rfl⟩ | ⟨i, x, b, rfl, hx, hb, rfl⟩⟩
  · have HL := Lib.hid hl
    clear hl
    go_upto_region 3 with fail
    go_wp2_with (first | (refine wpList_store_mid rfl 38 (.tmp 4) (.tmp 13) rfl Z 0 Stt.zero.cells.toArray rfl rfl HZ.out.there size38 (Stt.one _) ?_))
    trace_state
    refine stat_ret (Z := Z) (s := Stt.zero) (z := .bool false) rfl rfl rfl ?_ ⟨?_, .inl ⟨HL.out, rfl⟩⟩
    · exact HZ.out.setAll Stt.zero.cells rfl
    · exact Below.setCells HB.out (by rw [HZZ.out]; exact Nat.le_refl _) _ _
  · obtain ⟨u, hu⟩ := HH.out.nd i x b hx hb
    have C2 := fun (X : World) (hX : Below w'.heap.size w' X) => links_any (HH.out.below hX) hc HE.out hx
    have HC2 := Lib.hid C2
    have HX := Lib.hid hx
    have ho := HH.out.ok i x hx
    have HO := Lib.hid ho
    have hel := ho.el
    have htx := ho.tx
    have HN := Lib.hid hu
    have bl := hu.blk.lt
    obtain ⟨ua, uc, rfl⟩ := hu.row.value
    have R1 : w'.rangeAt b 0 (x.stt (i + 1) 0 0).cells := by
      have := hu.cs
      intro j y hy
      have hj : j < 7 := (List.getElem?_eq_some_iff.1 hy).1
      rw [Nat.zero_add]
      match j, hj with
      | 0, _ => exact this.c0.trans hy
      | 1, _ => exact this.c1.trans hy
      | 2, _ => exact this.c2.trans hy
      | 3, _ => exact this.c3.trans hy
      | 4, _ => exact this.c4.trans hy
      | 5, _ => exact this.c5.trans hy
      | 6, _ => exact this.c6.trans hy
    have HL := Lib.hid (Holds.new w' Stt.zero.cells.toArray 38)
    have HBl := Lib.hid ((Below.refl w'.heap.size w').alloc (Nat.le_refl _) (.cells Stt.zero.cells.toArray 38))
    have HZl : Hid (Holds (w'.alloc (.cells Stt.zero.cells.toArray 38)) Z Stt.zero.cells.toArray) := Lib.hid (HZ.out.alloc _)
    rw [zc.out] at HL HBl HZl
    clear C2 ho hu hx hb
    go_upto_region 5 with (first | (refine wpList_load_mid rfl 38 (.tmp 16) rfl b 0 rfl (x.stt (i + 1) 0 0).cells _ R1 Tryz.underlying38 rfl size38 ?_) | (refine wpList_store_mid rfl 38 (.tmp 7) (.tmp 17) rfl w'.heap.size 0 (x.stt (i + 1) 0 0).cells.toArray rfl rfl HL.out.there size38 (Stt.one _) ?_))
    have zl : Z < w'.heap.size := HZ.out.lt
    have HV : Hid (Below w'.heap.size w' ((w'.alloc (.cells #[.int .i64 0, .int .i64 0, .int .i64 0, .int .i64 0, .int .i64 0, .int .i64 0, .int .i64 0] 38)).setCells w'.heap.size 0 (x.stt (i + 1) 0 0).cells) ∧ Holds ((w'.alloc (.cells #[.int .i64 0, .int .i64 0, .int .i64 0, .int .i64 0, .int .i64 0, .int .i64 0, .int .i64 0] 38)).setCells w'.heap.size 0 (x.stt (i + 1) 0 0).cells) w'.heap.size (x.stt (i + 1) 0 0).cells.toArray ∧ Holds ((w'.alloc (.cells #[.int .i64 0, .int .i64 0, .int .i64 0, .int .i64 0, .int .i64 0, .int .i64 0, .int .i64 0] 38)).setCells w'.heap.size 0 (x.stt (i + 1) 0 0).cells) Z #[.int .i64 0, .int .i64 0, .int .i64 0, .int .i64 0, .int .i64 0, .int .i64 0, .int .i64 0]) := Lib.hid ⟨Below.setCells HBl.out (Nat.le_refl _) _ _, HL.out.setAll _ rfl, HZl.out.otherS (by omega) _ _⟩
    generalize (w'.alloc (.cells #[.int .i64 0, .int .i64 0, .int .i64 0, .int .i64 0, .int .i64 0, .int .i64 0, .int .i64 0] 38)).setCells w'.heap.size 0 (x.stt (i + 1) 0 0).cells = V at HV ⊢
    obtain ⟨L, hL⟩ : ∃ L, w'.heap.size = L := ⟨_, rfl⟩
    have HLL := Lib.hid hL
    have HZL : Hid (Z ≠ L) := Lib.hid (by omega)
    have HBV : Hid (Below w.heap.size w V) := Lib.hid (HB.out.trans (HV.out.1.mono HB.out.size))
    have C3 := HC2.out V HV.out.1
    have HNV : Hid (TreeAt S V t c M p v bs T ∧ NdC V b (i + 1) x (.slice ua x.es.length uc)) := Lib.hid ⟨HH.out.below HV.out.1, (HN.out.fr (T := []) (fun _ h => h) (Fr.of_below (S := S) HV.out.1) (by simp) (by simp)).cs⟩
    rw [hL] at HV ⊢
    clear R1 HL HBl HZl HC2 hL
    have l1 : V.cell? ⟨L, 1, none⟩ = some (.int .i64 x.kind) := HV.out.2.1.cell 1
    have l5 : V.cell? ⟨L, 5, none⟩ = some (.int .i64 0) := HV.out.2.1.cell 5
    have l6 : V.cell? ⟨L, 6, none⟩ = some (.int .i64 0) := HV.out.2.1.cell 6
    have lf := HV.out.2.1.free
    have bL : ¬ b = L := by have := HLL.out; omega
    have tL : ¬ t = L := by have := HLL.out; have := HH.out.blk.lt; omega
    have n7 := HNV.out.2.c7
    have n8 := HNV.out.2.c8
    have n12 := HNV.out.2.c12
    have t1 := HNV.out.1.cells.2.1
    have HQ : Hid (∀ (lk sz : Int) (W : World), Below w.heap.size w W → Holds W L (x.stt (i + 1) lk 0).cells.toArray → Holds W Z #[.int .i64 0, .int .i64 0, .int .i64 0, .int .i64 0, .int .i64 0, .int .i64 0, .int .i64 0] → 
        Holds (W.setCell ⟨L, 6, none⟩ (.int .i64 sz)) L (x.stt (i + 1) lk sz).cells.toArray ∧ Holds (W.setCell ⟨L, 6, none⟩ (.int .i64 sz)) Z #[.int .i64 0, .int .i64 0, .int .i64 0, .int .i64 0, .int .i64 0, .int .i64 0, .int .i64 0] ∧ Below w.heap.size w (W.setCell ⟨L, 6, none⟩ (.int .i64 sz))) := Lib.hid (by
      intro lk sz W h1 h2 h3
      have := HB.out.size
      exact ⟨by simpa [Stt.cells, Nd.stt] using h2.set 6 (.int .i64 sz) (by simp [Stt.cells]), h3.other (by have := HZL.out; simp; omega) _, h1.setCell (by have := HLL.out; simp; omega) _⟩)
    have HF : Hid (∀ (lk sz : Int) (W : World) (tmps : Array Value), 0 ≤ sz → sz ≤ 1000000 → Below w.heap.size w W → Holds W Z #[.int .i64 0, .int .i64 0, .int .i64 0, .int .i64 0, .int .i64 0, .int .i64 0, .int .i64 0] → tmps.getD 4 undef = .pointer (some ⟨Z, 0, none⟩) → tmps.getD 5 undef = .bool true →
        bodyPost Tryz.prog Tryz.f86 (StatP T ((i : Int) + 1) w) .ret ⟨tmps, []⟩ (W.setCells Z 0 (x.stt (i + 1) lk sz).cells)) := Lib.hid (by
      intro lk sz W tmps h0 h1 h2 h3 h4 h5
      refine stat_ret (Z := Z) (s := x.stt (i + 1) lk sz) (z := .bool true) rfl h4 h5 ?_ ⟨?_, .inr ⟨i, x, lk, sz, rfl, HX.out, h0, h1, rfl⟩⟩
      · exact h3.setAll _ rfl
      · exact Below.setCells h2 (by rw [HZZ.out]; exact Nat.le_refl _) _ _)
    have hk : x.kind = 1 ∨ x.kind = 2 ∨ x.kind = 3 := by have := HO.out.k0; have := HO.out.k1; omega
    go_wp2_with fail
    refine C3.mono ?_
    rintro e w2 ⟨lk, rfl, rfl, lk0, lk1⟩
    have HP : Hid (Below w.heap.size w (w2.setCell ⟨L, 5, none⟩ (.int .i64 lk)) ∧ Holds (w2.setCell ⟨L, 5, none⟩ (.int .i64 lk)) L (x.stt (i + 1) lk 0).cells.toArray ∧ Holds (w2.setCell ⟨L, 5, none⟩ (.int .i64 lk)) Z #[.int .i64 0, .int .i64 0, .int .i64 0, .int .i64 0, .int .i64 0, .int .i64 0, .int .i64 0]) := Lib.hid (by
      have := HB.out.size
      exact ⟨HBV.out.setCell (by have := HLL.out; simp; omega) _, by simpa [Stt.cells, Nd.stt] using HV.out.2.1.set 5 (.int .i64 lk) (by simp [Stt.cells]), HV.out.2.2.other (by have := HZL.out; simp; omega) _⟩)
    rcases hk with hk | hk | hk
    · go_upto_region 13 with fail
      obtain ⟨HW1, HW2, HW3⟩ := HQ.out lk x.es.length _ HP.out.1 HP.out.2.1 HP.out.2.2
      generalize (w2.setCell ⟨L, 5, none⟩ (.int .i64 lk)).setCell ⟨L, 6, none⟩ (.int .i64 x.es.length) = W9 at HW1 HW2 HW3 ⊢
      have R9 := HW1.range
      go_wp2_with (first | (refine wpList_load_mid rfl 38 (.tmp 7) rfl L 0 rfl (x.stt (i + 1) lk x.es.length).cells _ R9 Tryz.underlying38 rfl size38 ?_) | (refine wpList_store_mid rfl 38 (.tmp 4) (.tmp 52) rfl Z 0 (x.stt (i + 1) lk x.es.length).cells.toArray rfl rfl HW2.there size38 (Stt.one _) ?_))
      exact HF.out _ _ _ _ (by omega) (by omega) HW3 HW2 rfl rfl
    · have hB5 : Below w'.heap.size w' (w2.setCell ⟨L, 5, none⟩ (.int .i64 lk)).drew := by
        rw [HLL.out]
        exact (HV.out.1.setCell (Nat.le_refl _) _).drew
      have C4 := size_any S _ p c ((HH.out.below hB5).pool) (by omega) x.file (by have := HO.out.f0; omega) (by have := HO.out.f1; omega)
      have f12 : (w2.setCell ⟨L, 5, none⟩ (.int .i64 lk)).cell? ⟨b, 12, none⟩ = some (.int .i64 x.file) := by simp [go_sem, n12]
      have ft1 : (w2.setCell ⟨L, 5, none⟩ (.int .i64 lk)).cell? ⟨t, 1, none⟩ = some (.pointer (some ⟨p, 0, none⟩)) := by simp [go_sem, t1]
      have fl6 : (w2.setCell ⟨L, 5, none⟩ (.int .i64 lk)).cell? ⟨L, 6, none⟩ = some (.int .i64 0) := by simp [go_sem, l6]
      have ff6 : (w2.setCell ⟨L, 5, none⟩ (.int .i64 lk)).frozen? ⟨L, 6, none⟩ = false := by simp [go_sem, lf]
      clear hB5
      go_upto_region 10 with fail
      generalize w2.setCell ⟨L, 5, none⟩ (.int .i64 lk) = V5 at HP C4 f12 ft1 fl6 ff6 ⊢
      go_region_held3 (fun X => X.cell? ⟨b, 12, none⟩ = some (.int .i64 x.file) ∧ X.cell? ⟨t, 1, none⟩ = some (.pointer (some ⟨p, 0, none⟩))) (first | exact ⟨f12, ft1⟩ | (refine ⟨?_, ?_⟩; simp [go_sem, f12]; simp [go_sem, ft1])) (first | (go_at_call 116; refine C4.mono ?_; rintro e w6 ⟨sz, rfl, rfl, sz0, sz1⟩))
      obtain ⟨HW1, HW2, HW3⟩ := HQ.out lk sz _ HP.out.1 HP.out.2.1 HP.out.2.2
      replace HW1 := HW1.drew
      replace HW2 := HW2.drew
      replace HW3 := HW3.drew
      generalize (V5.setCell ⟨L, 6, none⟩ (.int .i64 sz)).drew = W9 at HW1 HW2 HW3 ⊢
      have R9 := HW1.range
      go_wp2_with (first | (refine wpList_load_mid rfl 38 (.tmp 7) rfl L 0 rfl (x.stt (i + 1) lk sz).cells _ R9 Tryz.underlying38 rfl size38 ?_) | (refine wpList_store_mid rfl 38 (.tmp 4) (.tmp 52) rfl Z 0 (x.stt (i + 1) lk sz).cells.toArray rfl rfl HW2.there size38 (Stt.one _) ?_))
      exact HF.out _ _ _ _ (by omega) (by omega) HW3 HW2 rfl rfl
    · go_upto_region 13 with fail
      obtain ⟨HW1, HW2, HW3⟩ := HQ.out lk x.text.size _ HP.out.1 HP.out.2.1 HP.out.2.2
      generalize (w2.setCell ⟨L, 5, none⟩ (.int .i64 lk)).setCell ⟨L, 6, none⟩ (.int .i64 x.text.size) = W9 at HW1 HW2 HW3 ⊢
      have R9 := HW1.range
      go_wp2_with (first | (refine wpList_load_mid rfl 38 (.tmp 7) rfl L 0 rfl (x.stt (i + 1) lk x.text.size).cells _ R9 Tryz.underlying38 rfl size38 ?_) | (refine wpList_store_mid rfl 38 (.tmp 4) (.tmp 52) rfl Z 0 (x.stt (i + 1) lk x.text.size).cells.toArray rfl rfl HW2.there size38 (Stt.one _) ?_))
      exact HF.out _ _ _ _ (by omega) (by omega) HW3 HW2 rfl rfl
end Go.Proofs.YtfjghemojnhmbaaGreat
/- The tree: names are found. -/
namespace Go.Proofs.YtfjghemojnhmbaaGreat
open Go.RowKit

theorem sne {a b : ByteArray} (h : ¬ a = b) : (a.toList == b.toList) = false := by
  refine beq_eq_false_iff_ne.2 fun e => h ?_
  rw [ByteArray.toList_eq, ByteArray.toList_eq] at e
  cases a; cases b
  simp at e
  rw [e]
theorem sqq {a b : ByteArray} (h : a = b) : (a.toList == b.toList) = true := by rw [h]; simp
/-- The first entry of a name. -/
structure First (es : List (ByteArray × Nat)) (s : ByteArray) (i : Nat) (e : ByteArray × Nat) : Prop where
  at_ : es[i]? = some e
  nm : e.1 = s
  lt : ∀ (j : Nat) (e' : ByteArray × Nat), j < i → es[j]? = some e' → e'.1 ≠ s
def NoName (es : List (ByteArray × Nat)) (s : ByteArray) : Prop := ∀ e ∈ es, e.1 ≠ s
theorem First.inj {es : List (ByteArray × Nat)} {s : ByteArray} {i j : Nat} {e f : ByteArray × Nat} (h : First es s i e) (k : First es s j f) : i = j ∧ e = f := by
  have : i = j := by
    rcases Nat.lt_trichotomy i j with q | q | q
    · exact absurd h.nm (k.lt i e q h.at_)
    · exact q
    · exact absurd k.nm (h.lt j f q k.at_)
  subst this
  have := h.at_.symm.trans k.at_
  cases this
  exact ⟨rfl, rfl⟩
theorem First.no {es : List (ByteArray × Nat)} {s : ByteArray} {i : Nat} {e : ByteArray × Nat} (h : First es s i e) (k : NoName es s) : False := k e (List.mem_of_getElem? h.at_) h.nm
/-- What 'find' answers. -/
def FindP (es : List (ByteArray × Nat)) (s : ByteArray) (w : World) (e : Ending) (w' : World) : Prop := w' = w ∧ ((NoName es s ∧ e = .returned (.int .i64 (-1))) ∨ ∃ (i : Nat) (f : ByteArray × Nat), First es s i f ∧ e = .returned (.int .i64 i))
set_option maxRecDepth 100000 in
theorem find_any {S : Nat → Prop} {w : World} {b k : Nat} {x : Nd} {u : Value} (h : NdAt S w b k x u) (hl : x.es.length ≤ 100000) (s : ByteArray) : Calls Tryz.prog 92 #[.pointer (some ⟨b, 0, none⟩), .string s] w (FindP x.es s w) := by
  have c8 := h.cs.c8
  have HN := Lib.hid h
  obtain ⟨ua, uc, rfl⟩ := h.row.value
  clear h
  go_enter Tryz.func92, Tryz.ntmps92
  go_wp2_with fail
  go_loopw [5] (fun iv wr => ∃ i : Nat, i ≤ x.es.length ∧ iv = .int .i64 i ∧ Hid (∀ (j : Nat) (e : ByteArray × Nat), j < i → x.es[j]? = some e → e.1 ≠ s) ∧ wr = w) (fun iv _ => x.es.length - (intOf iv).toNat)
  case atStart => exact ⟨0, by omega, rfl, Lib.hid (fun j e hj => by omega), rfl⟩
  case round =>
    obtain ⟨i, hi, rfl, HI, rfl⟩ := hrel
    by_cases hlt : i < x.es.length
    · have hee : x.es[i]? = some x.es[i] := List.getElem?_eq_getElem hlt
      generalize x.es[i] = ee at hee
      obtain ⟨f, o, cap, q1, q2, q3⟩ := HN.out.entry hee
      cases q1
      have HE := Lib.hid hee
      have k0 : (0 : Int) ≤ (i : Int) := by omega
      have k1 : (i : Int) < (x.es.length : Int) := by omega
      clear q3 hee
      by_cases hn : ee.1 = s
      · have hb := sqq hn
        have HF : Hid (First x.es s i ee) := Lib.hid ⟨HE.out, hn, HI.out⟩
        clear hn
        go_wp2_with fail
        go_ret
        exact ⟨rfl, .inr ⟨i, ee, HF.out, rfl⟩⟩
      · have hb := sne hn
        have HF : Hid (∀ (j : Nat) (e : ByteArray × Nat), j < i + 1 → x.es[j]? = some e → e.1 ≠ s) := Lib.hid (by
          intro j e hj he
          by_cases hji : j = i
          · subst hji
            rw [HE.out] at he; cases he
            exact hn
          · exact HI.out j e (by omega) he)
        clear hn
        go_wp2_with fail
        go_roundw
        case rel => exact ⟨i + 1, by omega, by go_num, HF, by first | trivial | rfl⟩
        case measure => simp [intOf]; omega
    · have k1 : ¬ (i : Int) < (x.es.length : Int) := by omega
      go_wp2_with fail
      go_ret
      refine ⟨rfl, .inl ⟨fun e he => ?_, rfl⟩⟩
      obtain ⟨j, hj, q⟩ := List.getElem_of_mem he
      exact HI.out j e (by omega) (by rw [← q]; exact List.getElem?_eq_getElem hj)
/-- The same world but for draws. -/
def Drw (w w' : World) : Prop := ∃ m, w' = w.drewN m
theorem Drw.refl (w : World) : Drw w w := ⟨0, rfl⟩
theorem Drw.below {w w' : World} (h : Drw w w') : Below w.heap.size w w' := by obtain ⟨m, rfl⟩ := h; exact below_drewN (Below.refl _ _) m
/-- What 'Find' answers. -/
def FndP (T : List (Option Nd)) (n : Int) (s : ByteArray) (w : World) (e : Ending) (w' : World) : Prop := Drw w w' ∧ (((∀ x, lv T n = some x → x.kind = 1 → NoName x.es s) ∧ e = .returned (.tuple #[.int .i64 0, .bool false])) ∨
  ∃ (x : Nd) (i : Nat) (f : ByteArray × Nat), lv T n = some x ∧ x.kind = 1 ∧ First x.es s i f ∧ e = .returned (.tuple #[.int .i64 (f.2 : Int), .bool true]))
set_option maxRecDepth 100000 in
theorem fnd_any {S : Nat → Prop} {w : World} {t c : Nat} {M : Int} {p : Nat} {v : Value} {bs : List Nat} {T : List (Option Nd)} (h : TreeAt S w t c M p v bs T) (hc : c ≤ 100000) (n : Int) (hn : R64 n) (s : ByteArray) : Calls Tryz.prog 109 #[.pointer (some ⟨t, 0, none⟩), .int .i64 n, .string s] w (FndP T n s w) := by
  have C1 := dir_any h hc n hn
  have HT := Lib.hid h
  clear h
  go_enter Tryz.func109, Tryz.ntmps109
  go_wp2_with fail
  refine C1.mono ?_
  rintro e w' ⟨rfl, ⟨hl, rfl⟩ | ⟨i, x, b, rfl, hx, hb, hk, rfl⟩⟩
  · have HL := Lib.hid hl
    clear hl
    go_wp2_with fail
    go_ret2
    exact ⟨Drw.refl _, .inl ⟨fun x hx hk => absurd hk (HL.out x hx), rfl⟩⟩
  · obtain ⟨u, hu⟩ := HT.out.nd i x b hx hb
    have hel := (HT.out.ok i x hx).el
    have C2 := find_any hu (by omega) s
    have C3 : Hid (∀ n, Calls Tryz.prog 92 #[.pointer (some ⟨b, 0, none⟩), .string s] (w'.drewN n) (FindP x.es s (w'.drewN n))) := Lib.hid fun n => find_any (hu.fr (T := []) (fun _ h => h) (Fr.of_below (S := S) (below_drewN (Below.refl _ _) n)) (by simp) (by simp)) (by omega) s
    have HU := Lib.hid hu
    have HX := Lib.hid (And.intro hx hk)
    have c8 := hu.cs.c8
    clear hu hx hb hk
    go_wp2_with fail
    refine C2.mono ?_
    rintro e w' ⟨rfl, ⟨hno, rfl⟩ | ⟨j, f, hf, rfl⟩⟩
    · have HL := Lib.hid hno
      clear hno
      go_wp2_with fail
      go_ret2
      exact ⟨Drw.refl _, .inl ⟨fun y hy _ => by rw [lv_of HX.out.1] at hy; cases hy; exact HL.out, rfl⟩⟩
    · have hjl := (List.getElem?_eq_some_iff.1 hf.at_).1
      obtain ⟨g, o, cap, q1, q2, q3⟩ := HU.out.entry hf.at_
      subst q1
      have HF := Lib.hid hf
      have k0 : ¬ (j : Int) < 0 := by omega
      have k1 : (0 : Int) ≤ (j : Int) := by omega
      have k2 : (j : Int) < (x.es.length : Int) := by omega
      have C4 : Hid (∀ n, Calls Tryz.prog 92 #[.pointer (some ⟨b, 0, none⟩), .string s] (w'.drewN n) fun e w2 => e = .returned (.int .i64 j) ∧ w2 = w'.drewN n) := Lib.hid fun n => (C3.out n).mono (by
        rintro e w2 ⟨rfl, ⟨hno, rfl⟩ | ⟨j', f', hf', rfl⟩⟩
        · exact (hf.no hno).elim
        · obtain ⟨rfl, rfl⟩ := hf.inj hf'
          exact ⟨rfl, rfl⟩)
      clear hf q2 C3 C2 C1
      go_upto_region 4 with fail
      go_quiet (exact Calls.quiet_of_same (C4.out _))
      go_wp2_with fail
      go_ret2
      exact ⟨⟨nq, rfl⟩, .inr ⟨x, j, f, lv_of HX.out.1, HX.out.2, HF.out, rfl⟩⟩
end Go.Proofs.YtfjghemojnhmbaaGreat
/- The tree: the names in a Dir. -/
namespace Go.Proofs.YtfjghemojnhmbaaGreat
open Go.RowKit

/-- Names in memory of their own. -/
def NamesP (w : World) (e : Ending) (w' : World) : Prop := ∃ (v : Value) (ps : List ByteArray), e = .returned v ∧ Parts w' w.heap.size v ps ∧ ps.length ≤ 100000 ∧ Below w.heap.size w w'
structure NmI (w wr : World) (v : Value) (n : Nat) (ps : List ByteArray) : Prop where
  len : ps.length = n
  win : Win wr w.heap.size 9 1 v n (strs ps)
  rg : ∀ p ∈ ps, p.size ≤ 5000
  bel : Below w.heap.size w wr
theorem NmI.alloc {w wr : World} {v : Value} {n : Nat} {ps : List ByteArray} (h : NmI w wr v n ps) (o : Obj) : NmI w (wr.alloc o) v n ps := ⟨h.len, h.win.alloc o, h.rg, h.bel.alloc h.bel.size o⟩
theorem NmI.push {w wr w4 : World} {v v' : Value} {n : Nat} {b : ByteArray} {ps : List ByteArray} (h : NmI w wr v n ps) (hw : Win w4 w.heap.size 9 1 v' (n + 1) (strs ps ++ [.string b])) (hg : wr.grownBy w4 v.ownBlock) (hb : b.size ≤ 5000) : NmI w w4 v' (n + 1) (ps ++ [b]) := by
  refine ⟨by simp [h.len], by simpa [strs] using hw, fun x hx => ?_, h.bel.trans (Frm.below (l := v.ownBlock.toList) (Frm.of_grown hg fun k hk _ => by rw [hk]; simp) h.bel.size fun k hk => (h.win.lt k (by simpa using hk)).1)⟩
  rcases List.mem_append.1 hx with h' | h'
  · exact h.rg x h'
  · simp at h'; subst h'; exact hb
set_option maxRecDepth 100000 in
theorem names_any {S : Nat → Prop} {w : World} {t c : Nat} {M : Int} {p : Nat} {v : Value} {bs : List Nat} {T : List (Option Nd)} (h : TreeAt S w t c M p v bs T) (hc : c ≤ 100000) (n : Int) (hn : R64 n) : Calls Tryz.prog 77 #[.pointer (some ⟨t, 0, none⟩), .int .i64 n] w (NamesP w) := by
  have C1 := dir_any h hc n hn
  obtain ⟨i9, h91, h92, h93, h94⟩ := info_parts info9
  have HT := Lib.hid h
  clear h
  go_enter Tryz.func77, Tryz.ntmps77
  go_wp2_with fail
  refine C1.mono ?_
  rintro e w' ⟨rfl, ⟨hl, rfl⟩ | ⟨i, x, b, rfl, hx, hb, hk, rfl⟩⟩
  · clear hl
    go_wp2_with fail
    go_ret
    exact ⟨_, [], rfl, Parts.nil _ _, by simp, Below.refl _ _⟩
  · obtain ⟨u, hu⟩ := HT.out.nd i x b hx hb
    have ho := HT.out.ok i x hx
    have hel := ho.el
    have HU := Lib.hid (And.intro hu ho)
    obtain ⟨ua, uc, rfl⟩ := hu.row.value
    clear hu hx hb hk ho
    go_wp2_with fail
    go_loopw [7, 6] (fun iv v wr => ∃ i : Nat, i ≤ x.es.length ∧ iv = .int .i64 i ∧ Hid (∃ ps, NmI w' wr v i ps)) (fun iv _ _ => x.es.length - (intOf iv).toNat)
    case atStart => exact ⟨0, by omega, rfl, Lib.hid ⟨[], rfl, Win.nil _ _ _ _, by simp, Below.refl _ _⟩⟩
    case round =>
      obtain ⟨i, hi, rfl, HI⟩ := hrel
      rename_i u wr
      obtain ⟨ps, hx⟩ := HI.out
      have HX := Lib.hid hx
      obtain ⟨ua, uc, rfl⟩ := hx.win.value
      have HT := Lib.hid (HU.out.1.fr (T := []) (fun _ h => h) (Fr.of_below (S := S) hx.bel) (by simp) (by simp))
      clear hx
      have wsz := HX.out.bel.size
      have c8 := HT.out.cs.c8
      by_cases hlt : i < x.es.length
      · have k0 : (0 : Int) ≤ (i : Int) := by omega
        have k1 : (i : Int) < (x.es.length : Int) := by omega
        have hee : x.es[i]? = some x.es[i] := List.getElem?_eq_getElem hlt
        have hes := (HU.out.2.eo _ (List.getElem_mem hlt)).1
        generalize x.es[i] = ee at hee hes
        obtain ⟨f, o, cap, q1, q2, q3⟩ := HT.out.entry hee
        cases q1
        clear q3 hee
        go_upto_region 8 with fail
        go_upto_region 7 with (first | (at_builtin; go_must (refine wpList_append_win _ rfl (.tmp 22) (.tmp 31) 36 rfl w'.heap.size 9 i9 _ 1 16 Tryz.underlying36 h91 h92 h93 h94 rfl (by decide) (.slice ua i uc) i (strs ps) rfl (HX.out.win.alloc _) ⟨wr.heap.size, 0, none⟩ 1 1 [.string ee.1] rfl rfl (new_cells wr [.string ee.1] 9) (by simp [Value.oneCell']) (by decide) (by unfold maxLen; omega) (by omega) (by simp; omega) ?_; intro f' o' cap' w4 hown hgrow hat; have HP := Lib.hid ((HX.out.alloc _).push hown hgrow hes); clear hown hgrow hat)))
        go_wp2_with fail
        go_roundw
        case rel => exact ⟨i + 1, by omega, by go_num, _, HP.out⟩
        case measure => simp [intOf]; omega
      · have k1 : ¬ (i : Int) < (x.es.length : Int) := by omega
        have HF : Hid (NamesP w' (.returned (.slice ua i uc)) wr) := Lib.hid (by
          obtain ⟨q1, q2, q3, q4⟩ := HX.out
          exact ⟨_, ps, rfl, ⟨by rw [q1]; exact q2, q3⟩, by omega, q4⟩)
        go_wp2_with fail
        go_ret
        exact HF.out
end Go.Proofs.YtfjghemojnhmbaaGreat
/- The tree: a node turned; a node gone; a node more. -/
namespace Go.Proofs.YtfjghemojnhmbaaGreat
open Go.RowKit

theorem ptrs_set : ∀ (bs : List Nat) (T : List (Option Nd)) (i : Nat) (x y : Nd), T[i]? = some (some x) → ptrs bs (T.set i (some y)) = ptrs bs T
  | [], T, i, x, y, _ => by simp [ptrs]
  | b :: bs, [], i, x, y, h => by simp at h
  | b :: bs, o :: T, 0, x, y, h => by simp at h; subst h; simp [ptrs, nptr]
  | b :: bs, o :: T, i + 1, x, y, h => by
    have := ptrs_set bs T i x y (by simpa using h)
    simpa [ptrs] using this
theorem ptrs_none : ∀ (bs : List Nat) (T : List (Option Nd)) (i : Nat), i < bs.length → ptrs bs (T.set i none) = (ptrs bs T).set i (.pointer none)
  | [], T, i, h => by simp at h
  | b :: bs, [], i, h => by simp [ptrs]
  | b :: bs, o :: T, 0, h => by simp [ptrs, nptr]
  | b :: bs, o :: T, i + 1, h => by
    have := ptrs_none bs T i (by simpa using h)
    simpa [ptrs] using this
theorem ptrs_push (bs : List Nat) (T : List (Option Nd)) (b : Nat) (y : Nd) (h : bs.length = T.length) : ptrs (bs ++ [b]) (T ++ [some y]) = ptrs bs T ++ [.pointer (some ⟨b, 0, none⟩)] := by
  unfold ptrs; rw [List.zipWith_append h]; rfl
/-- One block alone has turned, in its cells. -/
theorem Fr.of_frm {S : Nat → Prop} {T : List TypeId} {w w' : World} {b : Nat} {e : TypeId} {cs cs' : Array Value} (h : Frm [b] w w') (hb : Blk w b e cs) (hb' : Blk w' b e cs') (hs : cs'.size = cs.size) (hS : S b) (he : e ∈ T) : Fr S T w w' := by
  refine ⟨h.os, h.tape, h.output, h.size, fun k hk => ?_⟩
  by_cases hkb : k = b
  · subst hkb; exact .inr ⟨hS, e, cs, cs', he, hb, hb', hs⟩
  · exact .inl (h.block k hk (by simpa using hkb))
/-- A node turned. -/
theorem TreeAt.turn {S S' : Nat → Prop} {w w' : World} {t c : Nat} {M : Int} {p : Nat} {v u' : Value} {bs : List Nat} {T : List (Option Nd)} {i b : Nat} {x y : Nd} (h : TreeAt S w t c M p v bs T) (hx : T[i]? = some (some x)) (hb : bs[i]? = some b) (hf : Frm [b] w w') (hs : ∀ k, S k → S' k) (hn : NdAt S' w' b (i + 1) y u') (ho : NdOk c y) :
    TreeAt S' w' t c M p v bs (T.set i (some y)) ∧ Fr S [110] w w' := by
  obtain ⟨u, hu⟩ := h.nd i x b hx hb
  have fr : Fr S [110] w w' := Fr.of_frm hf hu.blk hn.blk (by simp [Nd.cells]) hu.own (by simp)
  have hil := (List.getElem?_eq_some_iff.1 hx).1
  have get : ∀ (j : Nat) (z : Nd), (T.set i (some y))[j]? = some (some z) → (j = i ∧ z = y) ∨ (j ≠ i ∧ T[j]? = some (some z)) := by
    intro j z hz
    by_cases hj : j = i
    · subst hj
      rw [List.getElem?_set_self hil] at hz
      cases hz
      exact .inl ⟨rfl, rfl⟩
    · rw [List.getElem?_set_ne (fun e => hj e.symm)] at hz
      exact .inr ⟨hj, hz⟩
  have live : ∀ (j : Nat) (z : Nd), (T.set i (some y))[j]? = some (some z) → ∃ z', T[j]? = some (some z') := by
    intro j z hz
    rcases get j z hz with ⟨rfl, _⟩ | ⟨_, q⟩
    · exact ⟨x, hx⟩
    · exact ⟨z, q⟩
  refine ⟨⟨h.blk.fr fr (by simp), hs t h.own, h.pool.kf (KF.of_fr0 fr (by simp) (by simp) hs) hs fr (by simp) (by simp), ?_, fun k hk => hs k (h.rowS k hk), by simpa using h.len, by simpa using h.tl, ?_, ?_, ?_, h.m0, h.m1⟩, fr⟩
  · rw [ptrs_set bs T i x y hx, List.length_set]
    exact h.row.frT fr (by simp)
  · intro j z d hz hd
    rcases get j z hz with ⟨rfl, rfl⟩ | ⟨hj, q⟩
    · rw [hb] at hd; cases hd; exact ⟨u', hn⟩
    · obtain ⟨u2, h2⟩ := h.nd j z d q hd
      have hne : d ≠ b := fun e => hj (h.inj j i z x b q hx (e ▸ hd) hb)
      exact ⟨u2, (hf.block d h2.blk.lt (by simpa using hne)).trans h2.blk, hs d h2.own, h2.row.frT fr (by simp)⟩
  · intro j k z z' d hz hz' hd hd'
    obtain ⟨q, hq⟩ := live j z hz
    obtain ⟨q', hq'⟩ := live k z' hz'
    exact h.inj j k q q' d hq hq' hd hd'
  · intro j z hz
    rcases get j z hz with ⟨rfl, rfl⟩ | ⟨hj, q⟩
    · exact ho
    · exact h.ok j z q
/-- .. by one cell. -/
theorem TreeAt.turn1 {S : Nat → Prop} {w : World} {t c : Nat} {M : Int} {p : Nat} {v u val : Value} {bs : List Nat} {T : List (Option Nd)} {i b j : Nat} {x y : Nd} (h : TreeAt S w t c M p v bs T) (hx : T[i]? = some (some x)) (hb : bs[i]? = some b) (hn : NdAt S w b (i + 1) x u) (hc : (x.cells (i + 1) u).setIfInBounds j val = y.cells (i + 1) u) (he : y.es = x.es) (ho : NdOk c y) :
    TreeAt S (w.setCell ⟨b, j, none⟩ val) t c M p v bs (T.set i (some y)) ∧ Fr S [110] w (w.setCell ⟨b, j, none⟩ val) := by
  refine h.turn (u' := u) hx hb ((Frm.refl _ _).setCell (by simp) _) (fun _ h => h) ⟨?_, hn.own, ?_⟩ ho
  · rw [← hc]; exact hn.blk.set j val
  · rw [he]
    refine hn.row.kept fun k hk => ?_
    obtain ⟨cur, hcur⟩ := hn.row.blkOf hk
    exact Below.heap_setCell _ _ _ _ (by simpa using hcur.ne hn.blk (by decide))
/-- A node gone. -/
theorem TreeAt.drop {S : Nat → Prop} {w : World} {t c : Nat} {M : Int} {p f o cap : Nat} {bs : List Nat} {T : List (Option Nd)} {i : Nat} (h : TreeAt S w t c M p (.slice (some ⟨f, o, none⟩) T.length cap) bs T) (hi : i < T.length) :
    TreeAt S (w.setCell ⟨f, o + i, none⟩ (.pointer none)) t c M p (.slice (some ⟨f, o, none⟩) T.length cap) bs (T.set i none) ∧ Fr S [107] w (w.setCell ⟨f, o + i, none⟩ (.pointer none)) := by
  obtain ⟨cur, hcur⟩ := h.row.blk
  have fr : Fr S [107] w (w.setCell ⟨f, o + i, none⟩ (.pointer none)) := Fr.one hcur (h.rowS f rfl) (by simp) _
  have get : ∀ (j : Nat) (z : Nd), (T.set i none)[j]? = some (some z) → T[j]? = some (some z) := by
    intro j z hz
    by_cases hj : i = j
    · subst hj
      rw [List.getElem?_set_self hi] at hz
      cases hz
    · rwa [List.getElem?_set_ne hj] at hz
  refine ⟨⟨h.blk.fr fr (by simp), h.own, h.pool.kf (KF.of_fr0 fr (by simp) (by simp) fun _ h => h) (fun _ h => h) fr (by simp) (by simp), ?_, h.rowS, by simpa using h.len, by simpa using h.tl, ?_, ?_, ?_, h.m0, h.m1⟩, fr⟩
  · rw [ptrs_none bs T i (by rw [h.len]; exact hi), List.length_set]
    exact h.row.set1 hi _
  · intro j z d hz hd
    obtain ⟨u2, h2⟩ := h.nd j z d (get j z hz) hd
    exact ⟨u2, h2.fr (fun _ h => h) fr (by simp) (by simp)⟩
  · intro j k z z' d hz hz' hd hd'
    exact h.inj j k z z' d (get j z hz) (get k z' hz') hd hd'
  · intro j z hz
    exact h.ok j z (get j z hz)
/-- The tree, whatever its blocks. -/
def TR (S : Nat → Prop) (w : World) (t c : Nat) (bs : List Nat) (T : List (Option Nd)) : Prop := ∃ M p v, TreeAt S w t c M p v bs T
theorem TreeAt.tr {S : Nat → Prop} {w : World} {t c : Nat} {M : Int} {p : Nat} {v : Value} {bs : List Nat} {T : List (Option Nd)} (h : TreeAt S w t c M p v bs T) : TR S w t c bs T := ⟨M, p, v, h⟩
theorem TR.mono {S : Nat → Prop} {w : World} {t c c' : Nat} {bs : List Nat} {T : List (Option Nd)} (h : TR S w t c bs T) (hc : c ≤ c') : TR S w t c' bs T := by
  obtain ⟨M, p, v, h⟩ := h; exact (h.mono hc).tr
theorem TR.below {S : Nat → Prop} {w w' : World} {t c : Nat} {bs : List Nat} {T : List (Option Nd)} (h : TR S w t c bs T) (hb : Below w.heap.size w w') : TR S w' t c bs T := by
  obtain ⟨M, p, v, h⟩ := h; exact (h.below hb).tr
/-- A step of the tree. -/
structure TStep (S S' : Nat → Prop) (t c : Nat) (bs : List Nat) (w w' : World) (T' : List (Option Nd)) : Prop where
  sub : ∀ k, S k → S' k
  sup : ∀ k, S' k → S k ∨ w.heap.size ≤ k
  fr : Fr S TT w w'
  tr : TR S' w' t c bs T'
theorem TStep.trans {S S' S'' : Nat → Prop} {t c c' : Nat} {bs bs' : List Nat} {w w' w'' : World} {T1 T2 : List (Option Nd)} (h : TStep S S' t c bs w w' T1) (k : TStep S' S'' t c' bs' w' w'' T2) : TStep S S'' t c' bs' w w'' T2 := by
  refine ⟨fun i hi => k.sub i (h.sub i hi), fun i hi => ?_, h.fr.trans k.fr h.sup, k.tr⟩
  have := h.fr.size
  rcases k.sup i hi with q | q
  · exact h.sup i q
  · exact .inr (by omega)
theorem TStep.same {S : Nat → Prop} {t c : Nat} {bs : List Nat} {w w' : World} {T : List (Option Nd)} (h : TR S w t c bs T) (hb : Below w.heap.size w w') : TStep S S t c bs w w' T := ⟨fun _ h => h, fun _ h => .inl h, Fr.of_below hb, h.below hb⟩
theorem TStep.mono {S S' : Nat → Prop} {t c c' : Nat} {bs : List Nat} {w w' : World} {T : List (Option Nd)} (h : TStep S S' t c bs w w' T) (hc : c ≤ c') : TStep S S' t c' bs w w' T := ⟨h.sub, h.sup, h.fr, h.tr.mono hc⟩
theorem TStep.of {S : Nat → Prop} {t c : Nat} {w w' : World} {M : Int} {p : Nat} {v : Value} {bs : List Nat} {T : List (Option Nd)} {Ts : List TypeId} (h : TreeAt S w' t c M p v bs T ∧ Fr S Ts w w') (ht : ∀ e ∈ Ts, e ∈ TT) : TStep S S t c bs w w' T := ⟨fun _ h => h, fun _ h => .inl h, h.2.mono (fun _ h => .inl h) ht, h.1.tr⟩
end Go.Proofs.YtfjghemojnhmbaaGreat
