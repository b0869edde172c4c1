/- The walk of FilePlaces. -/
import Derived.Test.YtfmhiamgfhdmmaaPlaces
import Derived.Test.YtfmhiamgfhdmmaaLowW
import Derived.Deep.RegionLaw
import Derived.Deep.RegionHeld3
import Derived.Deep.DeepMust
import Derived.Deep.CutRange
import Derived.Deep.DeepCutAuto
namespace Go.Proofs.Ytfmhiamgfhdmmaa
open Go.RowKit

theorem info60 : (Try.prog.info? 60).map (fun i => (i.zero, i.size, i.bytes)) = some (some (.agg #[.int .i64 0, .int .i64 0, .int .i64 0, .int .i64 0, .int .i64 0, .int .i64 0]), 6, 48) := by kernel_rfl

theorem cells6_new (w : World) (a b c d e f : Value) (t : TypeId) : ∀ j u, [a, b, c, d, e, f][j]? = some u → (w.alloc (.cells #[a, b, c, d, e, f] t)).cell? ((⟨w.heap.size, 0, none⟩ : Addr).add j) = some u := by
  intro j u hj
  match j, hj with
  | 0, hj => simp at hj; subst hj; simp [Addr.add]
  | 1, hj => simp at hj; subst hj; simp [Addr.add]
  | 2, hj => simp at hj; subst hj; simp [Addr.add]
  | 3, hj => simp at hj; subst hj; simp [Addr.add]
  | 4, hj => simp at hj; subst hj; simp [Addr.add]
  | 5, hj => simp at hj; subst hj; simp [Addr.add]

/-- Open at a table of 64: refused, or another is open. -/
theorem open_two {s : TS} (hm : s.most = 64) {P : Nat} (hP : P < 8) (m n f : Int) : (∃ c, c ≠ 0 ∧ opOpen s P m n f = ((0, c), s)) ∨ (∃ k, k < 8 ∧ (s.T (P * 8 + k)).op = false ∧ opOpen s P m n f = (((k : Int), 0), s.put (P * 8 + k) ⟨true, m, n, f, 0⟩)) := by
  rcases wf_spec s.T P 8 (by omega) with ⟨_, hall⟩ | ⟨j, _, hj, _, hjo, hbef⟩
  · exact .inl ⟨41, by omega, open_full hP hm (fun j _ h2 => hall j (by omega) h2) m n f⟩
  · exact .inr ⟨j, hj, hjo, open_at hP hm hj hjo (fun i _ h2 => hbef i (by omega) h2) m n f⟩
theorem seek_ok {s : TS} {k : Nat} (hk : k < 64) (ho : (s.T k).op = true) {z : Int} (hz : 0 ≤ z) : opSeek s ((k / 8 : Nat) : Int) ((k % 8 : Nat) : Int) z = (0, s.put k { s.T k with p := z }) := by
  have e : ((k / 8 : Nat) : Int).toNat * 8 + ((k % 8 : Nat) : Int).toNat = k := by rw [Int.toNat_natCast, Int.toNat_natCast]; omega
  have hw : why s ((k / 8 : Nat) : Int) ((k % 8 : Nat) : Int) = 0 := by
    unfold why
    rw [if_neg (by omega), if_pos ⟨by omega, by omega, by rw [e]; exact ho⟩]
  unfold opSeek
  rw [if_pos hw, if_neg (by omega), e]
theorem get_ok {s : TS} {k : Nat} (hk : k < 64) (ho : (s.T k).op = true) : opGet s ((k / 8 : Nat) : Int) ((k % 8 : Nat) : Int) = (s.T k, 0) := by
  have e : ((k / 8 : Nat) : Int).toNat * 8 + ((k % 8 : Nat) : Int).toNat = k := by rw [Int.toNat_natCast, Int.toNat_natCast]; omega
  have hw : why s ((k / 8 : Nat) : Int) ((k % 8 : Nat) : Int) = 0 := by
    unfold why
    rw [if_neg (by omega), if_pos ⟨by omega, by omega, by rw [e]; exact ho⟩]
  unfold opGet
  rw [if_pos hw, e]
theorem tb_seek_is {b : Nat} {s s' : TS} {w : World} {p fd z c : Int} (he : opSeek s p fd z = (c, s')) (h : IsTb w b s) : Calls Try.prog 11 #[.pointer (some ⟨b, 0, none⟩), .int .i64 p, .int .i64 fd, .int .i64 z] w fun e w' => e = .returned (.int .i64 c) ∧ IsTb w' b s' ∧ Frm [b] w w' := by
  have := tb_seek h p fd z
  rw [he] at this
  exact this
theorem tb_get_is {b : Nat} {s : TS} {w : World} {p fd c : Int} {y : Sl} (he : opGet s p fd = (y, c)) (h : IsTb w b s) : Calls Try.prog 12 #[.pointer (some ⟨b, 0, none⟩), .int .i64 p, .int .i64 fd] w fun e w' => e = .returned (.tuple #[.agg #[.int .i64 y.m, .int .i64 y.n, .int .i64 y.f, .int .i64 y.p], .int .i64 c]) ∧ Below w.heap.size w w' := by
  have := tb_get h p fd
  rw [he] at this
  exact this

theorem new_lt (w : World) (o : Obj) : w.heap.size < (w.alloc o).heap.size := by simp
theorem Hv.set {w wr : World} {b f o cap n B : Nat} {l : List Nat} {s : TS} (h : Hv w wr b (.slice (some ⟨f, o, none⟩) n cap) l s) (hf : f ≠ B) (hb : b ≠ B) (hB : w.heap.size ≤ B) (j : Nat) (v : Value) : Hv w (wr.setCell ⟨B, j, none⟩ v) b (.slice (some ⟨f, o, none⟩) n cap) l s := by
  have F : Frm [B] wr (wr.setCell ⟨B, j, none⟩ v) := (Frm.refl _ _).setCell (by simp) _
  exact ⟨h.tb.frm F (by simpa using hb), h.hw.frm F (by simp [Value.ownBlock]; exact hf), h.perm, h.most, h.hb, h.bel.trans (F.below h.bel.size (by simpa using hB)), h.lob⟩
theorem set4 {w : World} {B : Nat} {a0 a1 a2 a3 : Value} (h0 : w.cell? ⟨B, 0, none⟩ = some a0) (h1 : w.cell? ⟨B, 1, none⟩ = some a1) (h2 : w.cell? ⟨B, 2, none⟩ = some a2) (h3 : w.cell? ⟨B, 3, none⟩ = some a3) (v0 v1 v2 v3 : Value) :
    ((((w.setCell ⟨B, 0, none⟩ v0).setCell ⟨B, 1, none⟩ v1).setCell ⟨B, 2, none⟩ v2).setCell ⟨B, 3, none⟩ v3).cell? ⟨B, 0, none⟩ = some v0 ∧ ((((w.setCell ⟨B, 0, none⟩ v0).setCell ⟨B, 1, none⟩ v1).setCell ⟨B, 2, none⟩ v2).setCell ⟨B, 3, none⟩ v3).cell? ⟨B, 1, none⟩ = some v1 ∧
    ((((w.setCell ⟨B, 0, none⟩ v0).setCell ⟨B, 1, none⟩ v1).setCell ⟨B, 2, none⟩ v2).setCell ⟨B, 3, none⟩ v3).cell? ⟨B, 2, none⟩ = some v2 ∧ ((((w.setCell ⟨B, 0, none⟩ v0).setCell ⟨B, 1, none⟩ v1).setCell ⟨B, 2, none⟩ v2).setCell ⟨B, 3, none⟩ v3).cell? ⟨B, 3, none⟩ = some v3 := by
  have ne : ∀ (W : World) (x y : Nat) (v : Value), x ≠ y → (W.setCell ⟨B, x, none⟩ v).cell? ⟨B, y, none⟩ = W.cell? ⟨B, y, none⟩ := fun W x y v h => World.cell?_setCell_other _ _ _ _ (by intro hh; injection hh; omega)
  refine ⟨?_, ?_, ?_, ?_⟩
  · rw [ne _ 3 0 _ (by omega), ne _ 2 0 _ (by omega), ne _ 1 0 _ (by omega)]
    exact World.cell?_setCell_same _ _ _ h0
  · rw [ne _ 3 1 _ (by omega), ne _ 2 1 _ (by omega)]
    exact World.cell?_setCell_same (u := a1) _ _ _ (by rw [ne _ 0 1 _ (by omega)]; exact h1)
  · rw [ne _ 3 2 _ (by omega)]
    exact World.cell?_setCell_same (u := a2) _ _ _ (by rw [ne _ 1 2 _ (by omega), ne _ 0 2 _ (by omega)]; exact h2)
  · exact World.cell?_setCell_same (u := a3) _ _ _ (by rw [ne _ 2 3 _ (by omega), ne _ 1 3 _ (by omega), ne _ 0 3 _ (by omega)]; exact h3)

set_option maxRecDepth 100000 in
set_option maxHeartbeats 16000000 in
theorem places_any (a : Option Addr) (len cap : Nat) (f : Nat → Nat → Int) (w : World) (hr : Asks7 w a len f) (hm : len ≤ 9223372036854775807) :
    Calls Try.prog 6 #[.slice a len cap] w fun e w' => e = .returned (.bool true) ∧ Below w.heap.size w w' := by
  obtain ⟨i60, hi, hz0, hz1, hz2⟩ := info_parts info60
  go_enter Try.func6, Try.ntmps6
  go_wp2_with fail
  refine (new_yes 64 w (by omega) (by omega)).mono ?_
  rintro e w1 ⟨rfl, i1, b1⟩
  have H1 : Hid (Hv w w1 w.heap.size (.slice none 0 0) [] ks0) := Lib.hid (Hv.start (Tb.start i1 b1) rfl (by decide +kernel))
  clear i1 b1
  go_wp2_with fail
  go_loopw [5, 6] (fun hv iv wr => ∃ i : Nat, i ≤ len ∧ i ≤ 60 ∧ iv = .int .i64 i ∧ Hid (∃ l s, Hv w wr w.heap.size hv l s)) (fun _ iv _ => len - (intOf iv).toNat)
  case atStart => exact ⟨0, by omega, by omega, rfl, ⟨_, _, H1.out⟩⟩
  case round =>
    obtain ⟨i, hil, hi60, rfl, ⟨l, s, hS⟩⟩ := hrel
    have HS := Lib.hid hS
    clear hS H1
    by_cases hlt : i < len ∧ i < 60
    · obtain ⟨hlt1, hlt2⟩ := hlt
      have h1 : (i : Int) < (len : Int) := by omega
      have h2 : (i : Int) < 60 := by omega
      have h0 : (0 : Int) ≤ (i : Int) := by omega
      rcases hr with e0 | ⟨bb, off, rfl, hbs, hcell⟩
      · omega
      · have hcc : Hid (∀ W, Below w.heap.size w W → ∀ j, j < 7 → W.cell? ⟨bb, off + i * 7 + j, none⟩ = some (.int .i64 (f i j))) := Lib.hid (fun W hW j hj => (hW.cell (p := ⟨bb, off + i * 7 + j, none⟩) hbs).trans (hcell i j hlt1 hj).1)
        have hb1 := (hcell i 1 hlt1 (by omega)).2
        obtain ⟨z1, e1⟩ : ∃ z, f i 1 = z := ⟨_, rfl⟩
        obtain ⟨z3, e3⟩ : ∃ z, f i 3 = z := ⟨_, rfl⟩
        obtain ⟨z4, e4⟩ : ∃ z, f i 4 = z := ⟨_, rfl⟩
        obtain ⟨z5, e5⟩ : ∃ z, f i 5 = z := ⟨_, rfl⟩
        obtain ⟨z6, e6⟩ : ∃ z, f i 6 = z := ⟨_, rfl⟩
        have C : Hid (∀ W, Below w.heap.size w W → W.cell? ⟨bb, off + i * 7 + 1, none⟩ = some (.int .i64 z1) ∧ W.cell? ⟨bb, off + i * 7 + 3, none⟩ = some (.int .i64 z3) ∧ W.cell? ⟨bb, off + i * 7 + 4, none⟩ = some (.int .i64 z4) ∧ W.cell? ⟨bb, off + i * 7 + 5, none⟩ = some (.int .i64 z5) ∧ W.cell? ⟨bb, off + i * 7 + 5 + 1, none⟩ = some (.int .i64 z6) ∧ bb < W.heap.size) :=
          Lib.hid (fun W hW => ⟨by rw [← e1]; exact hcc.out W hW 1 (by omega), by rw [← e3]; exact hcc.out W hW 3 (by omega), by rw [← e4]; exact hcc.out W hW 4 (by omega), by rw [← e5]; exact hcc.out W hW 5 (by omega), by rw [← e6]; exact hcc.out W hW 6 (by omega), Nat.lt_of_lt_of_le hbs hW.size⟩)
        rw [e1] at hb1
        clear e1 e3 e4 e5 e6 hcc hcell
        obtain ⟨c1, c3, c4, c5, c6, cb⟩ := C.out wr HS.out.bel
        go_upto_if 41 with fail
        go_cut [7] (fun s7 wx => ∃ x : Int, s7 = .int .i64 x ∧ 0 ≤ x ∧ wx = wr)
        case first =>
          by_cases g : z1 < 0
          · have d : decide (z1 < 0) = true := by simpa using g
            go_wp2_with fail
            go_meet
            exact ⟨-(z1 + 1), by simp [go_sem], by omega, rfl⟩
          · have d : decide (z1 < 0) = false := by simpa using g
            go_wp2_with fail
            go_meet
            exact ⟨z1, rfl, by omega, rfl⟩
        case rest =>
          obtain ⟨x, rfl, hx0, rfl⟩ := hcut
          obtain ⟨P, hP, hP4⟩ : ∃ P : Nat, Int.tmod x 4 = (P : Int) ∧ P < 4 := by
            have e0 := Int.tmod_eq_emod_of_nonneg hx0 (b := 4)
            exact ⟨(Int.tmod x 4).toNat, by omega, by omega⟩
          have hP0 : (0 : Int) ≤ (P : Int) := by omega
          have hP1 : (P : Int) < 4 := by omega
          obtain ⟨x1, x2, s', he⟩ : ∃ x1 x2 s', opOpen s P z5 z6 z3 = ((x1, x2), s') := ⟨_, _, _, rfl⟩
          have HE := Lib.hid he
          have hm' : s'.most = 64 := by
            have := open_most s P z5 z6 z3
            rw [he] at this
            exact this.trans HS.out.most
          have HM' := Lib.hid hm'
          clear he hm'
          go_wp2_with fail
          go_region_held3 (fun w' => w'.cell? ⟨bb, off + i * 7 + 3, none⟩ = some (.int .i64 z3) ∧ w'.cell? ⟨bb, off + i * 7 + 5, none⟩ = some (.int .i64 z5) ∧ w'.cell? ⟨bb, off + i * 7 + 5 + 1, none⟩ = some (.int .i64 z6)) (first | exact ⟨c3, c5, c6⟩) (first | (go_at_call 9; (first | refine (tb_open_is HE.out HS.out.tb).mono ?_ | refine (tb_open_is HE.out (HS.out.tb.below (Below.refl _ _).drew)).mono ?_); rintro e w3 ⟨rfl, i3, f3⟩; have M3 := Lib.hid (by first | exact HS.out.step i3 f3 HM'.out | exact HS.out.drew.step i3 f3 HM'.out); obtain ⟨c1, c3, c4, c5, c6, cb⟩ := C.out w3 M3.out.bel; clear i3 f3))
          go_upto_if 64 with fail
          go_cut [5] (fun hv wx => Hid (∃ l s, Hv w wx w.heap.size hv l s))
          case first =>
            rcases open_two HS.out.most (by omega : P < 8) z5 z6 z3 with ⟨c, hc0, he2⟩ | ⟨k, hk8, hko, he2⟩
            · have := HE.out.symm.trans he2
              cases this
              have d : (x2 == 0) = false := by simpa using hc0
              clear hc0 he2
              go_wp2_with fail
              go_meet
              exact ⟨l, s, M3.out.same⟩
            · have := HE.out.symm.trans he2
              cases this
              have hlen := HS.out.le
              have HKO := Lib.hid hko
              have cn : ¬ bb = w3.heap.size := by omega
              clear he2 hko
              go_wp2_with fail
              go_region_law (first | (refine step_append_win _ rfl (.tmp 65) (.tmp 80) 58 rfl w.heap.size 60 i60 _ 6 48 Try.underlying58 hi hz0 hz1 hz2 rfl (by decide) u5 l.length (hcells s l) (by simp [Act.eval]) (by first | exact M3.out.hw.alloc _ | exact M3.out.hw.drew.alloc _) ⟨w3.heap.size, 0, none⟩ 1 1 [.int .i64 P, .int .i64 k, .int .i64 z5, .int .i64 z6, .int .i64 z3, .int .i64 0] (by simp [Act.eval]) rfl (by first | exact cells6_new _ _ _ _ _ _ _ _ | exact cells6_new w3.drew _ _ _ _ _ _ _) (by simp [Value.oneCell']) (by decide) (by unfold maxLen; omega) (by omega) (by have := M3.out.bel.size; simp; omega) ?_; intro f' o' cap' w4 hown hgrow hat))
              all_goals
                have hent : entry (s.put (P * 8 + k) ⟨true, z5, z6, z3, 0⟩) (P * 8 + k) = [.int .i64 P, .int .i64 k, .int .i64 z5, .int .i64 z6, .int .i64 z3, .int .i64 0] := by
                  simp only [entry, TS.put, if_true]
                  rw [show (P * 8 + k) / 8 = P from by omega, show (P * 8 + k) % 8 = k from by omega]
                rw [← hent] at hown
                have HP : Hid (Hv w w4 w.heap.size (.slice (some ⟨f', o', none⟩) (l.length + 1) cap') (l ++ [P * 8 + k]) (s.put (P * 8 + k) ⟨true, z5, z6, z3, 0⟩)) := Lib.hid (by
                  first
                    | exact (M3.out.below ((Below.refl _ _).alloc (Nat.le_refl _) _)).push (by omega) rfl HKO.out hgrow hown hat
                    | exact (M3.out.below ((Below.refl _ _).alloc (Nat.le_refl _) _).drew).push (by omega) rfl HKO.out hgrow hown hat
                    | exact (M3.out.below (((Below.refl _ _).drew).alloc (Nat.le_refl _) _)).push (by omega) rfl HKO.out hgrow hown hat
                    | exact (M3.out.below ((((Below.refl _ _).drew).alloc (Nat.le_refl _) _).drew)).push (by omega) rfl HKO.out hgrow hown hat)
                clear hown hgrow hat
                go_wp2_with fail
                go_meet
                first | exact ⟨_, _, HP.out⟩ | exact ⟨_, _, HP.out.drew⟩
          case rest =>
            obtain ⟨l, s, hS⟩ := hcut
            have HS := Lib.hid hS
            clear hS M3 HE HM'
            have hlen := HS.out.le
            obtain ⟨av, cv, rfl⟩ := HS.out.hw.value
            by_cases hl : 0 < l.length
            · have d1 : decide ((l.length : Int) > 0) = true := decide_eq_true (by omega)
              have hl0 : ((l.length : Int) == 0) = false := beq_eq_false_iff_ne.2 (by omega)
              obtain ⟨fw, ow, dw, ew⟩ := HS.out.hw.form hl
              cases ew
              obtain ⟨c1, c3, c4, c5, c6, cb⟩ := C.out wc HS.out.bel
              obtain ⟨q, hq, hql⟩ : ∃ q : Nat, Int.tmod (i : Int) (l.length : Int) = (q : Int) ∧ q < l.length := by
                have e0 := Int.tmod_eq_emod_of_nonneg h0 (b := (l.length : Int))
                have e1 := Int.emod_nonneg (i : Int) (b := (l.length : Int)) (by omega)
                have e2 := Int.emod_lt_of_pos (i : Int) (b := (l.length : Int)) (by omega)
                exact ⟨(Int.tmod (i : Int) (l.length : Int)).toNat, by omega, by omega⟩
              have hlne : ¬ (l.length : Int) = 0 := by omega
              by_cases hz : 0 ≤ z4
              · have d2 : decide (z4 ≥ 0) = true := decide_eq_true hz
                have hmem : l.getD q 0 ∈ l := by simp [hql]
                obtain ⟨hk64, hko⟩ := HS.out.mem hmem
                obtain ⟨K, hK⟩ : ∃ K, l.getD q 0 = K := ⟨_, rfl⟩
                have HK := Lib.hid hK
                rw [hK] at hk64 hko
                have HSK := Lib.hid (seek_ok hk64 hko hz)
                have cells : ∀ W, Win W w.heap.size 60 6 (.slice (some ⟨fw, ow, none⟩) l.length cv) l.length (hcells s l) → W.cell? ⟨fw, ow + q * 6, none⟩ = some (.int .i64 ((K / 8 : Nat) : Int)) ∧ W.cell? ⟨fw, ow + q * 6 + 1, none⟩ = some (.int .i64 ((K % 8 : Nat) : Int)) ∧ W.cell? ⟨fw, ow + q * 6 + 5, none⟩ = some (.int .i64 (s.T K).p) := by
                  intro W hW
                  have g : ∀ c, c < 6 → W.cell? ⟨fw, ow + (q * 6 + c), none⟩ = (entry s K)[c]? := fun c hc => by
                    rw [hW.cells (q * 6 + c) (by omega), hcells_get s l q c hql hc, HK.out]
                  exact ⟨g 0 (by omega), g 1 (by omega), g 5 (by omega)⟩
                obtain ⟨r0, r1, r5⟩ := cells _ HS.out.hw
                have rz := HS.out.hw.free
                have CE := Lib.hid cells
                clear cells hmem hko hK
                have hq0 : (0 : Int) ≤ (q : Int) := by omega
                have hq1 : (q : Int) < (l.length : Int) := by omega
                have hK8 : K / 8 < 8 := by omega
                go_wp2_with fail
                go_region_held3 (fun w' => w'.cell? ⟨fw, ow + q * 6, none⟩ = some (.int .i64 ((K / 8 : Nat) : Int)) ∧ w'.cell? ⟨fw, ow + q * 6 + 1, none⟩ = some (.int .i64 ((K % 8 : Nat) : Int)) ∧ w'.cell? ⟨bb, off + i * 7 + 4, none⟩ = some (.int .i64 z4)) (first | exact ⟨r0, r1, c4⟩) (first | (go_at_call 11; (first | refine (tb_seek_is HSK.out HS.out.tb).mono ?_ | refine (tb_seek_is HSK.out HS.out.drew.tb).mono ?_); rintro e w5 ⟨rfl, i5, f5⟩; have M5 := Lib.hid (by first | exact HS.out.step i5 f5 HS.out.most | exact HS.out.drew.step i5 f5 HS.out.most); obtain ⟨r0, r1, r5⟩ := CE.out _ M5.out.hw; have rz := M5.out.hw.free; obtain ⟨c1, c3, c4, c5, c6, cb⟩ := C.out w5 M5.out.bel; clear i5 f5))
                have r55 : w5.cell? ⟨fw, ow + q * 6 + 2 + 3, none⟩ = some (.int .i64 (s.T K).p) := r5
                go_wp2_with fail
                go_roundw
                case rel =>
                  have M6 : Hm w w5 w.heap.size (.slice (some ⟨fw, ow, none⟩) l.length cv) l s (s.put (l.getD q 0) { s.T (l.getD q 0) with p := z4 }) := by rw [HK.out]; exact M5.out
                  have P6 := M6.pos hql
                  exact ⟨i + 1, by omega, by omega, by go_num, ⟨l, _, by simpa [Nat.add_assoc] using P6⟩⟩
                case measure => simp [intOf]; omega
              · have d2 : decide (z4 ≥ 0) = false := decide_eq_false hz
                go_wp2_with fail
                go_roundw
                case rel => exact ⟨i + 1, by omega, by omega, by go_num, ⟨l, s, HS.out⟩⟩
                case measure => simp [intOf]; omega
            · have d1 : decide ((l.length : Int) > 0) = false := decide_eq_false (by omega)
              go_wp2_with fail
              go_roundw
              case rel => exact ⟨i + 1, by omega, by omega, by go_num, ⟨l, s, HS.out⟩⟩
              case measure => simp [intOf]; omega
    · obtain ⟨av, cv, rfl⟩ := HS.out.hw.value
      by_cases h1 : (i : Int) < (len : Int)
      · have h2 : ¬ (i : Int) < 60 := by omega
        go_wp2_with fail
        go_loopw [11, 12] (fun nv kv wr => ∃ k : Nat, k ≤ l.length ∧ kv = .int .i64 k ∧ nv = .int .i64 ((inT s.T (l.take k) 1 : Nat) : Int) ∧ Hid (Hv w wr w.heap.size (.slice av l.length cv) l s)) (fun _ kv _ => l.length - (intOf kv).toNat)
        case atStart => exact ⟨0, by omega, rfl, by simp [inT], HS⟩
        case round =>
          obtain ⟨k, hk, rfl, rfl, HX⟩ := hrel
          clear HS
          by_cases hlk : k < l.length
          · have hp : 0 < l.length := by omega
            obtain ⟨fw, ow, dw, ew⟩ := HX.out.hw.form hp
            cases ew
            have hmem : l.getD k 0 ∈ l := by simp [hlk]
            obtain ⟨hk64, hko⟩ := HX.out.mem hmem
            obtain ⟨K, hK⟩ : ∃ K, l.getD k 0 = K := ⟨_, rfl⟩
            have HK := Lib.hid hK
            rw [hK] at hk64 hko
            have HGK := Lib.hid (get_ok hk64 hko)
            obtain ⟨y, hy⟩ : ∃ y, s.T K = y := ⟨_, rfl⟩
            have HY := Lib.hid hy
            have hT : Hid (l.take (k + 1) = l.take k ++ [K]) := Lib.hid (by
              rw [List.take_succ_eq_append_getElem hlk, ← HK.out]
              simp [List.getD_eq_getElem?_getD, List.getElem?_eq_getElem hlk])
            have hin := inT_le s.T (l.take k) 1
            have hin2 : inT s.T (l.take k) 1 ≤ 64 := by
              have := HX.out.le
              rw [List.length_take] at hin
              omega
            clear hin
            have CE : Hid (∀ W, Win W w.heap.size 60 6 (.slice (some ⟨fw, ow, none⟩) l.length cv) l.length (hcells s l) → W.cell? ⟨fw, ow + k * 6, none⟩ = some (.int .i64 ((K / 8 : Nat) : Int)) ∧ W.cell? ⟨fw, ow + k * 6 + 1, none⟩ = some (.int .i64 ((K % 8 : Nat) : Int)) ∧ W.cell? ⟨fw, ow + k * 6 + 2, none⟩ = some (.int .i64 y.m) ∧ W.cell? ⟨fw, ow + k * 6 + 2 + 1, none⟩ = some (.int .i64 y.n) ∧ W.cell? ⟨fw, ow + k * 6 + 2 + 2, none⟩ = some (.int .i64 y.f) ∧ W.cell? ⟨fw, ow + k * 6 + 2 + 3, none⟩ = some (.int .i64 y.p) ∧ fw < W.heap.size) := Lib.hid (by
              intro W hW
              have g : ∀ c, c < 6 → W.cell? ⟨fw, ow + (k * 6 + c), none⟩ = (entry s K)[c]? := fun c hc => by
                rw [hW.cells (k * 6 + c) (by omega), hcells_get s l k c hlk hc, HK.out]
              simp only [entry, HY.out] at g
              exact ⟨g 0 (by omega), g 1 (by omega), g 2 (by omega), g 3 (by omega), g 4 (by omega), g 5 (by omega), (hW.lt fw rfl).2⟩)
            clear hmem hko hK hy
            obtain ⟨r0, r1, r2, r3, r4, r5, rl⟩ := CE.out _ HX.out.hw
            have hk0 : (0 : Int) ≤ (k : Int) := by omega
            have hk1 : (k : Int) < (l.length : Int) := by omega
            have hb := HX.out.hw.bound
            unfold maxLen at hb
            go_wp2_with fail
            have hfne : ∀ W, Hv w W w.heap.size (.slice (some ⟨fw, ow, none⟩) l.length cv) l s → fw ≠ W.heap.size := fun W hW => by have := (hW.hw.lt fw rfl).2; omega
            have hfn1 := hfne _ HX.out
            have hbn1 : w.heap.size ≠ wr.heap.size := by have := HX.out.tb.lt; omega
            have hbs1 : w.heap.size ≤ wr.heap.size := HX.out.bel.size
            clear hfne
            have hfn2 : ¬ wr.heap.size = fw := fun h => hfn1 h.symm
            go_region_held3 (fun w' => w'.cell? ⟨fw, ow + k * 6, none⟩ = some (.int .i64 ((K / 8 : Nat) : Int)) ∧ w'.cell? ⟨fw, ow + k * 6 + 1, none⟩ = some (.int .i64 ((K % 8 : Nat) : Int))) (first | with_reducible exact ⟨r0, r1⟩ | with_reducible exact ⟨(CE.out _ (HX.out.alloc _).hw).1, (CE.out _ (HX.out.alloc _).hw).2.1⟩ | with_reducible exact ⟨(CE.out _ (HX.out.drew.alloc _).hw).1, (CE.out _ (HX.out.drew.alloc _).hw).2.1⟩ | with_reducible exact ⟨(CE.out _ (HX.out.alloc _).drew.hw).1, (CE.out _ (HX.out.alloc _).drew.hw).2.1⟩ | (refine ⟨?_, ?_⟩ <;> simp only [World.cell?_setCell_far, hfn2, ne_eq, not_false_eq_true, r0, r1]; done) | exact ⟨r0, r1⟩) (first | (go_at_call 12; (first | refine (tb_get_is HGK.out HX.out.tb).mono ?_ | refine (tb_get_is HGK.out HX.out.drew.tb).mono ?_); rintro e w5 ⟨rfl, b5⟩; rw [HY.out]; have HX := Lib.hid (by first | exact HX.out.below b5 | exact HX.out.drew.below b5); obtain ⟨r0, r1, r2, r3, r4, r5, rl⟩ := CE.out _ HX.out.hw; clear b5) | (go_at_call 12; (first | refine (tb_get_is HGK.out (HX.out.alloc (.cells #[.int .i64 0, .int .i64 0, .int .i64 0, .int .i64 0] 41)).tb).mono ?_ | refine (tb_get_is HGK.out (HX.out.drew.alloc (.cells #[.int .i64 0, .int .i64 0, .int .i64 0, .int .i64 0] 41)).tb).mono ?_); rintro e w5 ⟨rfl, b5⟩; rw [HY.out]; have t0 : w5.cell? ⟨wr.heap.size, 0, none⟩ = some (.int .i64 0) := ((b5.cell (p := ⟨wr.heap.size, 0, none⟩) (new_lt _ _)).trans (World.cell?_alloc_new _ _ _ _)); have t1 : w5.cell? ⟨wr.heap.size, 1, none⟩ = some (.int .i64 0) := ((b5.cell (p := ⟨wr.heap.size, 1, none⟩) (new_lt _ _)).trans (World.cell?_alloc_new _ _ _ _)); have t2 : w5.cell? ⟨wr.heap.size, 2, none⟩ = some (.int .i64 0) := ((b5.cell (p := ⟨wr.heap.size, 2, none⟩) (new_lt _ _)).trans (World.cell?_alloc_new _ _ _ _)); have t3 : w5.cell? ⟨wr.heap.size, 3, none⟩ = some (.int .i64 0) := ((b5.cell (p := ⟨wr.heap.size, 3, none⟩) (new_lt _ _)).trans (World.cell?_alloc_new _ _ _ _)); have tz : ∀ j, w5.frozen? ⟨wr.heap.size, j, none⟩ = false := (fun j => (b5.frozen (p := ⟨wr.heap.size, j, none⟩) (new_lt _ _)).trans (World.frozen?_alloc_new _ _ _ _)); have HX := Lib.hid (by first | exact (HX.out.alloc _).below b5 | exact (HX.out.drew.alloc _).below b5); obtain ⟨r0, r1, r2, r3, r4, r5, rl⟩ := CE.out _ HX.out.hw; clear b5))
            all_goals
              first
                | (have H6 := Lib.hid (HX.out.alloc (.cells #[.int .i64 y.m, .int .i64 y.n, .int .i64 y.f, .int .i64 y.p] 41))
                   have t0 : (w5.alloc (.cells #[.int .i64 y.m, .int .i64 y.n, .int .i64 y.f, .int .i64 y.p] 41)).cell? ⟨w5.heap.size, 0, none⟩ = some (.int .i64 y.m) := World.cell?_alloc_new _ _ _ _
                   have t1 : (w5.alloc (.cells #[.int .i64 y.m, .int .i64 y.n, .int .i64 y.f, .int .i64 y.p] 41)).cell? ⟨w5.heap.size, 1, none⟩ = some (.int .i64 y.n) := World.cell?_alloc_new _ _ _ _
                   have t2 : (w5.alloc (.cells #[.int .i64 y.m, .int .i64 y.n, .int .i64 y.f, .int .i64 y.p] 41)).cell? ⟨w5.heap.size, 2, none⟩ = some (.int .i64 y.f) := World.cell?_alloc_new _ _ _ _
                   have t3 : (w5.alloc (.cells #[.int .i64 y.m, .int .i64 y.n, .int .i64 y.f, .int .i64 y.p] 41)).cell? ⟨w5.heap.size, 3, none⟩ = some (.int .i64 y.p) := World.cell?_alloc_new _ _ _ _
                   clear r0 r1 r2 r3 r4 r5 rl
                   generalize w5.alloc (.cells #[.int .i64 y.m, .int .i64 y.n, .int .i64 y.f, .int .i64 y.p] 41) = w6 at *
                   obtain ⟨r0, r1, r2, r3, r4, r5, rl⟩ := CE.out _ H6.out.hw
                   go_wp2_with fail
                   go_quiet (fail))
                | (have H6 := Lib.hid ((((HX.out.set hfn1 hbn1 hbs1 0 (.int .i64 y.m)).set hfn1 hbn1 hbs1 1 (.int .i64 y.n)).set hfn1 hbn1 hbs1 2 (.int .i64 y.f)).set hfn1 hbn1 hbs1 3 (.int .i64 y.p))
                   obtain ⟨u0, u1, u2, u3⟩ := set4 t0 t1 t2 t3 (.int .i64 y.m) (.int .i64 y.n) (.int .i64 y.f) (.int .i64 y.p)
                   clear r0 r1 r2 r3 r4 r5 rl t0 t1 t2 t3 tz
                   generalize ((((w5.setCell ⟨wr.heap.size, 0, none⟩ (.int .i64 y.m)).setCell ⟨wr.heap.size, 1, none⟩ (.int .i64 y.n)).setCell ⟨wr.heap.size, 2, none⟩ (.int .i64 y.f)).setCell ⟨wr.heap.size, 3, none⟩ (.int .i64 y.p)) = w6 at *
                   obtain ⟨r0, r1, r2, r3, r4, r5, rl⟩ := CE.out _ H6.out.hw
                   go_wp2_with fail
                   go_quiet (fail))
              have H7 := Lib.hid (H6.out.drewN nq)
              obtain ⟨g0, g1, g2, g3, g4, g5, gl⟩ := CE.out _ H7.out.hw
              clear r0 r1 r2 r3 r4 r5 rl
              generalize w6.drewN nq = w7 at *
              by_cases hx : y.m = 1
              · have e1 : (y.m == 1) = true := by simpa using hx
                have HXX := Lib.hid hx
                clear hx
                go_wp2_with fail
                go_roundw
                case rel => exact ⟨k + 1, by omega, by go_num, by rw [hT.out, inT_snoc_in (by rw [HY.out]; exact HXX.out)]; go_num, H7⟩
                case measure => simp [intOf]; omega
              · have e1 : (y.m == 1) = false := by simpa using hx
                have HXX := Lib.hid hx
                clear hx
                go_wp2_with fail
                go_roundw
                case rel => exact ⟨k + 1, by omega, by go_num, by rw [hT.out, inT_snoc_out (by rw [HY.out]; exact HXX.out)], H7⟩
                case measure => simp [intOf]; omega
          · obtain rfl : k = l.length := by omega
            have hcnt := HX.out.count 1
            have HCN := Lib.hid hcnt
            have HLN := Lib.hid HX.out.len
            have hle := HX.out.le
            clear hcnt
            rw [List.take_length]
            go_wp2_with (first | (go_at_call 13; refine (count_any HX.out.tb).mono ?_; rintro e w8 ⟨rfl, b8⟩; rw [← HLN.out]; have H8 := Lib.hid (HX.out.below b8); clear b8) | (go_at_call 14; refine (in_any H8.out.tb 1).mono ?_; rintro e w9 ⟨rfl, b9⟩; rw [HCN.out]; have H9 := Lib.hid (H8.out.below b9); clear b9) | (go_at_call 10; refine (known_any _).mono ?_; rintro e w10 ⟨rfl, b10⟩))
            go_ret
            exact ⟨rfl, H9.out.bel.trans (b10.mono H9.out.bel.size)⟩
      · go_wp2_with fail
        go_loopw [11, 12] (fun nv kv wr => ∃ k : Nat, k ≤ l.length ∧ kv = .int .i64 k ∧ nv = .int .i64 ((inT s.T (l.take k) 1 : Nat) : Int) ∧ Hid (Hv w wr w.heap.size (.slice av l.length cv) l s)) (fun _ kv _ => l.length - (intOf kv).toNat)
        case atStart => exact ⟨0, by omega, rfl, by simp [inT], HS⟩
        case round =>
          obtain ⟨k, hk, rfl, rfl, HX⟩ := hrel
          clear HS
          by_cases hlk : k < l.length
          · have hp : 0 < l.length := by omega
            obtain ⟨fw, ow, dw, ew⟩ := HX.out.hw.form hp
            cases ew
            have hmem : l.getD k 0 ∈ l := by simp [hlk]
            obtain ⟨hk64, hko⟩ := HX.out.mem hmem
            obtain ⟨K, hK⟩ : ∃ K, l.getD k 0 = K := ⟨_, rfl⟩
            have HK := Lib.hid hK
            rw [hK] at hk64 hko
            have HGK := Lib.hid (get_ok hk64 hko)
            obtain ⟨y, hy⟩ : ∃ y, s.T K = y := ⟨_, rfl⟩
            have HY := Lib.hid hy
            have hT : Hid (l.take (k + 1) = l.take k ++ [K]) := Lib.hid (by
              rw [List.take_succ_eq_append_getElem hlk, ← HK.out]
              simp [List.getD_eq_getElem?_getD, List.getElem?_eq_getElem hlk])
            have hin := inT_le s.T (l.take k) 1
            have hin2 : inT s.T (l.take k) 1 ≤ 64 := by
              have := HX.out.le
              rw [List.length_take] at hin
              omega
            clear hin
            have CE : Hid (∀ W, Win W w.heap.size 60 6 (.slice (some ⟨fw, ow, none⟩) l.length cv) l.length (hcells s l) → W.cell? ⟨fw, ow + k * 6, none⟩ = some (.int .i64 ((K / 8 : Nat) : Int)) ∧ W.cell? ⟨fw, ow + k * 6 + 1, none⟩ = some (.int .i64 ((K % 8 : Nat) : Int)) ∧ W.cell? ⟨fw, ow + k * 6 + 2, none⟩ = some (.int .i64 y.m) ∧ W.cell? ⟨fw, ow + k * 6 + 2 + 1, none⟩ = some (.int .i64 y.n) ∧ W.cell? ⟨fw, ow + k * 6 + 2 + 2, none⟩ = some (.int .i64 y.f) ∧ W.cell? ⟨fw, ow + k * 6 + 2 + 3, none⟩ = some (.int .i64 y.p) ∧ fw < W.heap.size) := Lib.hid (by
              intro W hW
              have g : ∀ c, c < 6 → W.cell? ⟨fw, ow + (k * 6 + c), none⟩ = (entry s K)[c]? := fun c hc => by
                rw [hW.cells (k * 6 + c) (by omega), hcells_get s l k c hlk hc, HK.out]
              simp only [entry, HY.out] at g
              exact ⟨g 0 (by omega), g 1 (by omega), g 2 (by omega), g 3 (by omega), g 4 (by omega), g 5 (by omega), (hW.lt fw rfl).2⟩)
            clear hmem hko hK hy
            obtain ⟨r0, r1, r2, r3, r4, r5, rl⟩ := CE.out _ HX.out.hw
            have hk0 : (0 : Int) ≤ (k : Int) := by omega
            have hk1 : (k : Int) < (l.length : Int) := by omega
            have hb := HX.out.hw.bound
            unfold maxLen at hb
            go_wp2_with fail
            have hfne : ∀ W, Hv w W w.heap.size (.slice (some ⟨fw, ow, none⟩) l.length cv) l s → fw ≠ W.heap.size := fun W hW => by have := (hW.hw.lt fw rfl).2; omega
            have hfn1 := hfne _ HX.out
            have hbn1 : w.heap.size ≠ wr.heap.size := by have := HX.out.tb.lt; omega
            have hbs1 : w.heap.size ≤ wr.heap.size := HX.out.bel.size
            clear hfne
            have hfn2 : ¬ wr.heap.size = fw := fun h => hfn1 h.symm
            go_region_held3 (fun w' => w'.cell? ⟨fw, ow + k * 6, none⟩ = some (.int .i64 ((K / 8 : Nat) : Int)) ∧ w'.cell? ⟨fw, ow + k * 6 + 1, none⟩ = some (.int .i64 ((K % 8 : Nat) : Int))) (first | with_reducible exact ⟨r0, r1⟩ | with_reducible exact ⟨(CE.out _ (HX.out.alloc _).hw).1, (CE.out _ (HX.out.alloc _).hw).2.1⟩ | with_reducible exact ⟨(CE.out _ (HX.out.drew.alloc _).hw).1, (CE.out _ (HX.out.drew.alloc _).hw).2.1⟩ | with_reducible exact ⟨(CE.out _ (HX.out.alloc _).drew.hw).1, (CE.out _ (HX.out.alloc _).drew.hw).2.1⟩ | (refine ⟨?_, ?_⟩ <;> simp only [World.cell?_setCell_far, hfn2, ne_eq, not_false_eq_true, r0, r1]; done) | exact ⟨r0, r1⟩) (first | (go_at_call 12; (first | refine (tb_get_is HGK.out HX.out.tb).mono ?_ | refine (tb_get_is HGK.out HX.out.drew.tb).mono ?_); rintro e w5 ⟨rfl, b5⟩; rw [HY.out]; have HX := Lib.hid (by first | exact HX.out.below b5 | exact HX.out.drew.below b5); obtain ⟨r0, r1, r2, r3, r4, r5, rl⟩ := CE.out _ HX.out.hw; clear b5) | (go_at_call 12; (first | refine (tb_get_is HGK.out (HX.out.alloc (.cells #[.int .i64 0, .int .i64 0, .int .i64 0, .int .i64 0] 41)).tb).mono ?_ | refine (tb_get_is HGK.out (HX.out.drew.alloc (.cells #[.int .i64 0, .int .i64 0, .int .i64 0, .int .i64 0] 41)).tb).mono ?_); rintro e w5 ⟨rfl, b5⟩; rw [HY.out]; have t0 : w5.cell? ⟨wr.heap.size, 0, none⟩ = some (.int .i64 0) := ((b5.cell (p := ⟨wr.heap.size, 0, none⟩) (new_lt _ _)).trans (World.cell?_alloc_new _ _ _ _)); have t1 : w5.cell? ⟨wr.heap.size, 1, none⟩ = some (.int .i64 0) := ((b5.cell (p := ⟨wr.heap.size, 1, none⟩) (new_lt _ _)).trans (World.cell?_alloc_new _ _ _ _)); have t2 : w5.cell? ⟨wr.heap.size, 2, none⟩ = some (.int .i64 0) := ((b5.cell (p := ⟨wr.heap.size, 2, none⟩) (new_lt _ _)).trans (World.cell?_alloc_new _ _ _ _)); have t3 : w5.cell? ⟨wr.heap.size, 3, none⟩ = some (.int .i64 0) := ((b5.cell (p := ⟨wr.heap.size, 3, none⟩) (new_lt _ _)).trans (World.cell?_alloc_new _ _ _ _)); have tz : ∀ j, w5.frozen? ⟨wr.heap.size, j, none⟩ = false := (fun j => (b5.frozen (p := ⟨wr.heap.size, j, none⟩) (new_lt _ _)).trans (World.frozen?_alloc_new _ _ _ _)); have HX := Lib.hid (by first | exact (HX.out.alloc _).below b5 | exact (HX.out.drew.alloc _).below b5); obtain ⟨r0, r1, r2, r3, r4, r5, rl⟩ := CE.out _ HX.out.hw; clear b5))
            all_goals
              first
                | (have H6 := Lib.hid (HX.out.alloc (.cells #[.int .i64 y.m, .int .i64 y.n, .int .i64 y.f, .int .i64 y.p] 41))
                   have t0 : (w5.alloc (.cells #[.int .i64 y.m, .int .i64 y.n, .int .i64 y.f, .int .i64 y.p] 41)).cell? ⟨w5.heap.size, 0, none⟩ = some (.int .i64 y.m) := World.cell?_alloc_new _ _ _ _
                   have t1 : (w5.alloc (.cells #[.int .i64 y.m, .int .i64 y.n, .int .i64 y.f, .int .i64 y.p] 41)).cell? ⟨w5.heap.size, 1, none⟩ = some (.int .i64 y.n) := World.cell?_alloc_new _ _ _ _
                   have t2 : (w5.alloc (.cells #[.int .i64 y.m, .int .i64 y.n, .int .i64 y.f, .int .i64 y.p] 41)).cell? ⟨w5.heap.size, 2, none⟩ = some (.int .i64 y.f) := World.cell?_alloc_new _ _ _ _
                   have t3 : (w5.alloc (.cells #[.int .i64 y.m, .int .i64 y.n, .int .i64 y.f, .int .i64 y.p] 41)).cell? ⟨w5.heap.size, 3, none⟩ = some (.int .i64 y.p) := World.cell?_alloc_new _ _ _ _
                   clear r0 r1 r2 r3 r4 r5 rl
                   generalize w5.alloc (.cells #[.int .i64 y.m, .int .i64 y.n, .int .i64 y.f, .int .i64 y.p] 41) = w6 at *
                   obtain ⟨r0, r1, r2, r3, r4, r5, rl⟩ := CE.out _ H6.out.hw
                   go_wp2_with fail
                   go_quiet (fail))
                | (have H6 := Lib.hid ((((HX.out.set hfn1 hbn1 hbs1 0 (.int .i64 y.m)).set hfn1 hbn1 hbs1 1 (.int .i64 y.n)).set hfn1 hbn1 hbs1 2 (.int .i64 y.f)).set hfn1 hbn1 hbs1 3 (.int .i64 y.p))
                   obtain ⟨u0, u1, u2, u3⟩ := set4 t0 t1 t2 t3 (.int .i64 y.m) (.int .i64 y.n) (.int .i64 y.f) (.int .i64 y.p)
                   clear r0 r1 r2 r3 r4 r5 rl t0 t1 t2 t3 tz
                   generalize ((((w5.setCell ⟨wr.heap.size, 0, none⟩ (.int .i64 y.m)).setCell ⟨wr.heap.size, 1, none⟩ (.int .i64 y.n)).setCell ⟨wr.heap.size, 2, none⟩ (.int .i64 y.f)).setCell ⟨wr.heap.size, 3, none⟩ (.int .i64 y.p)) = w6 at *
                   obtain ⟨r0, r1, r2, r3, r4, r5, rl⟩ := CE.out _ H6.out.hw
                   go_wp2_with fail
                   go_quiet (fail))
              have H7 := Lib.hid (H6.out.drewN nq)
              obtain ⟨g0, g1, g2, g3, g4, g5, gl⟩ := CE.out _ H7.out.hw
              clear r0 r1 r2 r3 r4 r5 rl
              generalize w6.drewN nq = w7 at *
              by_cases hx : y.m = 1
              · have e1 : (y.m == 1) = true := by simpa using hx
                have HXX := Lib.hid hx
                clear hx
                go_wp2_with fail
                go_roundw
                case rel => exact ⟨k + 1, by omega, by go_num, by rw [hT.out, inT_snoc_in (by rw [HY.out]; exact HXX.out)]; go_num, H7⟩
                case measure => simp [intOf]; omega
              · have e1 : (y.m == 1) = false := by simpa using hx
                have HXX := Lib.hid hx
                clear hx
                go_wp2_with fail
                go_roundw
                case rel => exact ⟨k + 1, by omega, by go_num, by rw [hT.out, inT_snoc_out (by rw [HY.out]; exact HXX.out)], H7⟩
                case measure => simp [intOf]; omega
          · obtain rfl : k = l.length := by omega
            have hcnt := HX.out.count 1
            have HCN := Lib.hid hcnt
            have HLN := Lib.hid HX.out.len
            have hle := HX.out.le
            clear hcnt
            rw [List.take_length]
            go_wp2_with (first | (go_at_call 13; refine (count_any HX.out.tb).mono ?_; rintro e w8 ⟨rfl, b8⟩; rw [← HLN.out]; have H8 := Lib.hid (HX.out.below b8); clear b8) | (go_at_call 14; refine (in_any H8.out.tb 1).mono ?_; rintro e w9 ⟨rfl, b9⟩; rw [HCN.out]; have H9 := Lib.hid (H8.out.below b9); clear b9) | (go_at_call 10; refine (known_any _).mono ?_; rintro e w10 ⟨rfl, b10⟩))
            go_ret
            exact ⟨rfl, H9.out.bel.trans (b10.mono H9.out.bel.size)⟩
end Go.Proofs.Ytfmhiamgfhdmmaa
