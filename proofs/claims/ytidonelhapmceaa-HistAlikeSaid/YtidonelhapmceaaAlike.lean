/- The walk of HistAlike. -/
import Derived.Test.YtidonelhapmceaaGrow
import Derived.Test.YtidonelhapmceaaPending
import Derived.Test.YtidonelhapmceaaSame0
namespace Go.Proofs.Ytidonelhapmceaa
open Go.RowKit

theorem sameI_refl' (r : Res) : sameI r r = true := by simp [sameI, statI]
theorem sameI_symm (a b : Res) : sameI a b = sameI b a := by
  unfold sameI statI
  have e1 : ∀ x y : Int, decide (x = y) = decide (y = x) := fun x y => decide_eq_decide.2 eq_comm
  rw [Bool.eq_iff_iff]
  simp only [Bool.and_eq_true, decide_eq_true_eq, beq_iff_eq]
  constructor <;> (rintro ⟨h1, h2, h3, h4, h5, h6, h7, h8, h9, h10, h11⟩; exact ⟨h1.symm, h2.symm, h3.symm, h4.symm, h5.symm, h6.symm, h7.symm, h8.symm, h9.symm, h10.symm, h11.symm⟩)

set_option maxRecDepth 100000 in
set_option maxHeartbeats 16000000 in
theorem alike_any {w : World} {r : Res} {y z : Value} {x : Int} (hy : Den 1 w y (byts r.ds)) (hz : Den 16 w z (strs r.ss)) (hx1 : -9223372036854775808 ≤ x) (hx2 : x ≤ 9223372036854775807) :
    Calls Try.prog 7 #[.agg (r.cells y z).toArray, .int .i64 x] w fun e w' => e = .returned (.bool true) ∧ Below w.heap.size w w' := by
  obtain ⟨i5, hi5, ha0, ha1, ha2⟩ := info_parts info5
  obtain ⟨i9, hi9, hb0, hb1, hb2⟩ := info_parts info9
  obtain ⟨A, hA⟩ : ∃ A : Array Value, A = (r.cells y z).toArray := ⟨_, rfl⟩
  rw [← hA]
  have H1 : Hid (Holds (w.alloc (.cells A 33)) w.heap.size (r.cells y z).toArray) := Lib.hid (by rw [← hA]; exact Holds.new _ _ _)
  have OY : Hid (∀ B, w.heap.size ≤ B → Off y B ∧ Off z B) := Lib.hid (fun B hB => ⟨hy.off hB, hz.off hB⟩)
  have HW : Hid (Below w.heap.size w (w.alloc (.cells A 33))) := Lib.hid ((Below.refl w.heap.size w).alloc (Nat.le_refl _) _)
  have DY := Lib.hid (hy.below HW.out)
  have DZ := Lib.hid (hz.below HW.out)
  clear hA hy hz
  go_enter Try.func7, Try.ntmps7
  go_upto_region 1 with fail
  generalize hW : w.alloc (.cells A 33) = W0 at *
  clear hW
  obtain ⟨B0, hB0⟩ : ∃ B0, B0 = w.heap.size := ⟨_, rfl⟩
  rw [← hB0] at H1 ⊢
  have HB0 := Lib.hid hB0
  clear hB0
  have RA := Lib.hid H1.out.range
  have RO := Lib.hid (Res.one DY.out.one DZ.out.one (r := r))
  have ZA : Hid (∀ C : Array Value, C.size = 11 → (W0.alloc (.cells C 33)).there W0.heap.size 0 (r.cells y z).toArray.size) := Lib.hid (fun C hC => by
    have := (Holds.new W0 C 33).there
    rw [hC] at this
    exact this)
  go_upto_region 2 with (first | (refine wpList_load_mid rfl 33 (.tmp 2) rfl B0 0 rfl (r.cells y z) _ ?_ Try.underlying33 rfl size33 ?_; (exact RA.out)) | (refine wpList_store_mid rfl 33 (.tmp 5) (.tmp 6) rfl W0.heap.size 0 (r.cells y z).toArray rfl rfl ?_ size33 RO.out ?_; (exact (ZA.out _ rfl))))
  obtain ⟨h2a, h2b⟩ := new_set (w := W0) (C := #[.int .i64 0, .int .i64 0, .slice none 0 0, .slice none 0 0, .int .i64 0, .int .i64 0, .int .i64 0, .int .i64 0, .int .i64 0, .int .i64 0, .int .i64 0]) (ty := 33) (vs := r.cells y z) rfl
  have H2 := Lib.hid h2a
  have HW1 := Lib.hid (HW.out.trans (h2b.mono HW.out.size))
  have HA1 := Lib.hid (H1.out.below h2b)
  have DY1 := Lib.hid (DY.out.below h2b)
  have DZ1 := Lib.hid (DZ.out.below h2b)
  have hlt0 := H1.out.lt
  clear h2a h2b
  generalize (W0.alloc (.cells (#[.int .i64 0, .int .i64 0, .slice none 0 0, .slice none 0 0, .int .i64 0, .int .i64 0, .int .i64 0, .int .i64 0, .int .i64 0, .int .i64 0, .int .i64 0] : Array Value) 33)).setCells W0.heap.size 0 (r.cells y z) = W1 at *
  obtain ⟨B1, hB1⟩ : ∃ B1, B1 = W0.heap.size := ⟨_, rfl⟩
  rw [← hB1] at H2 hlt0 ⊢
  clear hB1 ZA RA DY DZ H1
  obtain ⟨py, cy, rfl⟩ := DY1.out.value
  obtain ⟨pz, cz, rfl⟩ := DZ1.out.value
  have hlt1 := H2.out.lt
  -- the data
  have c2 : (W1.alloc (.cells #[] 5)).cell? ⟨B0, 2, none⟩ = some (.slice py (byts r.ds).length cy) := (HA1.out.alloc _).cell 2
  have hO := own_empty W1 W1.heap.size 5 (Nat.le_refl _)
  have hD := DY1.out.below ((Below.refl _ _).alloc (Nat.le_refl _) (.cells #[] 5))
  have HO := Lib.hid hO
  have HD := Lib.hid hD
  have hBW : W1.heap.size ≤ (W1.alloc (.cells #[] 5)).heap.size := by simp
  clear hO hD
  go_upto_region 3 with (first | (at_builtin; go_must (refine wpList_append_den rfl (.tmp 7) (.tmp 9) 26 rfl W1.heap.size W1.heap.size 5 i5 _ 1 Try.underlying26 hi5 ha0 ha1 ha2 rfl rfl HO.out (.slice py (byts r.ds).length cy) (byts r.ds) rfl HD.out (byts_one _) hBW ?_; intro p1 c1 w2 d1 f1 n1 g1; have N1 := Lib.hid n1; clear n1; have b2 : Below W1.heap.size W1 w2 := (((Below.refl _ _).alloc (Nat.le_refl _) _).trans (Frm.below (l := [W1.heap.size]) (Frm.of_grown g1 (fun k hk _ => (by simpa [eq_comm] using hk))) hBW (by simp))); have D1 := Lib.hid d1; have F1 := Lib.hid f1; have B2 := Lib.hid b2; have H3 := Lib.hid (H2.out.below b2); have e2 : w2.cell? ⟨B1, 2, none⟩ = some (.slice py (byts r.ds).length cy) := H3.out.cell 2; have e3 : w2.frozen? ⟨B1, 2, none⟩ = false := H3.out.free 2; clear d1 f1 g1 b2)))
  have FS : Frm [B1] w2 (w2.setCell ⟨B1, 2, none⟩ (.slice p1 (byts r.ds).length c1)) := (Frm.refl _ _).setCell (by simp) _
  have H4 : Hid (Holds (w2.setCell ⟨B1, 2, none⟩ (.slice p1 (byts r.ds).length c1)) B1 (r.cells (.slice p1 (byts r.ds).length c1) (.slice pz (strs r.ss).length cz)).toArray) := Lib.hid (H3.out.set 2 _ (by show 2 < 11; omega))
  have HA2 := Lib.hid ((HA1.out.below B2.out).frm FS (by simp; omega))
  have DY2 := Lib.hid (D1.out.frm FS (by intro k hk; simp at hk; subst hk; exact F1.out.off hlt1))
  have HU1 := Lib.hid N1.out.lt
  have NY2 := Lib.hid (N1.out.frm FS (by intro k hk h; simp at hk; subst hk; have := (HU1.out _ h).1; omega))
  have hw2 : w2.heap.size ≤ (w2.setCell ⟨B1, 2, none⟩ (.slice p1 (byts r.ds).length c1)).heap.size := by simp
  have OY1 := Lib.hid (F1.out.off hlt1)
  have HW2 := Lib.hid (((HW1.out.trans (B2.out.mono HW1.out.size))).trans (FS.below (Nat.le_trans HW1.out.size B2.out.size) (by have := HW.out.size; have := HB0.out; simp; omega)))
  have HF2 := Lib.hid (show Frm [B1] W1 (w2.setCell ⟨B1, 2, none⟩ (.slice p1 (byts r.ds).length c1)) from (Frm.of_below B2.out).trans FS)
  have DA2 : Hid (Den 1 (w2.setCell ⟨B1, 2, none⟩ (.slice p1 (byts r.ds).length c1)) (.slice py (byts r.ds).length cy) (byts r.ds)) := Lib.hid (DY1.out.frm HF2.out (by intro k hk; simp at hk; rw [hk]; exact (OY.out B1 (by have := HB0.out; omega)).1))
  have DZ2 : Hid (Den 16 (w2.setCell ⟨B1, 2, none⟩ (.slice p1 (byts r.ds).length c1)) (.slice pz (strs r.ss).length cz) (strs r.ss)) := Lib.hid (DZ1.out.frm HF2.out (by intro k hk; simp at hk; rw [hk]; exact (OY.out B1 (by have := HB0.out; omega)).2))
  have HWC := Lib.hid HF2.out.size
  generalize w2.setCell ⟨B1, 2, none⟩ (.slice p1 (byts r.ds).length c1) = W2 at *
  clear c2 H3 D1 F1 B2 HF2 e2 e3 HO HD hBW FS
  -- the names
  have hlt2 := H4.out.lt
  have c2 : (W2.alloc (.cells #[] 9)).cell? ⟨B0, 3, none⟩ = some (.slice pz (strs r.ss).length cz) := (HA2.out.alloc _).cell 3
  have HO := Lib.hid (own_empty W2 W2.heap.size 9 (Nat.le_refl _))
  have HD := Lib.hid (DZ2.out.below ((Below.refl _ _).alloc (Nat.le_refl _) (.cells #[] 9)))
  have hBW : W2.heap.size ≤ (W2.alloc (.cells #[] 9)).heap.size := by simp
  go_upto_region 4 with (first | (at_builtin; go_must (refine wpList_append_den rfl (.tmp 12) (.tmp 14) 29 rfl W2.heap.size W2.heap.size 9 i9 _ 16 Try.underlying29 hi9 hb0 hb1 hb2 rfl rfl HO.out (.slice pz (strs r.ss).length cz) (strs r.ss) rfl HD.out (strs_one _) hBW ?_; intro p2 c2' w3 d1 f1 n1 g1; have M1 := Lib.hid n1; clear n1; have b2 : Below W2.heap.size W2 w3 := (((Below.refl _ _).alloc (Nat.le_refl _) _).trans (Frm.below (l := [W2.heap.size]) (Frm.of_grown g1 (fun k hk _ => (by simpa [eq_comm] using hk))) hBW (by simp))); have D1 := Lib.hid d1; have F1 := Lib.hid f1; have B2 := Lib.hid b2; have H3 := Lib.hid (H4.out.below b2); have e2 : w3.cell? ⟨B1, 3, none⟩ = some (.slice pz (strs r.ss).length cz) := H3.out.cell 3; have e3 : w3.frozen? ⟨B1, 3, none⟩ = false := H3.out.free 3; clear d1 f1 g1 b2)))
  have FS : Frm [B1] w3 (w3.setCell ⟨B1, 3, none⟩ (.slice p2 (strs r.ss).length c2')) := (Frm.refl _ _).setCell (by simp) _
  have HF2 := Lib.hid (show Frm [B1] W2 (w3.setCell ⟨B1, 3, none⟩ (.slice p2 (strs r.ss).length c2')) from (Frm.of_below B2.out).trans FS)
  have H5 : Hid (Holds (w3.setCell ⟨B1, 3, none⟩ (.slice p2 (strs r.ss).length c2')) B1 (r.cells (.slice p1 (byts r.ds).length c1) (.slice p2 (strs r.ss).length c2')).toArray) := Lib.hid (H3.out.set 3 _ (by show 3 < 11; omega))
  have HA3 := Lib.hid (HA2.out.frm HF2.out (by simp; omega))
  have DY3 := Lib.hid (DY2.out.frm HF2.out (by intro k hk; simp at hk; subst hk; exact OY1.out))
  have OZ1 := Lib.hid (F1.out.off hlt2)
  have DZ3 := Lib.hid (D1.out.frm FS (by intro k hk; simp at hk; subst hk; exact OZ1.out))
  have NY3 := Lib.hid (NY2.out.frm HF2.out (by intro k hk h; simp at hk; subst hk; have := (HU1.out _ h).1; omega))
  have HU2 := Lib.hid M1.out.lt
  have NZ3 := Lib.hid (M1.out.frm FS (by intro k hk h; simp at hk; subst hk; have := (HU2.out _ h).1; omega))
  have FZ3 := Lib.hid F1.out
  have hle : w.heap.size ≤ B1 := by have := HB0.out; omega
  have HW3 := Lib.hid (HW2.out.trans (HF2.out.below HW2.out.size (by simp; exact hle)))
  have DA3 : Hid (Den 1 (w3.setCell ⟨B1, 3, none⟩ (.slice p2 (strs r.ss).length c2')) (.slice py (byts r.ds).length cy) (byts r.ds)) := Lib.hid (DA2.out.frm HF2.out (by intro k hk; simp at hk; rw [hk]; exact (OY.out B1 hle).1))
  have DB3 : Hid (Den 16 (w3.setCell ⟨B1, 3, none⟩ (.slice p2 (strs r.ss).length c2')) (.slice pz (strs r.ss).length cz) (strs r.ss)) := Lib.hid (DZ2.out.frm HF2.out (by intro k hk; simp at hk; rw [hk]; exact (OY.out B1 hle).2))
  have HWB := Lib.hid HF2.out.size
  have HWA := Lib.hid (Nat.le_trans HWC.out HWB.out)
  generalize w3.setCell ⟨B1, 3, none⟩ (.slice p2 (strs r.ss).length c2') = W3 at *
  clear c2 H3 D1 F1 B2 HF2 e2 e3 HO HD hBW FS HA2 DA2 DZ2 H4 HA1 DY1 DZ1 HW1 H2
  have hBW1 := Lib.hid hlt1
  have OYW : Hid (∀ k, W2.heap.size ≤ k → Off (.slice p1 (byts r.ds).length c1) k) := Lib.hid (fun k hk => DY2.out.off hk)
  have hWW2 := Lib.hid HW2.out.size
  have hwW := Lib.hid hw2
  clear hlt1 hlt2 DY2 HW2 hw2
  -- the first comparison
  have HX1 : Hid (∀ X, Below W3.heap.size W3 X → Calls Try.prog 16 #[.agg (r.cells (.slice py (byts r.ds).length cy) (.slice pz (strs r.ss).length cz)).toArray, .agg (r.cells (.slice p1 (byts r.ds).length c1) (.slice p2 (strs r.ss).length c2')).toArray] X fun e w' => e = .returned (.bool true) ∧ Below X.heap.size X w') := Lib.hid (fun X hX => by
    have := same_any (DA3.out.below hX) (DB3.out.below hX) (DY3.out.below hX) (DZ3.out.below hX)
    rwa [sameI_refl'] at this)
  have HX2 : Hid (∀ X, Below W3.heap.size W3 X → Calls Try.prog 16 #[.agg (r.cells (.slice p1 (byts r.ds).length c1) (.slice p2 (strs r.ss).length c2')).toArray, .agg (r.cells (.slice py (byts r.ds).length cy) (.slice pz (strs r.ss).length cz)).toArray] X fun e w' => e = .returned (.bool true) ∧ Below X.heap.size X w') := Lib.hid (fun X hX => by
    have := same_any (DY3.out.below hX) (DZ3.out.below hX) (DA3.out.below hX) (DB3.out.below hX)
    rwa [sameI_refl'] at this)
  have BX := Lib.hid (Below.refl W3.heap.size W3)
  have RX := Lib.hid HA3.out.range
  have RY := Lib.hid H5.out.range
  go_upto_region 6 with (first | (refine wpList_load_mid_g (by rfl) 33 (.tmp 2) rfl B0 0 rfl (r.cells (.slice py (byts r.ds).length cy) (.slice pz (strs r.ss).length cz)) _ ?_ Try.underlying33 rfl size33 ?_; (exact RX.out)) | (refine wpList_load_mid_g (by rfl) 33 (.tmp 5) rfl B1 0 rfl (r.cells (.slice p1 (byts r.ds).length c1) (.slice p2 (strs r.ss).length c2')) _ ?_ Try.underlying33 rfl size33 ?_; (exact RY.out)) | (go_at_call 16; (first | with_reducible refine (HX1.out _ BX.out).mono ?_ | with_reducible refine (HX2.out _ BX.out).mono ?_); rintro e5 w5 ⟨rfl, b5⟩; have BX := Lib.hid (BX.out.trans (b5.mono BX.out.size)); have RX := Lib.hid ((HA3.out.below BX.out).range); have RY := Lib.hid ((H5.out.below BX.out).range); clear b5))
  have HA5 := Lib.hid (HA3.out.below BX.out)
  have HB5 := Lib.hid (H5.out.below BX.out)
  have DA5 := Lib.hid (DA3.out.below BX.out)
  have DB5 := Lib.hid (DB3.out.below BX.out)
  have DY5 := Lib.hid (DY3.out.below BX.out)
  have DZ5 := Lib.hid (DZ3.out.below BX.out)
  have NY5 := Lib.hid (NY3.out.below BX.out)
  have NZ5 := Lib.hid (NZ3.out.below BX.out)
  have HW5 := Lib.hid (HW3.out.trans (BX.out.mono HW3.out.size))
  have hs5 := Lib.hid BX.out.size
  have HYB := Lib.hid (show W1.heap.size ≤ w5.heap.size from Nat.le_trans HWA.out hs5.out)
  have HZB := Lib.hid (show W2.heap.size ≤ w5.heap.size from Nat.le_trans HWB.out hs5.out)
  clear RX RY HX1 HX2 HA3 H5 DA3 DB3 DY3 DZ3 NY3 NZ3 HW3 BX
  have hB15 := HB5.out.lt
  go_upto_if 28 with fail
  go_cut [1] (fun v wx => ∃ x' : Int, v = .int .i64 x' ∧ 0 ≤ x' ∧ wx = w5)
  case first =>
    by_cases g : x < 0
    · have d : decide (x < 0) = true := by simpa using g
      go_wp2_with fail
      go_meet
      exact ⟨-(x + 1), by simp [go_sem], by omega, rfl⟩
    · have d : decide (x < 0) = false := by simpa using g
      go_wp2_with fail
      go_meet
      exact ⟨x, rfl, by omega, rfl⟩
  case rest =>
    obtain ⟨x', rfl, hx0, rfl⟩ := hcut
    have hP : Int.tmod x' 6 = 0 ∨ Int.tmod x' 6 = 1 ∨ Int.tmod x' 6 = 2 ∨ Int.tmod x' 6 = 3 ∨ Int.tmod x' 6 = 4 ∨ Int.tmod x' 6 = 5 := by
      have e0 := Int.tmod_eq_emod_of_nonneg hx0 (b := 6)
      omega
    clear hx0 hx1 hx2
    rcases hP with hP | hP | hP | hP | hP | hP
    · have k0 : wc.cell? ⟨B1, 0, none⟩ = some (.int .i64 r.w) := HB5.out.cell 0
      have k1 : wc.frozen? ⟨B1, 0, none⟩ = false := HB5.out.free 0
      go_upto_region 20 with fail
      have FS : Frm [B1] wc (wc.setCell ⟨B1, 0, none⟩ (.int .i64 (bits .xor .i64 r.w 1))) := (Frm.refl _ _).setCell (by simp) _
      have HB6 : Hid (Holds (wc.setCell ⟨B1, 0, none⟩ (.int .i64 (bits .xor .i64 r.w 1))) B1 ((⟨bits .xor .i64 r.w 1, r.n, r.s0, r.s1, r.s2, r.s3, r.s4, r.s5, r.s6, r.ds, r.ss⟩ : Res).cells (.slice p1 (byts r.ds).length c1) (.slice p2 (strs r.ss).length c2')).toArray) := Lib.hid (HB5.out.set 0 _ (by show 0 < 11; omega))
      have HA6 := Lib.hid (HA5.out.frm FS (by simp; omega))
      have DA6 := Lib.hid (DA5.out.frm FS (by intro k hk; simp at hk; rw [hk]; exact (OY.out B1 hle).1))
      have DB6 := Lib.hid (DB5.out.frm FS (by intro k hk; simp at hk; rw [hk]; exact (OY.out B1 hle).2))
      have DY6 := Lib.hid (DY5.out.frm FS (by intro k hk; simp at hk; rw [hk]; exact OY1.out))
      have DZ6 := Lib.hid (DZ5.out.frm FS (by intro k hk; simp at hk; rw [hk]; exact OZ1.out))
      have HW6 := Lib.hid (HW5.out.trans (FS.below HW5.out.size (by simp; exact hle)))
      generalize wc.setCell ⟨B1, 0, none⟩ (.int .i64 (bits .xor .i64 r.w 1)) = w6 at *
      clear k0 k1 FS HA5 HB5 DA5 DB5 DY5 DZ5 NY5 NZ5
      have HS : sameI r (⟨bits .xor .i64 r.w 1, r.n, r.s0, r.s1, r.s2, r.s3, r.s4, r.s5, r.s6, r.ds, r.ss⟩ : Res) = false := by simp [sameI, (xor1_ne r.w).symm]
      have HX1 : Hid (∀ X, Below w6.heap.size w6 X → Calls Try.prog 16 #[.agg (r.cells (.slice py (byts r.ds).length cy) (.slice pz (strs r.ss).length cz)).toArray, .agg ((⟨bits .xor .i64 r.w 1, r.n, r.s0, r.s1, r.s2, r.s3, r.s4, r.s5, r.s6, r.ds, r.ss⟩ : Res).cells (.slice p1 (byts r.ds).length c1) (.slice p2 (strs r.ss).length c2')).toArray] X fun e w' => e = .returned (.bool false) ∧ Below X.heap.size X w') := Lib.hid (fun X hX => by
        have := same0_any (a := r) (b := (⟨bits .xor .i64 r.w 1, r.n, r.s0, r.s1, r.s2, r.s3, r.s4, r.s5, r.s6, r.ds, r.ss⟩ : Res)) (DA6.out.below hX) (DB6.out.below hX) (DY6.out.below hX) (DZ6.out.below hX)
        rwa [HS] at this)
      have HX2 : Hid (∀ X, Below w6.heap.size w6 X → Calls Try.prog 16 #[.agg ((⟨bits .xor .i64 r.w 1, r.n, r.s0, r.s1, r.s2, r.s3, r.s4, r.s5, r.s6, r.ds, r.ss⟩ : Res).cells (.slice p1 (byts r.ds).length c1) (.slice p2 (strs r.ss).length c2')).toArray, .agg (r.cells (.slice py (byts r.ds).length cy) (.slice pz (strs r.ss).length cz)).toArray] X fun e w' => e = .returned (.bool false) ∧ Below X.heap.size X w') := Lib.hid (fun X hX => by
        have := same0_any (a := (⟨bits .xor .i64 r.w 1, r.n, r.s0, r.s1, r.s2, r.s3, r.s4, r.s5, r.s6, r.ds, r.ss⟩ : Res)) (b := r) (DY6.out.below hX) (DZ6.out.below hX) (DA6.out.below hX) (DB6.out.below hX)
        rwa [sameI_symm, HS] at this)
      have BX := Lib.hid (Below.refl w6.heap.size w6)
      have RX := Lib.hid HA6.out.range
      have RY := Lib.hid HB6.out.range
      clear HS
      go_wp2_with (first | (refine wpList_load_mid_g (by rfl) 33 (.tmp 2) rfl B0 0 rfl (r.cells (.slice py (byts r.ds).length cy) (.slice pz (strs r.ss).length cz)) _ ?_ Try.underlying33 rfl size33 ?_; (exact RX.out)) | (refine wpList_load_mid_g (by rfl) 33 (.tmp 5) rfl B1 0 rfl ((⟨bits .xor .i64 r.w 1, r.n, r.s0, r.s1, r.s2, r.s3, r.s4, r.s5, r.s6, r.ds, r.ss⟩ : Res).cells (.slice p1 (byts r.ds).length c1) (.slice p2 (strs r.ss).length c2')) _ ?_ Try.underlying33 rfl size33 ?_; (exact RY.out)) | (go_at_call 16; (first | with_reducible refine (HX1.out _ BX.out).mono ?_ | with_reducible refine (HX2.out _ BX.out).mono ?_); rintro e5 w8 ⟨rfl, b5⟩; have BX := Lib.hid (BX.out.trans (b5.mono BX.out.size)); have RX := Lib.hid ((HA6.out.below BX.out).range); have RY := Lib.hid ((HB6.out.below BX.out).range); clear b5) | (go_at_call 11; refine (known_any _).mono ?_; rintro e5 w8 ⟨rfl, b5⟩; have BX := Lib.hid (BX.out.trans (b5.mono BX.out.size)); clear b5))
      go_ret
      exact ⟨rfl, HW6.out.trans (BX.out.mono HW6.out.size)⟩
    · have k0 : wc.cell? ⟨B1, 1, none⟩ = some (.int .i64 r.n) := HB5.out.cell 1
      have k1 : wc.frozen? ⟨B1, 1, none⟩ = false := HB5.out.free 1
      go_upto_region 20 with fail
      have FS : Frm [B1] wc (wc.setCell ⟨B1, 1, none⟩ (.int .i64 (bits .xor .i64 r.n 1))) := (Frm.refl _ _).setCell (by simp) _
      have HB6 : Hid (Holds (wc.setCell ⟨B1, 1, none⟩ (.int .i64 (bits .xor .i64 r.n 1))) B1 ((⟨r.w, bits .xor .i64 r.n 1, r.s0, r.s1, r.s2, r.s3, r.s4, r.s5, r.s6, r.ds, r.ss⟩ : Res).cells (.slice p1 (byts r.ds).length c1) (.slice p2 (strs r.ss).length c2')).toArray) := Lib.hid (HB5.out.set 1 _ (by show 1 < 11; omega))
      have HA6 := Lib.hid (HA5.out.frm FS (by simp; omega))
      have DA6 := Lib.hid (DA5.out.frm FS (by intro k hk; simp at hk; rw [hk]; exact (OY.out B1 hle).1))
      have DB6 := Lib.hid (DB5.out.frm FS (by intro k hk; simp at hk; rw [hk]; exact (OY.out B1 hle).2))
      have DY6 := Lib.hid (DY5.out.frm FS (by intro k hk; simp at hk; rw [hk]; exact OY1.out))
      have DZ6 := Lib.hid (DZ5.out.frm FS (by intro k hk; simp at hk; rw [hk]; exact OZ1.out))
      have HW6 := Lib.hid (HW5.out.trans (FS.below HW5.out.size (by simp; exact hle)))
      generalize wc.setCell ⟨B1, 1, none⟩ (.int .i64 (bits .xor .i64 r.n 1)) = w6 at *
      clear k0 k1 FS HA5 HB5 DA5 DB5 DY5 DZ5 NY5 NZ5
      have HS : sameI r (⟨r.w, bits .xor .i64 r.n 1, r.s0, r.s1, r.s2, r.s3, r.s4, r.s5, r.s6, r.ds, r.ss⟩ : Res) = false := by simp [sameI, (xor1_ne r.n).symm]
      have HX1 : Hid (∀ X, Below w6.heap.size w6 X → Calls Try.prog 16 #[.agg (r.cells (.slice py (byts r.ds).length cy) (.slice pz (strs r.ss).length cz)).toArray, .agg ((⟨r.w, bits .xor .i64 r.n 1, r.s0, r.s1, r.s2, r.s3, r.s4, r.s5, r.s6, r.ds, r.ss⟩ : Res).cells (.slice p1 (byts r.ds).length c1) (.slice p2 (strs r.ss).length c2')).toArray] X fun e w' => e = .returned (.bool false) ∧ Below X.heap.size X w') := Lib.hid (fun X hX => by
        have := same0_any (a := r) (b := (⟨r.w, bits .xor .i64 r.n 1, r.s0, r.s1, r.s2, r.s3, r.s4, r.s5, r.s6, r.ds, r.ss⟩ : Res)) (DA6.out.below hX) (DB6.out.below hX) (DY6.out.below hX) (DZ6.out.below hX)
        rwa [HS] at this)
      have HX2 : Hid (∀ X, Below w6.heap.size w6 X → Calls Try.prog 16 #[.agg ((⟨r.w, bits .xor .i64 r.n 1, r.s0, r.s1, r.s2, r.s3, r.s4, r.s5, r.s6, r.ds, r.ss⟩ : Res).cells (.slice p1 (byts r.ds).length c1) (.slice p2 (strs r.ss).length c2')).toArray, .agg (r.cells (.slice py (byts r.ds).length cy) (.slice pz (strs r.ss).length cz)).toArray] X fun e w' => e = .returned (.bool false) ∧ Below X.heap.size X w') := Lib.hid (fun X hX => by
        have := same0_any (a := (⟨r.w, bits .xor .i64 r.n 1, r.s0, r.s1, r.s2, r.s3, r.s4, r.s5, r.s6, r.ds, r.ss⟩ : Res)) (b := r) (DY6.out.below hX) (DZ6.out.below hX) (DA6.out.below hX) (DB6.out.below hX)
        rwa [sameI_symm, HS] at this)
      have BX := Lib.hid (Below.refl w6.heap.size w6)
      have RX := Lib.hid HA6.out.range
      have RY := Lib.hid HB6.out.range
      clear HS
      go_wp2_with (first | (refine wpList_load_mid_g (by rfl) 33 (.tmp 2) rfl B0 0 rfl (r.cells (.slice py (byts r.ds).length cy) (.slice pz (strs r.ss).length cz)) _ ?_ Try.underlying33 rfl size33 ?_; (exact RX.out)) | (refine wpList_load_mid_g (by rfl) 33 (.tmp 5) rfl B1 0 rfl ((⟨r.w, bits .xor .i64 r.n 1, r.s0, r.s1, r.s2, r.s3, r.s4, r.s5, r.s6, r.ds, r.ss⟩ : Res).cells (.slice p1 (byts r.ds).length c1) (.slice p2 (strs r.ss).length c2')) _ ?_ Try.underlying33 rfl size33 ?_; (exact RY.out)) | (go_at_call 16; (first | with_reducible refine (HX1.out _ BX.out).mono ?_ | with_reducible refine (HX2.out _ BX.out).mono ?_); rintro e5 w8 ⟨rfl, b5⟩; have BX := Lib.hid (BX.out.trans (b5.mono BX.out.size)); have RX := Lib.hid ((HA6.out.below BX.out).range); have RY := Lib.hid ((HB6.out.below BX.out).range); clear b5) | (go_at_call 11; refine (known_any _).mono ?_; rintro e5 w8 ⟨rfl, b5⟩; have BX := Lib.hid (BX.out.trans (b5.mono BX.out.size)); clear b5))
      go_ret
      exact ⟨rfl, HW6.out.trans (BX.out.mono HW6.out.size)⟩
    · have k0 : wc.cell? ⟨B1, 2, none⟩ = some (.slice p1 (byts r.ds).length c1) := HB5.out.cell 2
      have q1 := hBW1.out
      have q2 := hwW.out
      have q3 := hWW2.out
      have q4 := hs5.out
      have hn : (byts r.ds).length * 1 ≤ 140737488351232 := by have := DY5.out.most.1; omega
      have hbase : W1.heap.size ≤ (wc.alloc (.cells #[.int .u8 0] 5)).heap.size := by rw [World.size_alloc]; have := HYB.out; omega
      clear q1 q2 q3 q4
      go_upto_region 20 with (first | (at_builtin; go_must (refine wpList_append_win _ rfl (.tmp 55) (.tmp 56) 26 rfl W1.heap.size 5 i5 _ 1 1 Try.underlying26 hi5 ha0 ha1 ha2 rfl (by decide) (.slice p1 (byts r.ds).length c1) (byts r.ds).length (byts r.ds) rfl (NY5.out.alloc _) ⟨wc.heap.size, 0, none⟩ 1 1 [.int .u8 0] rfl rfl (new_cells wc [.int .u8 0] 5) (by simp [Value.oneCell']) (by omega) (by unfold maxLen; omega) (by omega) hbase ?_; intro f' o' cap' w7 hown hgrow hat; have F7 : Frm (((.slice p1 (byts r.ds).length c1) : Value).ownBlock.toList) (wc.alloc (.cells #[.int .u8 0] 5)) w7 := (Frm.of_grown hgrow (fun k hk _ => (by rw [Option.mem_toList]; exact hk))); have HF7 := Lib.hid F7; have HUU : Hid (∀ k ∈ ((.slice p1 (byts r.ds).length c1) : Value).ownBlock.toList, B1 < k ∧ B0 < k ∧ w.heap.size ≤ k ∧ k < W2.heap.size) := Lib.hid (fun k hk => (by rw [Option.mem_toList] at hk; have h1 := HU1.out k hk; have h2 := hBW1.out; have h3 := hwW.out; have h4 := hWW2.out; have h5 := hle; have h6 := HB0.out; have h7 := HWC.out; omega)); have H7 := Lib.hid ((HB5.out.alloc (.cells #[.int .u8 0] 5)).frm F7 (fun h => absurd (HUU.out _ h).1 (by omega))); have k2 : w7.cell? ⟨B1, 2, none⟩ = some (.slice p1 (byts r.ds).length c1) := H7.out.cell 2; have k3 : w7.frozen? ⟨B1, 2, none⟩ = false := H7.out.free 2; have HOW := Lib.hid hown; have HAT := Lib.hid hat; clear hown hgrow hat F7)))
      have HF8 : Hid (Frm [B1] w7 (w7.setCell ⟨B1, 2, none⟩ (.slice (some ⟨f', o', none⟩) ((byts r.ds).length + 1) cap'))) := Lib.hid ((Frm.refl _ _).setCell (by simp) _)
      have HB6 : Hid (Holds (w7.setCell ⟨B1, 2, none⟩ (.slice (some ⟨f', o', none⟩) ((byts r.ds).length + 1) cap')) B1 ((⟨r.w, r.n, r.s0, r.s1, r.s2, r.s3, r.s4, r.s5, r.s6, r.ds ++ [0], r.ss⟩ : Res).cells (.slice (some ⟨f', o', none⟩) ((byts r.ds).length + 1) cap') (.slice p2 (strs r.ss).length c2')).toArray) := Lib.hid (H7.out.set 2 _ (by show 2 < 11; omega))
      have HA6 := Lib.hid (((HA5.out.alloc (.cells #[.int .u8 0] 5)).frm HF7.out (fun h => absurd (HUU.out _ h).2.1 (by omega))).frm HF8.out (by simp; omega))
      have al := (Below.refl wc.heap.size wc).alloc (Nat.le_refl _) (.cells #[.int .u8 0] 5)
      have DA6 := Lib.hid (((DA5.out.below al).frm HF7.out (fun k hk => (OY.out k (HUU.out k hk).2.2.1).1)).frm HF8.out (by intro k hk; simp at hk; rw [hk]; exact (OY.out B1 hle).1))
      have DB6 := Lib.hid (((DB5.out.below al).frm HF7.out (fun k hk => (OY.out k (HUU.out k hk).2.2.1).2)).frm HF8.out (by intro k hk; simp at hk; rw [hk]; exact (OY.out B1 hle).2))
      have hfB : f' ≠ B1 := by
        rcases HAT.out with h | h
        · have := (HUU.out f' (by rw [Option.mem_toList]; exact h)).1; omega
        · rw [World.size_alloc] at h; omega
      have HNN := Lib.hid (show Den 0 (w7.setCell ⟨B1, 2, none⟩ (.slice (some ⟨f', o', none⟩) ((byts r.ds).length + 1) cap')) (.slice (some ⟨f', o', none⟩) ((byts r.ds).length + 1) cap') (byts (r.ds ++ [0])) from by
        have := win_den HOW.out
        rw [show (byts r.ds) ++ [.int .u8 0] = byts (r.ds ++ [0]) from by simp [byts]] at this
        exact this.frm HF8.out (by intro k hk; simp at hk; subst hk; intro a n c e; cases e; exact hfB))
      have DY6 := HNN
      have DZ6 := Lib.hid (((DZ5.out.below al).frm HF7.out (fun k hk => FZ3.out.off (HUU.out k hk).2.2.2)).frm HF8.out (by intro k hk; simp at hk; rw [hk]; exact OZ1.out))
      have HW6 := Lib.hid (((HW5.out.trans (al.mono HW5.out.size)).trans (HF7.out.below (Nat.le_trans HW5.out.size al.size) (fun k hk => (HUU.out k hk).2.2.1))).trans (HF8.out.below (Nat.le_trans (Nat.le_trans HW5.out.size al.size) HF7.out.size) (by simp; exact hle)))
      generalize w7.setCell ⟨B1, 2, none⟩ (.slice (some ⟨f', o', none⟩) ((byts r.ds).length + 1) cap') = w6 at *
      clear k0 k2 k3 al HF7 HF8 H7 HNN HA5 HB5 DA5 DB5 DY5 DZ5 NY5 NZ5
      have HS : sameI r (⟨r.w, r.n, r.s0, r.s1, r.s2, r.s3, r.s4, r.s5, r.s6, r.ds ++ [0], r.ss⟩ : Res) = false := by
              have : (Lib.bytesOf r.ds == Lib.bytesOf (r.ds ++ [0])) = false := beq_eq_false_iff_ne.2 (fun h => by have := congrArg List.length h; simp [Lib.bytesOf] at this)
              simp [sameI, this]
      have HX1 : Hid (∀ X, Below w6.heap.size w6 X → Calls Try.prog 16 #[.agg (r.cells (.slice py (byts r.ds).length cy) (.slice pz (strs r.ss).length cz)).toArray, .agg ((⟨r.w, r.n, r.s0, r.s1, r.s2, r.s3, r.s4, r.s5, r.s6, r.ds ++ [0], r.ss⟩ : Res).cells (.slice (some ⟨f', o', none⟩) ((byts r.ds).length + 1) cap') (.slice p2 (strs r.ss).length c2')).toArray] X fun e w' => e = .returned (.bool false) ∧ Below X.heap.size X w') := Lib.hid (fun X hX => by
        have := same0_any (a := r) (b := (⟨r.w, r.n, r.s0, r.s1, r.s2, r.s3, r.s4, r.s5, r.s6, r.ds ++ [0], r.ss⟩ : Res)) (DA6.out.below hX) (DB6.out.below hX) (DY6.out.below hX) (DZ6.out.below hX)
        rwa [HS] at this)
      have HX2 : Hid (∀ X, Below w6.heap.size w6 X → Calls Try.prog 16 #[.agg ((⟨r.w, r.n, r.s0, r.s1, r.s2, r.s3, r.s4, r.s5, r.s6, r.ds ++ [0], r.ss⟩ : Res).cells (.slice (some ⟨f', o', none⟩) ((byts r.ds).length + 1) cap') (.slice p2 (strs r.ss).length c2')).toArray, .agg (r.cells (.slice py (byts r.ds).length cy) (.slice pz (strs r.ss).length cz)).toArray] X fun e w' => e = .returned (.bool false) ∧ Below X.heap.size X w') := Lib.hid (fun X hX => by
        have := same0_any (a := (⟨r.w, r.n, r.s0, r.s1, r.s2, r.s3, r.s4, r.s5, r.s6, r.ds ++ [0], r.ss⟩ : Res)) (b := r) (DY6.out.below hX) (DZ6.out.below hX) (DA6.out.below hX) (DB6.out.below hX)
        rwa [sameI_symm, HS] at this)
      have BX := Lib.hid (Below.refl w6.heap.size w6)
      have RX := Lib.hid HA6.out.range
      have RY := Lib.hid HB6.out.range
      clear HS
      go_wp2_with (first | (refine wpList_load_mid_g (by rfl) 33 (.tmp 2) rfl B0 0 rfl (r.cells (.slice py (byts r.ds).length cy) (.slice pz (strs r.ss).length cz)) _ ?_ Try.underlying33 rfl size33 ?_; (exact RX.out)) | (refine wpList_load_mid_g (by rfl) 33 (.tmp 5) rfl B1 0 rfl ((⟨r.w, r.n, r.s0, r.s1, r.s2, r.s3, r.s4, r.s5, r.s6, r.ds ++ [0], r.ss⟩ : Res).cells (.slice (some ⟨f', o', none⟩) ((byts r.ds).length + 1) cap') (.slice p2 (strs r.ss).length c2')) _ ?_ Try.underlying33 rfl size33 ?_; (exact RY.out)) | (go_at_call 16; (first | with_reducible refine (HX1.out _ BX.out).mono ?_ | with_reducible refine (HX2.out _ BX.out).mono ?_); rintro e5 w8 ⟨rfl, b5⟩; have BX := Lib.hid (BX.out.trans (b5.mono BX.out.size)); have RX := Lib.hid ((HA6.out.below BX.out).range); have RY := Lib.hid ((HB6.out.below BX.out).range); clear b5) | (go_at_call 11; refine (known_any _).mono ?_; rintro e5 w8 ⟨rfl, b5⟩; have BX := Lib.hid (BX.out.trans (b5.mono BX.out.size)); clear b5))
      go_ret
      exact ⟨rfl, HW6.out.trans (BX.out.mono HW6.out.size)⟩
    · have k0 : wc.cell? ⟨B1, 3, none⟩ = some (.slice p2 (strs r.ss).length c2') := HB5.out.cell 3
      have q1 := hBW1.out
      have q2 := hwW.out
      have q3 := hWW2.out
      have q4 := hs5.out
      have hn : (strs r.ss).length * 16 ≤ 140737488351232 := by have := DZ5.out.most.1; omega
      have hbase : W2.heap.size ≤ (wc.alloc (.cells #[.string ⟨#[]⟩] 9)).heap.size := by rw [World.size_alloc]; have := HZB.out; omega
      clear q1 q2 q3 q4
      go_upto_region 20 with (first | (at_builtin; go_must (refine wpList_append_win _ rfl (.tmp 62) (.tmp 63) 29 rfl W2.heap.size 9 i9 _ 1 16 Try.underlying29 hi9 hb0 hb1 hb2 rfl (by decide) (.slice p2 (strs r.ss).length c2') (strs r.ss).length (strs r.ss) rfl (NZ5.out.alloc _) ⟨wc.heap.size, 0, none⟩ 1 1 [.string ⟨#[]⟩] rfl rfl (new_cells wc [.string ⟨#[]⟩] 9) (by simp [Value.oneCell']) (by omega) (by unfold maxLen; omega) (by omega) hbase ?_; intro f' o' cap' w7 hown hgrow hat; have F7 : Frm (((.slice p2 (strs r.ss).length c2') : Value).ownBlock.toList) (wc.alloc (.cells #[.string ⟨#[]⟩] 9)) w7 := (Frm.of_grown hgrow (fun k hk _ => (by rw [Option.mem_toList]; exact hk))); have HF7 := Lib.hid F7; have HUU : Hid (∀ k ∈ ((.slice p2 (strs r.ss).length c2') : Value).ownBlock.toList, B1 < k ∧ B0 < k ∧ w.heap.size ≤ k ∧ W2.heap.size ≤ k) := Lib.hid (fun k hk => (by rw [Option.mem_toList] at hk; have h1 := HU2.out k hk; have h2 := hBW1.out; have h3 := hwW.out; have h4 := hWW2.out; have h5 := hle; have h6 := HB0.out; have h7 := HWC.out; omega)); have H7 := Lib.hid ((HB5.out.alloc (.cells #[.string ⟨#[]⟩] 9)).frm F7 (fun h => absurd (HUU.out _ h).1 (by omega))); have k2 : w7.cell? ⟨B1, 3, none⟩ = some (.slice p2 (strs r.ss).length c2') := H7.out.cell 3; have k3 : w7.frozen? ⟨B1, 3, none⟩ = false := H7.out.free 3; have HOW := Lib.hid hown; have HAT := Lib.hid hat; clear hown hgrow hat F7)))
      have HF8 : Hid (Frm [B1] w7 (w7.setCell ⟨B1, 3, none⟩ (.slice (some ⟨f', o', none⟩) ((strs r.ss).length + 1) cap'))) := Lib.hid ((Frm.refl _ _).setCell (by simp) _)
      have HB6 : Hid (Holds (w7.setCell ⟨B1, 3, none⟩ (.slice (some ⟨f', o', none⟩) ((strs r.ss).length + 1) cap')) B1 ((⟨r.w, r.n, r.s0, r.s1, r.s2, r.s3, r.s4, r.s5, r.s6, r.ds, r.ss ++ [⟨#[]⟩]⟩ : Res).cells (.slice p1 (byts r.ds).length c1) (.slice (some ⟨f', o', none⟩) ((strs r.ss).length + 1) cap')).toArray) := Lib.hid (H7.out.set 3 _ (by show 3 < 11; omega))
      have HA6 := Lib.hid (((HA5.out.alloc (.cells #[.string ⟨#[]⟩] 9)).frm HF7.out (fun h => absurd (HUU.out _ h).2.1 (by omega))).frm HF8.out (by simp; omega))
      have al := (Below.refl wc.heap.size wc).alloc (Nat.le_refl _) (.cells #[.string ⟨#[]⟩] 9)
      have DA6 := Lib.hid (((DA5.out.below al).frm HF7.out (fun k hk => (OY.out k (HUU.out k hk).2.2.1).1)).frm HF8.out (by intro k hk; simp at hk; rw [hk]; exact (OY.out B1 hle).1))
      have DB6 := Lib.hid (((DB5.out.below al).frm HF7.out (fun k hk => (OY.out k (HUU.out k hk).2.2.1).2)).frm HF8.out (by intro k hk; simp at hk; rw [hk]; exact (OY.out B1 hle).2))
      have hfB : f' ≠ B1 := by
        rcases HAT.out with h | h
        · have := (HUU.out f' (by rw [Option.mem_toList]; exact h)).1; omega
        · rw [World.size_alloc] at h; omega
      have HNN := Lib.hid (show Den 0 (w7.setCell ⟨B1, 3, none⟩ (.slice (some ⟨f', o', none⟩) ((strs r.ss).length + 1) cap')) (.slice (some ⟨f', o', none⟩) ((strs r.ss).length + 1) cap') (strs (r.ss ++ [⟨#[]⟩])) from by
        have := win_den HOW.out
        rw [show (strs r.ss) ++ [.string ⟨#[]⟩] = strs (r.ss ++ [⟨#[]⟩]) from by simp [strs]] at this
        exact this.frm HF8.out (by intro k hk; simp at hk; subst hk; intro a n c e; cases e; exact hfB))
      have DZ6 := HNN
      have DY6 := Lib.hid (((DY5.out.below al).frm HF7.out (fun k hk => OYW.out k (HUU.out k hk).2.2.2)).frm HF8.out (by intro k hk; simp at hk; rw [hk]; exact OY1.out))
      have HW6 := Lib.hid (((HW5.out.trans (al.mono HW5.out.size)).trans (HF7.out.below (Nat.le_trans HW5.out.size al.size) (fun k hk => (HUU.out k hk).2.2.1))).trans (HF8.out.below (Nat.le_trans (Nat.le_trans HW5.out.size al.size) HF7.out.size) (by simp; exact hle)))
      generalize w7.setCell ⟨B1, 3, none⟩ (.slice (some ⟨f', o', none⟩) ((strs r.ss).length + 1) cap') = w6 at *
      clear k0 k2 k3 al HF7 HF8 H7 HNN HA5 HB5 DA5 DB5 DY5 DZ5 NY5 NZ5
      have HS : sameI r (⟨r.w, r.n, r.s0, r.s1, r.s2, r.s3, r.s4, r.s5, r.s6, r.ds, r.ss ++ [⟨#[]⟩]⟩ : Res) = false := by simp [sameI]
      have HX1 : Hid (∀ X, Below w6.heap.size w6 X → Calls Try.prog 16 #[.agg (r.cells (.slice py (byts r.ds).length cy) (.slice pz (strs r.ss).length cz)).toArray, .agg ((⟨r.w, r.n, r.s0, r.s1, r.s2, r.s3, r.s4, r.s5, r.s6, r.ds, r.ss ++ [⟨#[]⟩]⟩ : Res).cells (.slice p1 (byts r.ds).length c1) (.slice (some ⟨f', o', none⟩) ((strs r.ss).length + 1) cap')).toArray] X fun e w' => e = .returned (.bool false) ∧ Below X.heap.size X w') := Lib.hid (fun X hX => by
        have := same0_any (a := r) (b := (⟨r.w, r.n, r.s0, r.s1, r.s2, r.s3, r.s4, r.s5, r.s6, r.ds, r.ss ++ [⟨#[]⟩]⟩ : Res)) (DA6.out.below hX) (DB6.out.below hX) (DY6.out.below hX) (DZ6.out.below hX)
        rwa [HS] at this)
      have HX2 : Hid (∀ X, Below w6.heap.size w6 X → Calls Try.prog 16 #[.agg ((⟨r.w, r.n, r.s0, r.s1, r.s2, r.s3, r.s4, r.s5, r.s6, r.ds, r.ss ++ [⟨#[]⟩]⟩ : Res).cells (.slice p1 (byts r.ds).length c1) (.slice (some ⟨f', o', none⟩) ((strs r.ss).length + 1) cap')).toArray, .agg (r.cells (.slice py (byts r.ds).length cy) (.slice pz (strs r.ss).length cz)).toArray] X fun e w' => e = .returned (.bool false) ∧ Below X.heap.size X w') := Lib.hid (fun X hX => by
        have := same0_any (a := (⟨r.w, r.n, r.s0, r.s1, r.s2, r.s3, r.s4, r.s5, r.s6, r.ds, r.ss ++ [⟨#[]⟩]⟩ : Res)) (b := r) (DY6.out.below hX) (DZ6.out.below hX) (DA6.out.below hX) (DB6.out.below hX)
        rwa [sameI_symm, HS] at this)
      have BX := Lib.hid (Below.refl w6.heap.size w6)
      have RX := Lib.hid HA6.out.range
      have RY := Lib.hid HB6.out.range
      clear HS
      go_wp2_with (first | (refine wpList_load_mid_g (by rfl) 33 (.tmp 2) rfl B0 0 rfl (r.cells (.slice py (byts r.ds).length cy) (.slice pz (strs r.ss).length cz)) _ ?_ Try.underlying33 rfl size33 ?_; (exact RX.out)) | (refine wpList_load_mid_g (by rfl) 33 (.tmp 5) rfl B1 0 rfl ((⟨r.w, r.n, r.s0, r.s1, r.s2, r.s3, r.s4, r.s5, r.s6, r.ds, r.ss ++ [⟨#[]⟩]⟩ : Res).cells (.slice p1 (byts r.ds).length c1) (.slice (some ⟨f', o', none⟩) ((strs r.ss).length + 1) cap')) _ ?_ Try.underlying33 rfl size33 ?_; (exact RY.out)) | (go_at_call 16; (first | with_reducible refine (HX1.out _ BX.out).mono ?_ | with_reducible refine (HX2.out _ BX.out).mono ?_); rintro e5 w8 ⟨rfl, b5⟩; have BX := Lib.hid (BX.out.trans (b5.mono BX.out.size)); have RX := Lib.hid ((HA6.out.below BX.out).range); have RY := Lib.hid ((HB6.out.below BX.out).range); clear b5) | (go_at_call 11; refine (known_any _).mono ?_; rintro e5 w8 ⟨rfl, b5⟩; have BX := Lib.hid (BX.out.trans (b5.mono BX.out.size)); clear b5))
      go_ret
      exact ⟨rfl, HW6.out.trans (BX.out.mono HW6.out.size)⟩
    · have k0 : wc.cell? ⟨B1, 10, none⟩ = some (.int .i64 r.s6) := HB5.out.cell 10
      have k1 : wc.frozen? ⟨B1, 10, none⟩ = false := HB5.out.free 10
      go_upto_region 20 with fail
      have FS : Frm [B1] wc (wc.setCell ⟨B1, 10, none⟩ (.int .i64 (bits .xor .i64 r.s6 1))) := (Frm.refl _ _).setCell (by simp) _
      have HB6 : Hid (Holds (wc.setCell ⟨B1, 10, none⟩ (.int .i64 (bits .xor .i64 r.s6 1))) B1 ((⟨r.w, r.n, r.s0, r.s1, r.s2, r.s3, r.s4, r.s5, bits .xor .i64 r.s6 1, r.ds, r.ss⟩ : Res).cells (.slice p1 (byts r.ds).length c1) (.slice p2 (strs r.ss).length c2')).toArray) := Lib.hid (HB5.out.set 10 _ (by show 10 < 11; omega))
      have HA6 := Lib.hid (HA5.out.frm FS (by simp; omega))
      have DA6 := Lib.hid (DA5.out.frm FS (by intro k hk; simp at hk; rw [hk]; exact (OY.out B1 hle).1))
      have DB6 := Lib.hid (DB5.out.frm FS (by intro k hk; simp at hk; rw [hk]; exact (OY.out B1 hle).2))
      have DY6 := Lib.hid (DY5.out.frm FS (by intro k hk; simp at hk; rw [hk]; exact OY1.out))
      have DZ6 := Lib.hid (DZ5.out.frm FS (by intro k hk; simp at hk; rw [hk]; exact OZ1.out))
      have HW6 := Lib.hid (HW5.out.trans (FS.below HW5.out.size (by simp; exact hle)))
      generalize wc.setCell ⟨B1, 10, none⟩ (.int .i64 (bits .xor .i64 r.s6 1)) = w6 at *
      clear k0 k1 FS HA5 HB5 DA5 DB5 DY5 DZ5 NY5 NZ5
      have HS : sameI r (⟨r.w, r.n, r.s0, r.s1, r.s2, r.s3, r.s4, r.s5, bits .xor .i64 r.s6 1, r.ds, r.ss⟩ : Res) = false := by simp [sameI, statI, (xor1_ne r.s6).symm]
      have HX1 : Hid (∀ X, Below w6.heap.size w6 X → Calls Try.prog 16 #[.agg (r.cells (.slice py (byts r.ds).length cy) (.slice pz (strs r.ss).length cz)).toArray, .agg ((⟨r.w, r.n, r.s0, r.s1, r.s2, r.s3, r.s4, r.s5, bits .xor .i64 r.s6 1, r.ds, r.ss⟩ : Res).cells (.slice p1 (byts r.ds).length c1) (.slice p2 (strs r.ss).length c2')).toArray] X fun e w' => e = .returned (.bool false) ∧ Below X.heap.size X w') := Lib.hid (fun X hX => by
        have := same0_any (a := r) (b := (⟨r.w, r.n, r.s0, r.s1, r.s2, r.s3, r.s4, r.s5, bits .xor .i64 r.s6 1, r.ds, r.ss⟩ : Res)) (DA6.out.below hX) (DB6.out.below hX) (DY6.out.below hX) (DZ6.out.below hX)
        rwa [HS] at this)
      have HX2 : Hid (∀ X, Below w6.heap.size w6 X → Calls Try.prog 16 #[.agg ((⟨r.w, r.n, r.s0, r.s1, r.s2, r.s3, r.s4, r.s5, bits .xor .i64 r.s6 1, r.ds, r.ss⟩ : Res).cells (.slice p1 (byts r.ds).length c1) (.slice p2 (strs r.ss).length c2')).toArray, .agg (r.cells (.slice py (byts r.ds).length cy) (.slice pz (strs r.ss).length cz)).toArray] X fun e w' => e = .returned (.bool false) ∧ Below X.heap.size X w') := Lib.hid (fun X hX => by
        have := same0_any (a := (⟨r.w, r.n, r.s0, r.s1, r.s2, r.s3, r.s4, r.s5, bits .xor .i64 r.s6 1, r.ds, r.ss⟩ : Res)) (b := r) (DY6.out.below hX) (DZ6.out.below hX) (DA6.out.below hX) (DB6.out.below hX)
        rwa [sameI_symm, HS] at this)
      have BX := Lib.hid (Below.refl w6.heap.size w6)
      have RX := Lib.hid HA6.out.range
      have RY := Lib.hid HB6.out.range
      clear HS
      go_wp2_with (first | (refine wpList_load_mid_g (by rfl) 33 (.tmp 2) rfl B0 0 rfl (r.cells (.slice py (byts r.ds).length cy) (.slice pz (strs r.ss).length cz)) _ ?_ Try.underlying33 rfl size33 ?_; (exact RX.out)) | (refine wpList_load_mid_g (by rfl) 33 (.tmp 5) rfl B1 0 rfl ((⟨r.w, r.n, r.s0, r.s1, r.s2, r.s3, r.s4, r.s5, bits .xor .i64 r.s6 1, r.ds, r.ss⟩ : Res).cells (.slice p1 (byts r.ds).length c1) (.slice p2 (strs r.ss).length c2')) _ ?_ Try.underlying33 rfl size33 ?_; (exact RY.out)) | (go_at_call 16; (first | with_reducible refine (HX1.out _ BX.out).mono ?_ | with_reducible refine (HX2.out _ BX.out).mono ?_); rintro e5 w8 ⟨rfl, b5⟩; have BX := Lib.hid (BX.out.trans (b5.mono BX.out.size)); have RX := Lib.hid ((HA6.out.below BX.out).range); have RY := Lib.hid ((HB6.out.below BX.out).range); clear b5) | (go_at_call 11; refine (known_any _).mono ?_; rintro e5 w8 ⟨rfl, b5⟩; have BX := Lib.hid (BX.out.trans (b5.mono BX.out.size)); clear b5))
      go_ret
      exact ⟨rfl, HW6.out.trans (BX.out.mono HW6.out.size)⟩
    · have k0 : wc.cell? ⟨B1, 6, none⟩ = some (.int .i64 r.s2) := HB5.out.cell 6
      have k1 : wc.frozen? ⟨B1, 6, none⟩ = false := HB5.out.free 6
      go_upto_region 20 with fail
      have FS : Frm [B1] wc (wc.setCell ⟨B1, 6, none⟩ (.int .i64 (bits .xor .i64 r.s2 1))) := (Frm.refl _ _).setCell (by simp) _
      have HB6 : Hid (Holds (wc.setCell ⟨B1, 6, none⟩ (.int .i64 (bits .xor .i64 r.s2 1))) B1 ((⟨r.w, r.n, r.s0, r.s1, bits .xor .i64 r.s2 1, r.s3, r.s4, r.s5, r.s6, r.ds, r.ss⟩ : Res).cells (.slice p1 (byts r.ds).length c1) (.slice p2 (strs r.ss).length c2')).toArray) := Lib.hid (HB5.out.set 6 _ (by show 6 < 11; omega))
      have HA6 := Lib.hid (HA5.out.frm FS (by simp; omega))
      have DA6 := Lib.hid (DA5.out.frm FS (by intro k hk; simp at hk; rw [hk]; exact (OY.out B1 hle).1))
      have DB6 := Lib.hid (DB5.out.frm FS (by intro k hk; simp at hk; rw [hk]; exact (OY.out B1 hle).2))
      have DY6 := Lib.hid (DY5.out.frm FS (by intro k hk; simp at hk; rw [hk]; exact OY1.out))
      have DZ6 := Lib.hid (DZ5.out.frm FS (by intro k hk; simp at hk; rw [hk]; exact OZ1.out))
      have HW6 := Lib.hid (HW5.out.trans (FS.below HW5.out.size (by simp; exact hle)))
      generalize wc.setCell ⟨B1, 6, none⟩ (.int .i64 (bits .xor .i64 r.s2 1)) = w6 at *
      clear k0 k1 FS HA5 HB5 DA5 DB5 DY5 DZ5 NY5 NZ5
      have HS : sameI r (⟨r.w, r.n, r.s0, r.s1, bits .xor .i64 r.s2 1, r.s3, r.s4, r.s5, r.s6, r.ds, r.ss⟩ : Res) = false := by simp [sameI, statI, (xor1_ne r.s2).symm]
      have HX1 : Hid (∀ X, Below w6.heap.size w6 X → Calls Try.prog 16 #[.agg (r.cells (.slice py (byts r.ds).length cy) (.slice pz (strs r.ss).length cz)).toArray, .agg ((⟨r.w, r.n, r.s0, r.s1, bits .xor .i64 r.s2 1, r.s3, r.s4, r.s5, r.s6, r.ds, r.ss⟩ : Res).cells (.slice p1 (byts r.ds).length c1) (.slice p2 (strs r.ss).length c2')).toArray] X fun e w' => e = .returned (.bool false) ∧ Below X.heap.size X w') := Lib.hid (fun X hX => by
        have := same0_any (a := r) (b := (⟨r.w, r.n, r.s0, r.s1, bits .xor .i64 r.s2 1, r.s3, r.s4, r.s5, r.s6, r.ds, r.ss⟩ : Res)) (DA6.out.below hX) (DB6.out.below hX) (DY6.out.below hX) (DZ6.out.below hX)
        rwa [HS] at this)
      have HX2 : Hid (∀ X, Below w6.heap.size w6 X → Calls Try.prog 16 #[.agg ((⟨r.w, r.n, r.s0, r.s1, bits .xor .i64 r.s2 1, r.s3, r.s4, r.s5, r.s6, r.ds, r.ss⟩ : Res).cells (.slice p1 (byts r.ds).length c1) (.slice p2 (strs r.ss).length c2')).toArray, .agg (r.cells (.slice py (byts r.ds).length cy) (.slice pz (strs r.ss).length cz)).toArray] X fun e w' => e = .returned (.bool false) ∧ Below X.heap.size X w') := Lib.hid (fun X hX => by
        have := same0_any (a := (⟨r.w, r.n, r.s0, r.s1, bits .xor .i64 r.s2 1, r.s3, r.s4, r.s5, r.s6, r.ds, r.ss⟩ : Res)) (b := r) (DY6.out.below hX) (DZ6.out.below hX) (DA6.out.below hX) (DB6.out.below hX)
        rwa [sameI_symm, HS] at this)
      have BX := Lib.hid (Below.refl w6.heap.size w6)
      have RX := Lib.hid HA6.out.range
      have RY := Lib.hid HB6.out.range
      clear HS
      go_wp2_with (first | (refine wpList_load_mid_g (by rfl) 33 (.tmp 2) rfl B0 0 rfl (r.cells (.slice py (byts r.ds).length cy) (.slice pz (strs r.ss).length cz)) _ ?_ Try.underlying33 rfl size33 ?_; (exact RX.out)) | (refine wpList_load_mid_g (by rfl) 33 (.tmp 5) rfl B1 0 rfl ((⟨r.w, r.n, r.s0, r.s1, bits .xor .i64 r.s2 1, r.s3, r.s4, r.s5, r.s6, r.ds, r.ss⟩ : Res).cells (.slice p1 (byts r.ds).length c1) (.slice p2 (strs r.ss).length c2')) _ ?_ Try.underlying33 rfl size33 ?_; (exact RY.out)) | (go_at_call 16; (first | with_reducible refine (HX1.out _ BX.out).mono ?_ | with_reducible refine (HX2.out _ BX.out).mono ?_); rintro e5 w8 ⟨rfl, b5⟩; have BX := Lib.hid (BX.out.trans (b5.mono BX.out.size)); have RX := Lib.hid ((HA6.out.below BX.out).range); have RY := Lib.hid ((HB6.out.below BX.out).range); clear b5) | (go_at_call 11; refine (known_any _).mono ?_; rintro e5 w8 ⟨rfl, b5⟩; have BX := Lib.hid (BX.out.trans (b5.mono BX.out.size)); clear b5))
      go_ret
      exact ⟨rfl, HW6.out.trans (BX.out.mono HW6.out.size)⟩
end Go.Proofs.Ytidonelhapmceaa
