/- The walk of hist.Serial. -/
import Derived.Test.YtidonelhapmceaaBefore
import Derived.Test.YtidonelhapmceaaOps
namespace Go.Proofs.Ytidonelhapmceaa
open Go.RowKit

theorem wpList_load_mid_g {P : Program} {ops : Array Oper} {rest : List Oper} {op : Oper} {a : Act} {w : World} {Q : Exit → Act → World → Prop} (hw : Region.wanted op (yielded ops a.tmps) = true) (ty : TypeId) (x : Operand) (ho : op.op = .load ty x)
    (b o : Nat) (hx : a.eval x = .pointer (some ⟨b, o, none⟩)) (cs : List Value) (d : TypeDesc) (hc : w.rangeAt b o cs)
    (hu : P.underlying ty = some d) (hd : d.isRow = true) (hi : (P.info? ty).map (·.size) = some cs.length)
    (h : wpList P ops Q rest (a.put op.dst (.agg cs.toArray)) w) : wpList P ops Q (op :: rest) a w :=
  BigFrame.wpList_want hw fun _ hK => wp_load_mid ty x ho b o hx cs d hc hu hd hi (hK _ _ h)
set_option maxRecDepth 100000 in
set_option maxHeartbeats 16000000 in
theorem serial_any {w : World} {base bo : Nat} {v : Value} {l : List OpI} (h : Outs w base bo 40 v l) (hl : l.length ≤ 1000) : Calls Try.prog 9 #[v] w fun e w' => e = .returned (.bool (serI l)) ∧ Below w.heap.size w w' := by
  obtain ⟨a, cap, rfl⟩ := h.value
  have HO := Lib.hid h
  clear h
  go_enter Try.func9, Try.ntmps9
  go_wp2_with fail
  go_loopw [9] (fun iv wr => ∃ i : Nat, i ≤ l.length ∧ iv = .int .i64 i ∧ Hid ((∀ i' k', k' < i' → i' < i → pairAt l i' k' = true) ∧ Below w.heap.size w wr)) (fun iv _ => l.length - (intOf iv).toNat)
  case atStart => exact ⟨0, by omega, rfl, fun _ _ _ h => absurd h (by omega), Below.refl _ _⟩
  case round =>
    obtain ⟨i, hil, rfl, HI⟩ := hrel
    by_cases hi : i < l.length
    · have h0 : (0 : Int) ≤ (i : Int) := by omega
      have h1 : (i : Int) < (l.length : Int) := by omega
      obtain ⟨f, o, cp, e⟩ : ∃ f o cp, Value.slice a l.length cap = .slice (some ⟨f, o, none⟩) l.length cp := by
        obtain ⟨_, _, hw, _⟩ := HO.out
        exact hw.form (by omega)
      cases e
      have hcap : l.length ≤ cap := by
        obtain ⟨_, _, hw, _⟩ := HO.out
        exact hw.bound.1
      have HR := Lib.hid (HO.out.below HI.out.2)
      obtain ⟨A, hA⟩ : ∃ A, l[i]? = some A := ⟨_, List.getElem?_eq_getElem hi⟩
      obtain ⟨x, y, z, t, _, R⟩ := HR.out.row hA
      have HR1 := Lib.hid R
      have EO := Lib.hid (all_oneCell_toArray (OpI.one t))
      have ZA : Hid (∀ C : Array Value, C.size = 23 → (wr.alloc (.cells C 40)).there wr.heap.size 0 (A.cells x y z).toArray.size) := Lib.hid (fun C hC => by
        have := (Holds.new wr C 40).there
        rw [hC] at this
        exact this)
      go_upto_region 4 with (first | (refine wpList_load_mid rfl 40 (.tmp 12) rfl f (o + i * 23) rfl (A.cells x y z) _ ?_ Try.underlying40 rfl size40 ?_; (exact HR1.out)) | (refine wpList_store_mid rfl 40 (.tmp 4) (.tmp 13) rfl wr.heap.size 0 (A.cells x y z).toArray rfl rfl ?_ size40 EO.out ?_; (exact (ZA.out _ rfl))))
      obtain ⟨H2, b2⟩ := new_set (w := wr) (C := #[.int .i64 0, .int .i64 0, .string ⟨#[]⟩, .string ⟨#[]⟩, .int .i64 0, .int .i64 0, .int .i64 0, .int .i64 0, .int .i64 0, .slice none 0 0, .int .i64 0, .int .i64 0, .slice none 0 0, .slice none 0 0, .int .i64 0, .int .i64 0, .int .i64 0, .int .i64 0, .int .i64 0, .int .i64 0, .int .i64 0, .int .i64 0, .int .i64 0]) (ty := 40) (vs := A.cells x y z) rfl
      have HA := Lib.hid H2
      have HB := Lib.hid b2
      have HI2 := Lib.hid (HI.out.2.trans (b2.mono HI.out.2.size))
      have HO2 := Lib.hid (HR.out.below b2)
      have HLA := Lib.hid hA
      generalize (wr.alloc (.cells (#[.int .i64 0, .int .i64 0, .string ⟨#[]⟩, .string ⟨#[]⟩, .int .i64 0, .int .i64 0, .int .i64 0, .int .i64 0, .int .i64 0, .slice none 0 0, .int .i64 0, .int .i64 0, .slice none 0 0, .slice none 0 0, .int .i64 0, .int .i64 0, .int .i64 0, .int .i64 0, .int .i64 0, .int .i64 0, .int .i64 0, .int .i64 0, .int .i64 0] : Array Value) 40)).setCells wr.heap.size 0 (A.cells x y z) = W at *
      obtain ⟨B1, hB1⟩ : ∃ B1, B1 = wr.heap.size := ⟨_, rfl⟩
      rw [← hB1] at HA ⊢
      clear hB1
      clear H2 b2 R t ZA HR1 hA EO
      have hic : (i : Int) ≤ (cap : Int) := by omega
      have hil' : (i : Int) ≤ (l.length : Int) := by omega
      go_wp2_with fail
      go_loopw [18] (fun kv wc => ∃ k : Nat, k ≤ i ∧ kv = .int .i64 k ∧ Hid ((∀ k', k' < k → pairAt l i k' = true) ∧ Below W.heap.size W wc)) (fun kv _ => i - (intOf kv).toNat)
      case atStart => exact ⟨0, by omega, rfl, fun _ h => absurd h (by omega), Below.refl _ _⟩
      case round =>
        obtain ⟨k, hki, rfl, HK⟩ := hrel
        by_cases hk : k < i
        · have k0 : (0 : Int) ≤ (k : Int) := by omega
          have k1 : (k : Int) < (i : Int) := by omega
          obtain ⟨C, hC⟩ : ∃ C, l[k]? = some C := ⟨_, List.getElem?_eq_getElem (by omega)⟩
          have HO3 := Lib.hid (HO2.out.below HK.out.2)
          obtain ⟨x', y', z', t', _, R'⟩ := HO3.out.row hC
          have HR1 := Lib.hid R'
          have EO := Lib.hid (all_oneCell_toArray (OpI.one t'))
          have ZA : Hid (∀ D : Array Value, D.size = 23 → (wr.alloc (.cells D 40)).there wr.heap.size 0 (C.cells x' y' z').toArray.size) := Lib.hid (fun D hD => by
            have := (Holds.new wr D 40).there
            rw [hD] at this
            exact this)
          go_upto_region 7 with (first | (refine wpList_load_mid rfl 40 (.tmp 20) rfl f (o + k * 23) rfl (C.cells x' y' z') _ ?_ Try.underlying40 rfl size40 ?_; (exact HR1.out)) | (refine wpList_store_mid rfl 40 (.tmp 6) (.tmp 21) rfl wr.heap.size 0 (C.cells x' y' z').toArray rfl rfl ?_ size40 EO.out ?_; (exact (ZA.out _ rfl))))
          obtain ⟨H3, b3⟩ := new_set (w := wr) (C := #[.int .i64 0, .int .i64 0, .string ⟨#[]⟩, .string ⟨#[]⟩, .int .i64 0, .int .i64 0, .int .i64 0, .int .i64 0, .int .i64 0, .slice none 0 0, .int .i64 0, .int .i64 0, .slice none 0 0, .slice none 0 0, .int .i64 0, .int .i64 0, .int .i64 0, .int .i64 0, .int .i64 0, .int .i64 0, .int .i64 0, .int .i64 0, .int .i64 0]) (ty := 40) (vs := C.cells x' y' z') rfl
          have HB3 := Lib.hid (HK.out.2.trans (b3.mono HK.out.2.size))
          have HI3 := Lib.hid (HI2.out.trans (HB3.out.mono HI2.out.size))
          have HA3 := Lib.hid (HA.out.below HB3.out)
          have HC3 := Lib.hid H3
          have HLC := Lib.hid hC
          generalize (wr.alloc (.cells (#[.int .i64 0, .int .i64 0, .string ⟨#[]⟩, .string ⟨#[]⟩, .int .i64 0, .int .i64 0, .int .i64 0, .int .i64 0, .int .i64 0, .slice none 0 0, .int .i64 0, .int .i64 0, .slice none 0 0, .slice none 0 0, .int .i64 0, .int .i64 0, .int .i64 0, .int .i64 0, .int .i64 0, .int .i64 0, .int .i64 0, .int .i64 0, .int .i64 0] : Array Value) 40)).setCells wr.heap.size 0 (C.cells x' y' z') = W3 at *
          obtain ⟨Bc, hBc⟩ : ∃ Bc, Bc = wr.heap.size := ⟨_, rfl⟩
          rw [← hBc] at HC3 ⊢
          clear H3 b3 R' t' ZA HR1 hC EO hBc HO3
          have RA := Lib.hid HA3.out.range
          have RC := Lib.hid HC3.out.range
          have HP : pairAt l i k = pairI A C := pairAt_eq HLA.out HLC.out
          have HPP := Lib.hid HP
          clear HP
          by_cases c1 : befI A C = true
          · have HC1 := Lib.hid c1
            go_wp2_with (first | (refine wpList_load_mid_g (by rfl) 40 (.tmp 4) rfl B1 0 rfl (A.cells x y z) _ ?_ Try.underlying40 rfl size40 ?_; (exact RA.out)) | (refine wpList_load_mid_g (by rfl) 40 (.tmp 6) rfl Bc 0 rfl (C.cells x' y' z') _ ?_ Try.underlying40 rfl size40 ?_; (exact RC.out)) | (go_at_call 10; (first | with_reducible refine (before_any A C x y z x' y' z' _).mono ?_ | with_reducible refine (before_any C A x' y' z' x y z _).mono ?_); rintro e5 W4 ⟨rfl, b4⟩; (first | rw [HC1.out] | rw [HC2.out]); have HB3 := Lib.hid (HB3.out.trans (b4.mono HB3.out.size)); have HI3 := Lib.hid (HI3.out.trans (b4.mono HI3.out.size)); have HA3 := Lib.hid (HA3.out.below b4); have HC3 := Lib.hid (HC3.out.below b4); have RA := Lib.hid HA3.out.range; have RC := Lib.hid HC3.out.range; clear b4))
            go_roundw
            case rel => exact ⟨k + 1, by omega, by go_num, fun k' hk' => by
              by_cases e : k' = k
              · subst e; rw [HPP.out]; simp [pairI, HC1.out]
              · exact HK.out.1 k' (by omega), HB3.out⟩
            case measure => simp [intOf]; omega
          · have c1 : befI A C = false := by simpa using c1
            have HC1 := Lib.hid c1
            by_cases c2 : befI C A = true
            · have HC2 := Lib.hid c2
              go_wp2_with (first | (refine wpList_load_mid_g (by rfl) 40 (.tmp 4) rfl B1 0 rfl (A.cells x y z) _ ?_ Try.underlying40 rfl size40 ?_; (exact RA.out)) | (refine wpList_load_mid_g (by rfl) 40 (.tmp 6) rfl Bc 0 rfl (C.cells x' y' z') _ ?_ Try.underlying40 rfl size40 ?_; (exact RC.out)) | (go_at_call 10; (first | with_reducible refine (before_any A C x y z x' y' z' _).mono ?_ | with_reducible refine (before_any C A x' y' z' x y z _).mono ?_); rintro e5 W4 ⟨rfl, b4⟩; (first | rw [HC1.out] | rw [HC2.out]); have HB3 := Lib.hid (HB3.out.trans (b4.mono HB3.out.size)); have HI3 := Lib.hid (HI3.out.trans (b4.mono HI3.out.size)); have HA3 := Lib.hid (HA3.out.below b4); have HC3 := Lib.hid (HC3.out.below b4); have RA := Lib.hid HA3.out.range; have RC := Lib.hid HC3.out.range; clear b4))
              go_roundw
              case rel => exact ⟨k + 1, by omega, by go_num, fun k' hk' => by
                by_cases e : k' = k
                · subst e; rw [HPP.out]; simp [pairI, HC2.out]
                · exact HK.out.1 k' (by omega), HB3.out⟩
              case measure => simp [intOf]; omega
            · have c2 : befI C A = false := by simpa using c2
              have HC2 := Lib.hid c2
              go_wp2_with (first | (refine wpList_load_mid_g (by rfl) 40 (.tmp 4) rfl B1 0 rfl (A.cells x y z) _ ?_ Try.underlying40 rfl size40 ?_; (exact RA.out)) | (refine wpList_load_mid_g (by rfl) 40 (.tmp 6) rfl Bc 0 rfl (C.cells x' y' z') _ ?_ Try.underlying40 rfl size40 ?_; (exact RC.out)) | (go_at_call 10; (first | with_reducible refine (before_any A C x y z x' y' z' _).mono ?_ | with_reducible refine (before_any C A x' y' z' x y z _).mono ?_); rintro e5 W4 ⟨rfl, b4⟩; (first | rw [HC1.out] | rw [HC2.out]); have HB3 := Lib.hid (HB3.out.trans (b4.mono HB3.out.size)); have HI3 := Lib.hid (HI3.out.trans (b4.mono HI3.out.size)); have HA3 := Lib.hid (HA3.out.below b4); have HC3 := Lib.hid (HC3.out.below b4); have RA := Lib.hid HA3.out.range; have RC := Lib.hid HC3.out.range; clear b4))
              go_ret
              exact ⟨by rw [serI_no hk hi (by rw [HPP.out]; simp [pairI, HC1.out, HC2.out])]; rfl, HI3.out⟩
        · obtain rfl : k = i := by omega
          have e1 : ¬ (k : Int) < (k : Int) := by omega
          go_wp2_with fail
          go_roundw
          case rel => exact ⟨k + 1, by omega, by go_num, fun i' k' g1 g2 => by
            by_cases e : i' = k
            · subst e; exact HK.out.1 k' g1
            · exact HI.out.1 i' k' g1 (by omega), HI2.out.trans (HK.out.2.mono HI2.out.size)⟩
          case measure => simp [intOf]; omega
    · obtain rfl : i = l.length := by omega
      have e1 : ¬ (l.length : Int) < (l.length : Int) := by omega
      go_wp2_with fail
      go_ret
      exact ⟨by rw [serI_yes HI.out.1]; rfl, HI.out.2⟩
end Go.Proofs.Ytidonelhapmceaa
