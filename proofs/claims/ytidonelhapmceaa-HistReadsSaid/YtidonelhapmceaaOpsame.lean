/- Operations of the program held against the reference's. -/
import Derived.Test.YtidonelhapmceaaCall
import Derived.Test.YtidonelhapmceaaPending
namespace Go.Proofs.Ytidonelhapmceaa
open Go.RowKit

theorem cal_sub (q : OpI) (x y z : Value) : ∀ (j : Nat) v, (q.c.cells x)[j]? = some v → (q.cells x y z)[1 + j]? = some v := by
  intro j v hv
  have hj : j < 9 := (List.getElem?_eq_some_iff.1 hv).1
  rw [← hv]
  match j, hj with
  | 0, _ | 1, _ | 2, _ | 3, _ | 4, _ | 5, _ | 6, _ | 7, _ | 8, _ => rfl
theorem sameI_refl (r : Res) : sameI r r = true := by simp [sameI, statI]
set_option maxRecDepth 100000 in
set_option maxHeartbeats 16000000 in
theorem opsame_any {w : World} {base bo base' bo' : Nat} {v v' : Value} {l : List OpI} (h : Outs w base bo 40 v l) (h' : Outs w base' bo' 51 v' l) (hl : l.length ≤ 1000) : Calls Try.prog 14 #[v, v'] w fun e w' => e = .returned (.bool true) ∧ Below w.heap.size w w' := by
  obtain ⟨a, cap, rfl⟩ := h.value
  obtain ⟨a', cap', rfl⟩ := h'.value
  have HO := Lib.hid h
  have HO' := Lib.hid h'
  clear h h'
  go_enter Try.func14, Try.ntmps14
  go_wp2_with fail
  go_loopw [5] (fun iv wr => ∃ i : Nat, i ≤ l.length ∧ iv = .int .i64 i ∧ Hid (Below w.heap.size w wr)) (fun iv _ => l.length - (intOf iv).toNat)
  case atStart => exact ⟨0, by omega, rfl, Below.refl _ _⟩
  case round =>
    obtain ⟨i, hil, rfl, HI⟩ := hrel
    by_cases hi : i < l.length
    · have h0 : (0 : Int) ≤ (i : Int) := by omega
      have h1 : (i : Int) < (l.length : Int) := by omega
      obtain ⟨f, o, cp, e⟩ : ∃ f o cp, Value.slice a l.length cap = .slice (some ⟨f, o, none⟩) l.length cp := by
        obtain ⟨_, _, hw, _⟩ := HO.out
        exact hw.form (by omega)
      cases e
      obtain ⟨f', o', cp', e'⟩ : ∃ f o cp, Value.slice a' l.length cap' = .slice (some ⟨f, o, none⟩) l.length cp := by
        obtain ⟨_, _, hw, _⟩ := HO'.out
        exact hw.form (by omega)
      cases e'
      have HR := Lib.hid (HO.out.below HI.out)
      have HR' := Lib.hid (HO'.out.below HI.out)
      obtain ⟨q, hq⟩ : ∃ q, l[i]? = some q := ⟨_, List.getElem?_eq_getElem hi⟩
      obtain ⟨x, y, z, t, _, R⟩ := HR.out.row hq
      obtain ⟨x', y', z', t', _, R'⟩ := HR'.out.row hq
      have HF := (HR.out.lt f rfl).2
      have HF' := (HR'.out.lt f' rfl).2
      have RC := Lib.hid (range_sub 1 R (cal_sub q x y z))
      have RC' := Lib.hid (range_sub 1 R' (cal_sub q x' y' z'))
      have RR := Lib.hid (range_sub 10 R (res_sub q x y z))
      have RR' := Lib.hid (range_sub 10 R' (res_sub q x' y' z'))
      have HX22 : Hid (∀ W, Below wr.heap.size wr W → Calls Try.prog 22 #[.agg (q.c.cells x).toArray, .agg (q.c.cells x').toArray] W fun e w' => e = .returned (.bool true) ∧ Below W.heap.size W w') := Lib.hid (fun W hW => call_any (t.1.below hW) (t'.1.below hW))
      have HX12 : Hid (∀ W, Below wr.heap.size wr W → Calls Try.prog 12 #[.agg (q.r.cells y z).toArray, .agg (q.r.cells y' z').toArray] W fun e w' => e = .returned (.bool true) ∧ Below W.heap.size W w') := Lib.hid (fun W hW => by
        have := result_any (t.2.1.below hW) (t.2.2.below hW) (t'.2.1.below hW) (t'.2.2.below hW)
        rwa [sameI_refl] at this)
      have c0 : wr.cell? ⟨f, o + i * 23, none⟩ = some (.int .i64 q.t) := R 0 _ rfl
      have c0' : wr.cell? ⟨f', o' + i * 23, none⟩ = some (.int .i64 q.t) := R' 0 _ rfl
      have c1 : wr.cell? ⟨f, o + i * 23 + 21, none⟩ = some (.int .i64 q.f) := R 21 _ rfl
      have c1' : wr.cell? ⟨f', o' + i * 23 + 21, none⟩ = some (.int .i64 q.f) := R' 21 _ rfl
      have c2 : wr.cell? ⟨f, o + i * 23 + 22, none⟩ = some (.int .i64 q.o) := R 22 _ rfl
      have c2' : wr.cell? ⟨f', o' + i * 23 + 22, none⟩ = some (.int .i64 q.o) := R' 22 _ rfl
      clear R R' t t' hq
      go_wp2_with fail
      try simp only [List.append_eq, List.cons_append, List.nil_append]
      first
        | refine wp_region_graft (by kernel_rfl) (by kernel_rfl) ?_
        | refine wp_region_graft_seq ?_
      repeat (first | (go_big_quiet_want; refine quiet_load_mid 28 (.tmp 32) rfl f (o + i * 23 + 1) rfl (q.c.cells x) _ Try.underlying28 rfl size28 RC.out HF ?_; simp only [Act.put, List.setIfInBounds_toArray, List.set_cons_zero, List.set_cons_succ]; go_big_quiet_on) | (go_big_quiet_want; refine quiet_load_mid 28 (.tmp 37) rfl f' (o' + i * 23 + 1) rfl (q.c.cells x') _ Try.underlying28 rfl size28 RC'.out HF' ?_; simp only [Act.put, List.setIfInBounds_toArray, List.set_cons_zero, List.set_cons_succ]; go_big_quiet_on) | (go_big_quiet_want; refine quiet_load_mid 33 (.tmp 46) rfl f (o + i * 23 + 10) rfl (q.r.cells y z) _ Try.underlying33 rfl size33 RR.out HF ?_; simp only [Act.put, List.setIfInBounds_toArray, List.set_cons_zero, List.set_cons_succ]; go_big_quiet_on) | (go_big_quiet_want; refine quiet_load_mid 33 (.tmp 51) rfl f' (o' + i * 23 + 10) rfl (q.r.cells y' z') _ Try.underlying33 rfl size33 RR'.out HF' ?_; simp only [Act.put, List.setIfInBounds_toArray, List.set_cons_zero, List.set_cons_succ]; go_big_quiet_on) | go_big_quiet_step ((first | (go_at_call 22; with_reducible exact calls_graft (HX22.out _ (graft_below _ _))) | (go_at_call 12; with_reducible exact calls_graft (HX12.out _ (graft_below _ _))))))
      refine wpQuiet_nil ?_
      intro w6 b6
      go_wp2_with fail
      go_roundw
      case rel => exact ⟨i + 1, by omega, by go_num, HI.out.trans (b6.mono HI.out.size)⟩
      case measure => simp [intOf]; omega
    · obtain rfl : i = l.length := by omega
      have e1 : ¬ (l.length : Int) < (l.length : Int) := by omega
      go_wp2_with fail
      go_ret
      exact ⟨rfl, HI.out⟩
end Go.Proofs.Ytidonelhapmceaa
