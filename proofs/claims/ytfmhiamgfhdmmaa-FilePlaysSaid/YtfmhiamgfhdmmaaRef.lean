/- Chapter 14's table as the document has it: what it holds; New, Count, In, Room. -/
import Derived.Test.YtfmhiamgfhdmmaaKnown
import Derived.Deep.RegionHeld3
import Derived.Deep.DeepMust
namespace Go.Proofs.Ytfmhiamgfhdmmaa
open Go.RowKit

def Sl.fcells (s : Sl) : List Value := [.int .i64 s.m, .int .i64 s.n, .int .i64 s.f, .int .i64 s.p]
theorem Sl.fcells_length (s : Sl) : s.fcells.length = 4 := rfl

structure IsRt (w : World) (b : Nat) (s : TS) : Prop where
  c0 : w.cell? ⟨b, 0, none⟩ = some (.int .i64 s.most)
  cf : ∀ k j, k < 64 → j < 4 → w.cell? ⟨b, 1 + k * 4 + j, none⟩ = (s.T k).fcells[j]?
  ci : ∀ k, k < 64 → w.cell? ⟨b, 257 + k, none⟩ = some (.bool (s.T k).op)
  fz : ∀ j, w.frozen? ⟨b, j, none⟩ = false
  lt : b < w.heap.size

theorem IsRt.frm {w w' : World} {b : Nat} {s : TS} {l : List Nat} (h : IsRt w b s) (hf : Frm l w w') (hn : b ∉ l) : IsRt w' b s :=
  ⟨(World.cell?_of_block (w := w) (a := ⟨b, 0, none⟩) (hf.block b h.lt hn)).trans h.c0, fun k j hk hj => (World.cell?_of_block (w := w) (a := ⟨b, 1 + k * 4 + j, none⟩) (hf.block b h.lt hn)).trans (h.cf k j hk hj),
    fun k hk => (World.cell?_of_block (w := w) (a := ⟨b, 257 + k, none⟩) (hf.block b h.lt hn)).trans (h.ci k hk), fun j => (World.frozen?_of_block (w := w) (a := ⟨b, j, none⟩) (hf.block b h.lt hn)).trans (h.fz j), Nat.lt_of_lt_of_le h.lt hf.size⟩
theorem IsRt.below {w w' : World} {b : Nat} {s : TS} (h : IsRt w b s) (hb : Below w.heap.size w w') : IsRt w' b s := h.frm (l := []) (Frm.of_below hb) (by simp)
theorem IsRt.drew {w : World} {b : Nat} {s : TS} (h : IsRt w b s) : IsRt w.drew b s := h.below (Below.refl _ _).drew

def rcells (most : Int) (T : Nat → Sl) : List Value := .int .i64 most :: (((List.range 64).flatMap fun k => (T k).fcells) ++ (List.range 64).map fun k => .bool (T k).op)
theorem flat4_length (T : Nat → Sl) : ∀ n : Nat, ((List.range n).flatMap fun k => (T k).fcells).length = n * 4
  | 0 => rfl
  | n + 1 => by rw [List.range_succ, List.flatMap_append, List.length_append, flat4_length T n]; simp [Sl.fcells_length]; omega
theorem flat4 (T : Nat → Sl) : ∀ (n k j : Nat), k < n → j < 4 → ((List.range n).flatMap fun k => (T k).fcells)[k * 4 + j]? = (T k).fcells[j]?
  | 0, k, j, h, _ => by omega
  | n + 1, k, j, h, hj => by
    have hl := flat4_length T n
    rw [List.range_succ, List.flatMap_append]
    by_cases e : k < n
    · rw [List.getElem?_append_left (by rw [hl]; omega)]
      exact flat4 T n k j e hj
    · obtain rfl : k = n := by omega
      rw [List.getElem?_append_right (by rw [hl]; omega), hl]
      simp only [List.flatMap_cons, List.flatMap_nil, List.append_nil]
      rw [show k * 4 + j - k * 4 = j from by omega]
theorem info76 : (Try.prog.info? 76).map (fun i => (i.zero, i.size, i.bytes)) = some (some (.agg (rcells 0 fun _ => Sl.zero).toArray), 321, 2120) := by kernel_rfl
theorem zero76 (w : World) : (zeroValue 76).run Try.prog w = .ok (.agg (rcells 0 fun _ => Sl.zero).toArray) w := by
  obtain ⟨i, hi, hz, _, _⟩ := info_parts info76
  simp [zeroValue, typeInfo, hi, hz]
theorem rt_new (w : World) (n : Int) (T : Nat → Sl) (t : TypeId) : IsRt (w.alloc (.cells (rcells n T).toArray t)) w.heap.size ⟨n, T⟩ := by
  refine ⟨by rw [World.cell?_alloc_new]; rfl, fun k j hk hj => ?_, fun k hk => ?_, fun j => World.frozen?_alloc_new _ _ _ _, by simp⟩
  · rw [World.cell?_alloc_new, show 1 + k * 4 + j = (k * 4 + j) + 1 from by omega]
    simp only [rcells, List.getElem?_toArray, List.getElem?_cons_succ]
    rw [List.getElem?_append_left (by rw [flat4_length]; omega)]
    exact flat4 T 64 k j hk hj
  · rw [World.cell?_alloc_new, show 257 + k = (256 + k) + 1 from by omega]
    simp only [rcells, List.getElem?_toArray, List.getElem?_cons_succ]
    rw [List.getElem?_append_right (by rw [flat4_length]; omega), flat4_length, show 256 + k - 64 * 4 = k from by omega]
    simp [hk]
theorem rnew_any (n : Int) (w : World) : Calls Try.prog 15 #[.int .i64 n] w fun e w' => e = .returned (.pointer (some ⟨w.heap.size, 0, none⟩)) ∧ IsRt w' w.heap.size ⟨n, fun _ => Sl.zero⟩ ∧ Below w.heap.size w w' := by
  have hz := zero76
  go_enter Try.func15, Try.ntmps15
  go_wp2
  go_ret
  exact ⟨rfl, rt_new w n _ 76, (Below.refl _ _).alloc (Nat.le_refl _) _⟩
theorem rproc_any (n : Int) (w : World) : Calls Try.prog 28 #[.int .i64 n] w fun e w' => e = .returned (.bool (decide (0 ≤ n ∧ n < 8))) ∧ w = w' := by
  by_cases h1 : 0 ≤ n
  · have d1 : decide (n ≥ 0) = true := by simpa using h1
    by_cases h2 : n < 8
    · have d2 : decide (n < 8) = true := by simpa using h2
      go_enter Try.func28, Try.ntmps28
      go_wp2
      go_ret
      exact ⟨by simp [h1, h2], rfl⟩
    · have d2 : decide (n < 8) = false := by simpa using h2
      go_enter Try.func28, Try.ntmps28
      go_wp2
      go_ret
      exact ⟨by simp, rfl⟩
  · have d1 : decide (n ≥ 0) = false := by simpa using h1
    go_enter Try.func28, Try.ntmps28
    go_wp2
    go_ret
    exact ⟨by simp, rfl⟩
theorem IsRt.is {w : World} {b : Nat} {s : TS} (h : IsRt w b s) {p k : Nat} (hp : p < 8) (hk : k < 8) : w.cell? ⟨b, 257 + p * 8 + k, none⟩ = some (.bool (s.T (p * 8 + k)).op) := by
  rw [← h.ci (p * 8 + k) (by omega), Nat.add_assoc]

set_option maxHeartbeats 1000000 in
theorem rcount_any {b : Nat} {s : TS} {w : World} (h : IsRt w b s) : Calls Try.prog 22 #[.pointer (some ⟨b, 0, none⟩)] w fun e w' => e = .returned (.int .i64 (cntT s.T)) ∧ w = w' := by
  have H := Lib.hid h
  clear h
  go_enter Try.func22, Try.ntmps22
  go_wp2_with fail
  go_loopw [3, 4] (fun nv iv wr => ∃ p : Nat, p ≤ 8 ∧ iv = .int .i64 p ∧ nv = .int .i64 ((told s.T (p * 8)).length : Nat) ∧ wr = w) (fun _ iv _ => 8 - (intOf iv).toNat)
  case atStart => exact ⟨0, by omega, rfl, rfl, rfl⟩
  case round =>
    obtain ⟨p, hp, rfl, rfl, rfl⟩ := hrel
    by_cases hlt : p < 8
    · have hp0 : (0 : Int) ≤ (p : Int) := by omega
      have hp1 : (p : Int) < 8 := by omega
      go_wp2_with fail
      go_loopw [3, 5] (fun nv iv wz => ∃ k : Nat, k ≤ 8 ∧ iv = .int .i64 k ∧ nv = .int .i64 ((told s.T (p * 8 + k)).length : Nat) ∧ wz = wr) (fun _ iv _ => 8 - (intOf iv).toNat)
      case atStart => exact ⟨0, by omega, rfl, rfl, rfl⟩
      case round =>
        obtain ⟨k, hk, rfl, rfl, rfl⟩ := hrel
        by_cases hlk : k < 8
        · have hk0 : (0 : Int) ≤ (k : Int) := by omega
          have hk1 : (k : Int) < 8 := by omega
          have ci := H.out.is hlt hlk
          have hle := told_length s.T (p * 8 + k)
          have hle2 : (told s.T (p * 8 + k)).length ≤ 64 := by omega
          cases ho : (s.T (p * 8 + k)).op with
          | true =>
            rw [ho] at ci
            have HO := Lib.hid ho
            clear ho
            go_wp2_with fail
            go_roundw
            case rel => exact ⟨k + 1, by omega, by go_num, by rw [← Nat.add_assoc, told_open HO.out, List.length_append]; go_num, trivial⟩
            case measure => simp [intOf]; omega
          | false =>
            rw [ho] at ci
            have HO := Lib.hid ho
            clear ho
            go_wp2_with fail
            go_roundw
            case rel => exact ⟨k + 1, by omega, by go_num, by rw [← Nat.add_assoc, told_shut HO.out], trivial⟩
            case measure => simp [intOf]; omega
        · obtain rfl : k = 8 := by omega
          go_wp2_with fail
          go_roundw
          case rel => exact ⟨p + 1, by omega, by go_num, by rw [show (p + 1) * 8 = p * 8 + 8 from by omega], trivial⟩
          case measure => simp [intOf]; omega
    · obtain rfl : p = 8 := by omega
      go_wp2_with fail
      go_ret
      exact ⟨rfl, rfl⟩

set_option maxHeartbeats 1000000 in
theorem rin_any {b : Nat} {s : TS} {w : World} (h : IsRt w b s) (m : Int) : Calls Try.prog 23 #[.pointer (some ⟨b, 0, none⟩), .int .i64 m] w fun e w' => e = .returned (.int .i64 (inT s.T (told s.T 64) m)) ∧ w = w' := by
  have H := Lib.hid h
  clear h
  go_enter Try.func23, Try.ntmps23
  go_wp2_with fail
  go_loopw [5, 6] (fun nv iv wr => ∃ p : Nat, p ≤ 8 ∧ iv = .int .i64 p ∧ nv = .int .i64 ((inT s.T (told s.T (p * 8)) m : Nat) : Int) ∧ wr = w) (fun _ iv _ => 8 - (intOf iv).toNat)
  case atStart => exact ⟨0, by omega, rfl, rfl, rfl⟩
  case round =>
    obtain ⟨p, hp, rfl, rfl, rfl⟩ := hrel
    by_cases hlt : p < 8
    · have hp0 : (0 : Int) ≤ (p : Int) := by omega
      have hp1 : (p : Int) < 8 := by omega
      go_wp2_with fail
      go_loopw [5, 7] (fun nv iv wz => ∃ k : Nat, k ≤ 8 ∧ iv = .int .i64 k ∧ nv = .int .i64 ((inT s.T (told s.T (p * 8 + k)) m : Nat) : Int) ∧ wz = wr) (fun _ iv _ => 8 - (intOf iv).toNat)
      case atStart => exact ⟨0, by omega, rfl, rfl, rfl⟩
      case round =>
        obtain ⟨k, hk, rfl, rfl, rfl⟩ := hrel
        by_cases hlk : k < 8
        · have hk0 : (0 : Int) ≤ (k : Int) := by omega
          have hk1 : (k : Int) < 8 := by omega
          have ci := H.out.is hlt hlk
          have hle := told_length s.T (p * 8 + k)
          have hl1 := inT_le s.T (told s.T (p * 8 + k)) m
          have hle2 : inT s.T (told s.T (p * 8 + k)) m ≤ 64 := by omega
          have cm : wr.cell? ⟨b, 1 + p * 32 + k * 4, none⟩ = some (.int .i64 (s.T (p * 8 + k)).m) := by
            have := H.out.cf (p * 8 + k) 0 (by omega) (by omega)
            rw [show 1 + (p * 8 + k) * 4 + 0 = 1 + p * 32 + k * 4 from by omega] at this
            exact this
          cases ho : (s.T (p * 8 + k)).op with
          | true =>
            rw [ho] at ci
            have HO := Lib.hid ho
            clear ho
            by_cases hx : (s.T (p * 8 + k)).m = m
            · have e : ((s.T (p * 8 + k)).m == m) = true := by simpa using hx
              have HX := Lib.hid hx
              clear hx
              go_wp2_with fail
              go_roundw
              case rel => exact ⟨k + 1, by omega, by go_num, by rw [← Nat.add_assoc, told_open HO.out, inT_snoc_in HX.out]; go_num, trivial⟩
              case measure => simp [intOf]; omega
            · have e : ((s.T (p * 8 + k)).m == m) = false := by simpa using hx
              have HX := Lib.hid hx
              clear hx
              go_wp2_with fail
              go_roundw
              case rel => exact ⟨k + 1, by omega, by go_num, by rw [← Nat.add_assoc, told_open HO.out, inT_snoc_out HX.out], trivial⟩
              case measure => simp [intOf]; omega
          | false =>
            rw [ho] at ci
            have HO := Lib.hid ho
            clear ho
            go_wp2_with fail
            go_roundw
            case rel => exact ⟨k + 1, by omega, by go_num, by rw [← Nat.add_assoc, told_shut HO.out], trivial⟩
            case measure => simp [intOf]; omega
        · obtain rfl : k = 8 := by omega
          go_wp2_with fail
          go_roundw
          case rel => exact ⟨p + 1, by omega, by go_num, by rw [show (p + 1) * 8 = p * 8 + 8 from by omega], trivial⟩
          case measure => simp [intOf]; omega
    · obtain rfl : p = 8 := by omega
      go_wp2_with fail
      go_ret
      exact ⟨rfl, rfl⟩
end Go.Proofs.Ytfmhiamgfhdmmaa
