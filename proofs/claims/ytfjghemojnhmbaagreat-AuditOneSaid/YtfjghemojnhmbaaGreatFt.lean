/- Open files: the table in memory; what is counted. -/
import Derived.Laws.Cover1
import Derived.Test.YtfjghemojnhmbaaGreatTrC
import Derived.Test.YtfjghemojnhmbaaGreatTab6
namespace Go.Proofs.YtfjghemojnhmbaaGreat
open Go.RowKit

/-- A descriptor. -/
structure Fl where
  is : Bool
  am : Int
  an : Int
  flags : Int
  pos : Int
/-- The cells of a table. -/
structure FtC (cs : Array Value) (fl : Nat → Nat → Fl) : Prop where
  size : cs.size = 321
  files : cs[0]? = some (.int .i64 64)
  am : ∀ p k, p < 8 → k < 8 → cs[1 + p * 32 + k * 4]? = some (.int .i64 (fl p k).am)
  an : ∀ p k, p < 8 → k < 8 → cs[1 + p * 32 + k * 4 + 1]? = some (.int .i64 (fl p k).an)
  flags : ∀ p k, p < 8 → k < 8 → cs[1 + p * 32 + k * 4 + 2]? = some (.int .i64 (fl p k).flags)
  pos : ∀ p k, p < 8 → k < 8 → cs[1 + p * 32 + k * 4 + 3]? = some (.int .i64 (fl p k).pos)
  is : ∀ p k, p < 8 → k < 8 → cs[257 + p * 8 + k]? = some (.bool (fl p k).is)
structure FtAt (S : Nat → Prop) (w : World) (fb : Nat) (fl : Nat → Nat → Fl) : Prop where
  blk : ∃ cs, Blk w fb 121 cs ∧ FtC cs fl
  own : S fb
  rg : ∀ p k, p < 8 → k < 8 → 0 ≤ (fl p k).am ∧ (fl p k).am ≤ 1000000 ∧ 0 ≤ (fl p k).an ∧ (fl p k).an ≤ 1000000 ∧ 0 ≤ (fl p k).pos ∧ (fl p k).pos ≤ 1125899906842624
theorem FtAt.fr {S S' S0 : Nat → Prop} {T : List TypeId} {w w' : World} {fb : Nat} {fl : Nat → Nat → Fl} (h : FtAt S w fb fl) (hs : ∀ k, S k → S' k) (hf : Fr S0 T w w') (h1 : 121 ∉ T) : FtAt S' w' fb fl := by
  obtain ⟨cs, hb, hc⟩ := h.blk
  exact ⟨⟨cs, hb.fr hf h1, hc⟩, hs fb h.own, h.rg⟩
theorem FtAt.below {S : Nat → Prop} {w w' : World} {fb : Nat} {fl : Nat → Nat → Fl} (h : FtAt S w fb fl) (hb : Below w.heap.size w w') : FtAt S w' fb fl := h.fr (T := []) (fun _ h => h) (Fr.of_below (S := S) hb) (by simp)
/-- One descriptor's cells. -/
structure FlC (w : World) (fb p k : Nat) (x : Fl) : Prop where
  am : w.cell? ⟨fb, 1 + p * 32 + k * 4, none⟩ = some (.int .i64 x.am)
  an : w.cell? ⟨fb, 1 + p * 32 + k * 4 + 1, none⟩ = some (.int .i64 x.an)
  flags : w.cell? ⟨fb, 1 + p * 32 + k * 4 + 2, none⟩ = some (.int .i64 x.flags)
  pos : w.cell? ⟨fb, 1 + p * 32 + k * 4 + 3, none⟩ = some (.int .i64 x.pos)
  is : w.cell? ⟨fb, 257 + p * 8 + k, none⟩ = some (.bool x.is)
  fr : ∀ j, w.frozen? ⟨fb, j, none⟩ = false
  files : w.cell? ⟨fb, 0, none⟩ = some (.int .i64 64)
  lt : fb < w.heap.size
theorem FtAt.at_ {S : Nat → Prop} {w : World} {fb : Nat} {fl : Nat → Nat → Fl} (h : FtAt S w fb fl) {p k : Nat} (hp : p < 8) (hk : k < 8) : FlC w fb p k (fl p k) := by
  obtain ⟨cs, hb, hc⟩ := h.blk
  exact ⟨(hb.cell _).trans (hc.am p k hp hk), (hb.cell _).trans (hc.an p k hp hk), (hb.cell _).trans (hc.flags p k hp hk), (hb.cell _).trans (hc.pos p k hp hk), (hb.cell _).trans (hc.is p k hp hk), hb.free, (hb.cell 0).trans hc.files, hb.lt⟩
set_option maxRecDepth 100000 in
theorem proc_any (w : World) (p : Nat) (hp : p < 8) : Calls Tryz.prog 80 #[.int .i64 (p : Int)] w fun e w' => e = .returned (.bool true) ∧ w' = w := by
  go_enter Tryz.func80, Tryz.ntmps80
  have k0 : (0 : Int) ≤ (p : Int) := by omega
  have k1 : (p : Int) < 8 := by omega
  go_wp2_with fail
  go_ret
  exact ⟨rfl, rfl⟩
/-- What 'check' answers. -/
def CheckP (fl : Nat → Nat → Fl) (p : Nat) (fd : Int) (w : World) (e : Ending) (w' : World) : Prop := w' = w ∧ ∃ code : Int, e = .returned (.int .i64 code) ∧ 0 ≤ code ∧ code ≤ 64 ∧ ((code = 0 → ∃ k : Nat, k < 8 ∧ fd = k ∧ (fl p k).is = true) ∧ (code ≠ 0 → ∀ k : Nat, k < 8 → fd = k → (fl p k).is = false))
set_option maxRecDepth 100000 in
theorem check_any {S : Nat → Prop} {w : World} {fb : Nat} {fl : Nat → Nat → Fl} (h : FtAt S w fb fl) {p : Nat} (hp : p < 8) (fd : Int) : Calls Tryz.prog 52 #[.pointer (some ⟨fb, 0, none⟩), .int .i64 (p : Int), .int .i64 fd] w (CheckP fl p fd w) := by
  have C1 := proc_any w p hp
  have k0 : (0 : Int) ≤ (p : Int) := by omega
  have k1 : (p : Int) < 8 := by omega
  have HH := Lib.hid h
  clear h
  go_enter Tryz.func52, Tryz.ntmps52
  by_cases h0 : fd < 0
  · go_wp2_with (first | (go_at_call 80; refine C1.mono ?_; rintro e w' ⟨rfl, rfl⟩))
    go_ret
    exact ⟨rfl, 33, rfl, by omega, by omega, (fun h => by omega), fun _ k' hk' e => by omega⟩
  by_cases h8 : (8 : Int) ≤ fd
  · go_wp2_with (first | (go_at_call 80; refine C1.mono ?_; rintro e w' ⟨rfl, rfl⟩))
    go_ret
    exact ⟨rfl, 33, rfl, by omega, by omega, (fun h => by omega), fun _ k' hk' e => by omega⟩
  obtain ⟨k, rfl⟩ : ∃ k : Nat, fd = k := ⟨fd.toNat, by omega⟩
  have hk : k < 8 := by omega
  have c1 := (HH.out.at_ hp hk).is
  have k2 : (0 : Int) ≤ (k : Int) := by omega
  have k3 : (k : Int) < 8 := by omega
  rcases hq : (fl p k).is with _ | _
  · rw [hq] at c1
    have HQ := Lib.hid hq
    clear hq
    go_wp2_with (first | (go_at_call 80; refine C1.mono ?_; rintro e w' ⟨rfl, rfl⟩))
    go_ret
    exact ⟨rfl, 33, rfl, by omega, by omega, (fun h => by omega), fun _ k' hk' e => by
      obtain rfl : k = k' := by omega
      exact HQ.out⟩
  · rw [hq] at c1
    have HQ := Lib.hid hq
    clear hq
    go_wp2_with (first | (go_at_call 80; refine C1.mono ?_; rintro e w' ⟨rfl, rfl⟩))
    go_ret
    exact ⟨rfl, 0, rfl, by omega, by omega, (fun _ => ⟨k, hk, rfl, HQ.out⟩), fun h => absurd rfl h⟩
set_option maxRecDepth 100000 in
theorem count_any {S : Nat → Prop} {w : World} {fb : Nat} {fl : Nat → Nat → Fl} (h : FtAt S w fb fl) : Calls Tryz.prog 81 #[.pointer (some ⟨fb, 0, none⟩)] w (IntP 0 64 w) := by
  have HH := Lib.hid h
  clear h
  go_enter Tryz.func81, Tryz.ntmps81
  go_wp2_with fail
  go_loopw [4, 3] (fun iv nv wr => ∃ i n : Nat, i ≤ 8 ∧ n ≤ i * 8 ∧ iv = .int .i64 i ∧ nv = .int .i64 n ∧ wr = w) (fun iv _ _ => 8 - (intOf iv).toNat)
  case atStart => exact ⟨0, 0, by omega, by omega, rfl, rfl, rfl⟩
  case round =>
    obtain ⟨i, n, hi, hn, rfl, rfl, rfl⟩ := hrel
    by_cases hlt : i < 8
    · have k0 : (0 : Int) ≤ (i : Int) := by omega
      have k1 : (i : Int) < 8 := by omega
      go_wp2_with fail
      go_loopw [5, 3] (fun kv nv wz => ∃ k m : Nat, k ≤ 8 ∧ m ≤ i * 8 + k ∧ kv = .int .i64 k ∧ nv = .int .i64 m ∧ wz = wr) (fun kv _ _ => 8 - (intOf kv).toNat)
      case atStart => exact ⟨0, n, by omega, by omega, rfl, rfl, rfl⟩
      case round =>
        obtain ⟨k, m, hk, hm, rfl, rfl, rfl⟩ := hrel
        by_cases hlt2 : k < 8
        · have c1 := (HH.out.at_ hlt hlt2).is
          have k2 : (0 : Int) ≤ (k : Int) := by omega
          have k3 : (k : Int) < 8 := by omega
          rcases hq : (fl i k).is with _ | _
          · rw [hq] at c1
            clear hq
            go_wp2_with fail
            go_roundw
            case rel => exact ⟨k + 1, m, by omega, by omega, by go_num, rfl, by first | trivial | rfl⟩
            case measure => simp [intOf]; omega
          · rw [hq] at c1
            clear hq
            go_wp2_with fail
            go_roundw
            case rel => exact ⟨k + 1, m + 1, by omega, by omega, by go_num, by go_num, by first | trivial | rfl⟩
            case measure => simp [intOf]; omega
        · obtain rfl : k = 8 := by omega
          go_wp2_with fail
          go_roundw
          case rel => exact ⟨i + 1, m, by omega, by omega, by go_num, rfl, by first | trivial | rfl⟩
          case measure => simp [intOf]; omega
    · obtain rfl : i = 8 := by omega
      go_wp2_with fail
      go_ret
      exact .mk (by omega) (by omega)
set_option maxRecDepth 100000 in
theorem inm_any {S : Nat → Prop} {w : World} {fb : Nat} {fl : Nat → Nat → Fl} (h : FtAt S w fb fl) (m : Int) : Calls Tryz.prog 78 #[.pointer (some ⟨fb, 0, none⟩), .int .i64 m] w (IntP 0 64 w) := by
  have HH := Lib.hid h
  clear h
  go_enter Tryz.func78, Tryz.ntmps78
  go_wp2_with fail
  go_loopw [6, 5] (fun iv nv wr => ∃ i n : Nat, i ≤ 8 ∧ n ≤ i * 8 ∧ iv = .int .i64 i ∧ nv = .int .i64 n ∧ wr = w) (fun iv _ _ => 8 - (intOf iv).toNat)
  case atStart => exact ⟨0, 0, by omega, by omega, rfl, rfl, rfl⟩
  case round =>
    obtain ⟨i, n, hi, hn, rfl, rfl, rfl⟩ := hrel
    by_cases hlt : i < 8
    · have k0 : (0 : Int) ≤ (i : Int) := by omega
      have k1 : (i : Int) < 8 := by omega
      go_wp2_with fail
      go_loopw [7, 5] (fun kv nv wz => ∃ k m : Nat, k ≤ 8 ∧ m ≤ i * 8 + k ∧ kv = .int .i64 k ∧ nv = .int .i64 m ∧ wz = wr) (fun kv _ _ => 8 - (intOf kv).toNat)
      case atStart => exact ⟨0, n, by omega, by omega, rfl, rfl, rfl⟩
      case round =>
        obtain ⟨k, m', hk, hm, rfl, rfl, rfl⟩ := hrel
        by_cases hlt2 : k < 8
        · have c1 := (HH.out.at_ hlt hlt2).is
          have c2 := (HH.out.at_ hlt hlt2).am
          have k2 : (0 : Int) ≤ (k : Int) := by omega
          have k3 : (k : Int) < 8 := by omega
          rcases hq : (fl i k).is with _ | _
          · rw [hq] at c1
            clear hq
            go_wp2_with fail
            go_roundw
            case rel => exact ⟨k + 1, m', by omega, by omega, by go_num, rfl, by first | trivial | rfl⟩
            case measure => simp [intOf]; omega
          · rw [hq] at c1
            clear hq
            rcases hq : ((fl i k).am == m) with _ | _
            · go_wp2_with fail
              go_roundw
              case rel => exact ⟨k + 1, m', by omega, by omega, by go_num, rfl, by first | trivial | rfl⟩
              case measure => simp [intOf]; omega
            · go_wp2_with fail
              go_roundw
              case rel => exact ⟨k + 1, m' + 1, by omega, by omega, by go_num, by go_num, by first | trivial | rfl⟩
              case measure => simp [intOf]; omega
        · obtain rfl : k = 8 := by omega
          go_wp2_with fail
          go_roundw
          case rel => exact ⟨i + 1, m', by omega, by omega, by go_num, rfl, by first | trivial | rfl⟩
          case measure => simp [intOf]; omega
    · obtain rfl : i = 8 := by omega
      go_wp2_with fail
      go_ret
      exact .mk (by omega) (by omega)
end Go.Proofs.YtfjghemojnhmbaaGreat
/- Open files: is there room; a descriptor turned. -/
namespace Go.Proofs.YtfjghemojnhmbaaGreat
open Go.RowKit

def upd (fl : Nat → Nat → Fl) (p k : Nat) (x : Fl) : Nat → Nat → Fl := fun p' k' => if p' = p ∧ k' = k then x else fl p' k'
theorem upd_self (fl : Nat → Nat → Fl) (p k : Nat) (x : Fl) : upd fl p k x p k = x := by simp [upd]
theorem upd_ne {fl : Nat → Nat → Fl} {p k p' k' : Nat} {x : Fl} (h : ¬ (p' = p ∧ k' = k)) : upd fl p k x p' k' = fl p' k' := by rw [upd, if_neg h]
theorem FtC.put {cs : Array Value} {fl : Nat → Nat → Fl} (h : FtC cs fl) {p k : Nat} (hp : p < 8) (hk : k < 8) (x : Fl) :
    FtC (((((cs.setIfInBounds (257 + p * 8 + k) (.bool x.is)).setIfInBounds (1 + p * 32 + k * 4) (.int .i64 x.am)).setIfInBounds (1 + p * 32 + k * 4 + 1) (.int .i64 x.an)).setIfInBounds (1 + p * 32 + k * 4 + 2) (.int .i64 x.flags)).setIfInBounds (1 + p * 32 + k * 4 + 3) (.int .i64 x.pos)) (upd fl p k x) := by
  have hs := h.size
  refine ⟨by simp [hs], ?_, ?_, ?_, ?_, ?_, ?_⟩
  · rw [Array.getElem?_setIfInBounds_ne (by omega), Array.getElem?_setIfInBounds_ne (by omega), Array.getElem?_setIfInBounds_ne (by omega), Array.getElem?_setIfInBounds_ne (by omega), Array.getElem?_setIfInBounds_ne (by omega)]
    exact h.files
  · intro p' k' hp' hk'
    by_cases hq : p' = p ∧ k' = k
    · obtain ⟨rfl, rfl⟩ := hq
      rw [upd_self, Array.getElem?_setIfInBounds_ne (by omega), Array.getElem?_setIfInBounds_ne (by omega), Array.getElem?_setIfInBounds_ne (by omega), Array.getElem?_setIfInBounds_self_of_lt (by simp; omega)]
    · rw [upd_ne hq, Array.getElem?_setIfInBounds_ne (by omega), Array.getElem?_setIfInBounds_ne (by omega), Array.getElem?_setIfInBounds_ne (by omega), Array.getElem?_setIfInBounds_ne (by omega), Array.getElem?_setIfInBounds_ne (by omega)]
      exact h.am p' k' hp' hk'
  · intro p' k' hp' hk'
    by_cases hq : p' = p ∧ k' = k
    · obtain ⟨rfl, rfl⟩ := hq
      rw [upd_self, Array.getElem?_setIfInBounds_ne (by omega), Array.getElem?_setIfInBounds_ne (by omega), Array.getElem?_setIfInBounds_self_of_lt (by simp; omega)]
    · rw [upd_ne hq, Array.getElem?_setIfInBounds_ne (by omega), Array.getElem?_setIfInBounds_ne (by omega), Array.getElem?_setIfInBounds_ne (by omega), Array.getElem?_setIfInBounds_ne (by omega), Array.getElem?_setIfInBounds_ne (by omega)]
      exact h.an p' k' hp' hk'
  · intro p' k' hp' hk'
    by_cases hq : p' = p ∧ k' = k
    · obtain ⟨rfl, rfl⟩ := hq
      rw [upd_self, Array.getElem?_setIfInBounds_ne (by omega), Array.getElem?_setIfInBounds_self_of_lt (by simp; omega)]
    · rw [upd_ne hq, Array.getElem?_setIfInBounds_ne (by omega), Array.getElem?_setIfInBounds_ne (by omega), Array.getElem?_setIfInBounds_ne (by omega), Array.getElem?_setIfInBounds_ne (by omega), Array.getElem?_setIfInBounds_ne (by omega)]
      exact h.flags p' k' hp' hk'
  · intro p' k' hp' hk'
    by_cases hq : p' = p ∧ k' = k
    · obtain ⟨rfl, rfl⟩ := hq
      rw [upd_self, Array.getElem?_setIfInBounds_self_of_lt (by simp; omega)]
    · rw [upd_ne hq, Array.getElem?_setIfInBounds_ne (by omega), Array.getElem?_setIfInBounds_ne (by omega), Array.getElem?_setIfInBounds_ne (by omega), Array.getElem?_setIfInBounds_ne (by omega), Array.getElem?_setIfInBounds_ne (by omega)]
      exact h.pos p' k' hp' hk'
  · intro p' k' hp' hk'
    by_cases hq : p' = p ∧ k' = k
    · obtain ⟨rfl, rfl⟩ := hq
      rw [upd_self, Array.getElem?_setIfInBounds_ne (by omega), Array.getElem?_setIfInBounds_ne (by omega), Array.getElem?_setIfInBounds_ne (by omega), Array.getElem?_setIfInBounds_ne (by omega), Array.getElem?_setIfInBounds_self_of_lt (by omega)]
    · rw [upd_ne hq, Array.getElem?_setIfInBounds_ne (by omega), Array.getElem?_setIfInBounds_ne (by omega), Array.getElem?_setIfInBounds_ne (by omega), Array.getElem?_setIfInBounds_ne (by omega), Array.getElem?_setIfInBounds_ne (by omega)]
      exact h.is p' k' hp' hk'
/-- What a descriptor may hold. -/
def Fl.ok (x : Fl) : Prop := 0 ≤ x.am ∧ x.am ≤ 1000000 ∧ 0 ≤ x.an ∧ x.an ≤ 1000000 ∧ 0 ≤ x.pos ∧ x.pos ≤ 1125899906842624
theorem FtAt.put {S : Nat → Prop} {w : World} {fb : Nat} {fl : Nat → Nat → Fl} (h : FtAt S w fb fl) {p k : Nat} (hp : p < 8) (hk : k < 8) (x : Fl) (hx : x.ok) :
    FtAt S (((((w.setCell ⟨fb, 257 + p * 8 + k, none⟩ (.bool x.is)).setCell ⟨fb, 1 + p * 32 + k * 4, none⟩ (.int .i64 x.am)).setCell ⟨fb, 1 + p * 32 + k * 4 + 1, none⟩ (.int .i64 x.an)).setCell ⟨fb, 1 + p * 32 + k * 4 + 2, none⟩ (.int .i64 x.flags)).setCell ⟨fb, 1 + p * 32 + k * 4 + 3, none⟩ (.int .i64 x.pos)) fb (upd fl p k x) ∧
    Fr S [121] w (((((w.setCell ⟨fb, 257 + p * 8 + k, none⟩ (.bool x.is)).setCell ⟨fb, 1 + p * 32 + k * 4, none⟩ (.int .i64 x.am)).setCell ⟨fb, 1 + p * 32 + k * 4 + 1, none⟩ (.int .i64 x.an)).setCell ⟨fb, 1 + p * 32 + k * 4 + 2, none⟩ (.int .i64 x.flags)).setCell ⟨fb, 1 + p * 32 + k * 4 + 3, none⟩ (.int .i64 x.pos)) := by
  obtain ⟨cs, hb, hc⟩ := h.blk
  have b1 := hb.set (257 + p * 8 + k) (.bool x.is)
  have b2 := b1.set (1 + p * 32 + k * 4) (.int .i64 x.am)
  have b3 := b2.set (1 + p * 32 + k * 4 + 1) (.int .i64 x.an)
  have b4 := b3.set (1 + p * 32 + k * 4 + 2) (.int .i64 x.flags)
  have b5 := b4.set (1 + p * 32 + k * 4 + 3) (.int .i64 x.pos)
  refine ⟨⟨⟨_, b5, hc.put hp hk x⟩, h.own, fun p' k' hp' hk' => ?_⟩, ?_⟩
  · by_cases hq : p' = p ∧ k' = k
    · obtain ⟨rfl, rfl⟩ := hq
      rw [upd_self]; exact hx
    · rw [upd_ne hq]; exact h.rg p' k' hp' hk'
  · have one : ∀ {X Y : World} (v : Value) (j : Nat) (cs : Array Value), Blk Y fb 121 cs → Fr S [121] X Y → Fr S [121] X (Y.setCell ⟨fb, j, none⟩ v) := fun v j cs hY hf => hf.trans (Fr.one hY h.own (by simp) v) fun _ h => .inl h
    exact one _ _ _ b4 (one _ _ _ b3 (one _ _ _ b2 (one _ _ _ b1 (Fr.one hb h.own (by simp) _))))
theorem FtAt.seek {S : Nat → Prop} {w : World} {fb : Nat} {fl : Nat → Nat → Fl} (h : FtAt S w fb fl) {p k : Nat} (hp : p < 8) (hk : k < 8) (n : Int) (h0 : 0 ≤ n) (h1 : n ≤ 1125899906842624) :
    FtAt S (w.setCell ⟨fb, 1 + p * 32 + k * 4 + 3, none⟩ (.int .i64 n)) fb (upd fl p k { fl p k with pos := n }) ∧ Fr S [121] w (w.setCell ⟨fb, 1 + p * 32 + k * 4 + 3, none⟩ (.int .i64 n)) := by
  obtain ⟨cs, hb, hc⟩ := h.blk
  have r := h.rg p k hp hk
  have c2 := hc.put hp hk { fl p k with pos := n }
  have same : ∀ (cs : Array Value) (i : Nat) (v : Value), cs[i]? = some v → cs.setIfInBounds i v = cs := by
    intro cs i v hv
    apply Array.ext_getElem?
    intro j
    by_cases hij : i = j
    · subst hij
      rw [Array.getElem?_setIfInBounds_self_of_lt (Array.getElem?_eq_some_iff.1 hv).1, hv]
    · rw [Array.getElem?_setIfInBounds_ne hij]
  simp only at c2
  rw [same _ _ _ (hc.is p k hp hk), same _ _ _ (hc.am p k hp hk), same _ _ _ (hc.an p k hp hk), same _ _ _ (hc.flags p k hp hk)] at c2
  refine ⟨⟨⟨_, hb.set _ _, c2⟩, h.own, fun p' k' hp' hk' => ?_⟩, Fr.one hb h.own (by simp) _⟩
  by_cases hq : p' = p ∧ k' = k
  · obtain ⟨rfl, rfl⟩ := hq
    rw [upd_self]; exact ⟨r.1, r.2.1, r.2.2.1, r.2.2.2.1, h0, h1⟩
  · rw [upd_ne hq]; exact h.rg p' k' hp' hk'
/-- A code, in the same world but for draws. -/
def CodeP (w : World) (e : Ending) (w' : World) : Prop := ∃ code : Int, e = .returned (.int .i64 code) ∧ 0 ≤ code ∧ code ≤ 64 ∧ Drw w w'
set_option maxRecDepth 100000 in
theorem room_any {S : Nat → Prop} {w : World} {fb : Nat} {fl : Nat → Nat → Fl} (h : FtAt S w fb fl) {p : Nat} (hp : p < 8) : Calls Tryz.prog 47 #[.pointer (some ⟨fb, 0, none⟩), .int .i64 (p : Int)] w (CodeP w) := by
  have C1 := proc_any w p hp
  have C2 := count_any (h.below (Below.refl w.heap.size w).drew)
  have f0 := (h.at_ (p := 0) (k := 0) (by omega) (by omega)).files
  have k0 : (0 : Int) ≤ (p : Int) := by omega
  have k1 : (p : Int) < 8 := by omega
  have HH := Lib.hid h
  clear h
  go_enter Tryz.func47, Tryz.ntmps47
  go_wp2_with (first | (go_at_call 80; refine C1.mono ?_; rintro e w' ⟨rfl, rfl⟩))
  go_loopw [6, 5] (fun kv nv wz => ∃ k m : Nat, k ≤ 8 ∧ m ≤ k ∧ kv = .int .i64 k ∧ nv = .int .i64 m ∧ wz = w') (fun kv _ _ => 8 - (intOf kv).toNat)
  case atStart => exact ⟨0, 0, by omega, by omega, rfl, rfl, rfl⟩
  case round =>
    obtain ⟨k, m, hk, hm, rfl, rfl, rfl⟩ := hrel
    by_cases hlt2 : k < 8
    · have c1 := (HH.out.at_ hp hlt2).is
      have k2 : (0 : Int) ≤ (k : Int) := by omega
      have k3 : (k : Int) < 8 := by omega
      rcases hq : (fl p k).is with _ | _
      · rw [hq] at c1
        clear hq
        go_wp2_with fail
        go_roundw
        case rel => exact ⟨k + 1, m, by omega, by omega, by go_num, rfl, by first | trivial | rfl⟩
        case measure => simp [intOf]; omega
      · rw [hq] at c1
        clear hq
        go_wp2_with fail
        go_roundw
        case rel => exact ⟨k + 1, m + 1, by omega, by omega, by go_num, by go_num, by first | trivial | rfl⟩
        case measure => simp [intOf]; omega
    · obtain rfl : k = 8 := by omega
      rcases hq : ((m : Int) == 8) with _ | _
      · go_upto_region 11 with fail
        go_region_held3 (fun X => X.cell? ⟨fb, 0, none⟩ = some (.int .i64 64)) (first | exact f0) (first | (go_at_call 81; refine C2.mono ?_; rintro e w2 ⟨n, rfl, rfl, n0, n1⟩))
        by_cases h64 : (64 : Int) ≤ n
        · go_wp2_with fail
          go_ret
          exact ⟨40, rfl, by omega, by omega, 1, rfl⟩
        · go_wp2_with fail
          go_ret
          exact ⟨0, rfl, by omega, by omega, 1, rfl⟩
      · go_wp2_with fail
        go_ret
        exact ⟨41, rfl, by omega, by omega, Drw.refl _⟩
end Go.Proofs.YtfjghemojnhmbaaGreat
/- Open files: Get, Seek, Close, New. -/
namespace Go.Proofs.YtfjghemojnhmbaaGreat
open Go.RowKit

theorem file_out {fn : Func} {tmps : Array Value} {w : World} {Z a b : Nat} {p q r s z : Value} (hr : fn.results = #[.cell a 88, .tmp b]) (h4 : tmps.getD a undef = .pointer (some ⟨Z, 0, none⟩)) (h5 : tmps.getD b undef = z)
    (h : Holds w Z #[p, q, r, s]) : (results fn tmps).run Tryz.prog w = .ok (.tuple #[.agg #[p, q, r, s], z]) w := by
  unfold results
  rw [hr]
  have h4' : tmps[a]?.getD undef = .pointer (some ⟨Z, 0, none⟩) := by rw [← h4]; simp
  have h5' : tmps[b]?.getD undef = z := by rw [← h5]; simp
  have v0 : w.cell? ⟨Z, 0, none⟩ = some p := h.cell 0
  have v1 : w.cell? ⟨Z, 1, none⟩ = some q := h.cell 1
  have v2 : w.cell? ⟨Z, 2, none⟩ = some r := h.cell 2
  have v3 : w.cell? ⟨Z, 3, none⟩ = some s := h.cell 3
  simp [asAddr, h4', h5', go_sem, v0, v1, v2, v3]
/-- What Get answers. -/
def GetP (fl : Nat → Nat → Fl) (p : Nat) (fd : Int) (w : World) (e : Ending) (w' : World) : Prop := Below w.heap.size w w' ∧ ((∃ code : Int, code ≠ 0 ∧ 0 ≤ code ∧ code ≤ 64 ∧ e = .returned (.tuple #[.agg #[.int .i64 0, .int .i64 0, .int .i64 0, .int .i64 0], .int .i64 code])) ∨
  ∃ k : Nat, k < 8 ∧ fd = k ∧ (fl p k).is = true ∧ e = .returned (.tuple #[.agg #[.int .i64 (fl p k).am, .int .i64 (fl p k).an, .int .i64 (fl p k).flags, .int .i64 (fl p k).pos], .int .i64 0]))
theorem quad {w W : World} {Z : Nat} {a b c d : Value} (h : Holds W Z #[a, b, c, d]) (hb : Below w.heap.size w W) (hz : w.heap.size ≤ Z) (p q r s : Value) :
    Holds ((((W.setCell ⟨Z, 0, none⟩ p).setCell ⟨Z, 1, none⟩ q).setCell ⟨Z, 2, none⟩ r).setCell ⟨Z, 3, none⟩ s) Z #[p, q, r, s] ∧ Below w.heap.size w ((((W.setCell ⟨Z, 0, none⟩ p).setCell ⟨Z, 1, none⟩ q).setCell ⟨Z, 2, none⟩ r).setCell ⟨Z, 3, none⟩ s) :=
  ⟨by simpa using (((h.set 0 p (by simp)).set 1 q (by simp)).set 2 r (by simp)).set 3 s (by simp), (((hb.setCell hz _).setCell hz _).setCell hz _).setCell hz _⟩
set_option maxRecDepth 100000 in
theorem get_any {S : Nat → Prop} {w : World} {fb : Nat} {fl : Nat → Nat → Fl} (h : FtAt S w fb fl) {p : Nat} (hp : p < 8) (fd : Int) : Calls Tryz.prog 27 #[.pointer (some ⟨fb, 0, none⟩), .int .i64 (p : Int), .int .i64 fd] w (GetP fl p fd w) := by
  have HB : Hid (Below w.heap.size w (w.alloc (.cells #[.int .i64 0, .int .i64 0, .int .i64 0, .int .i64 0] 88))) := Lib.hid ((Below.refl _ _).alloc (Nat.le_refl _) _)
  have HZ := Lib.hid (Holds.new w #[.int .i64 0, .int .i64 0, .int .i64 0, .int .i64 0] 88)
  have HT := Lib.hid (h.below HB.out)
  clear h
  have k0 : (0 : Int) ≤ (p : Int) := by omega
  have k1 : (p : Int) < 8 := by omega
  go_enter Tryz.func27, Tryz.ntmps27
  go_upto_region 1 with fail
  generalize w.alloc (.cells #[.int .i64 0, .int .i64 0, .int .i64 0, .int .i64 0] 88) = W at *
  obtain ⟨Z, hZ⟩ : ∃ Z, w.heap.size = Z := ⟨_, rfl⟩
  have HZZ := Lib.hid hZ
  rw [hZ] at HZ ⊢
  clear hZ
  have z0 : W.cell? ⟨Z, 0, none⟩ = some (.int .i64 0) := HZ.out.cell 0
  have z1 : W.cell? ⟨Z, 1, none⟩ = some (.int .i64 0) := HZ.out.cell 1
  have z2 : W.cell? ⟨Z, 2, none⟩ = some (.int .i64 0) := HZ.out.cell 2
  have z3 : W.cell? ⟨Z, 3, none⟩ = some (.int .i64 0) := HZ.out.cell 3
  have zf := HZ.out.free
  have C1 := check_any HT.out hp fd
  go_wp2_with fail
  refine C1.mono ?_
  rintro e w' ⟨rfl, code, rfl, c0, c1, hc⟩
  have HC := Lib.hid hc
  clear hc C1
  by_cases h0 : code = 0
  · obtain ⟨k, hk, rfl, his⟩ := HC.out.1 h0
    have a := HT.out.at_ hp hk
    have a0 := a.am
    have a1 := a.an
    have a2 := a.flags
    have a3 := a.pos
    have HK := Lib.hid his
    have k2 : (0 : Int) ≤ (k : Int) := by omega
    have k3 : (k : Int) < 8 := by omega
    clear a his
    subst h0
    go_wp2_with fail
    obtain ⟨q1, q2⟩ := quad HZ.out HB.out (by rw [HZZ.out]; exact Nat.le_refl _) (.int .i64 (fl p k).am) (.int .i64 (fl p k).an) (.int .i64 (fl p k).flags) (.int .i64 (fl p k).pos)
    exact bodyPost_ret (file_out (Z := Z) (z := .int .i64 0) rfl rfl rfl q1) rfl ⟨q2, .inr ⟨k, hk, rfl, HK.out, rfl⟩⟩
  · have hcb : (code != 0) = true := by simpa using h0
    go_wp2_with fail
    obtain ⟨q1, q2⟩ := quad HZ.out HB.out (by rw [HZZ.out]; exact Nat.le_refl _) (.int .i64 0) (.int .i64 0) (.int .i64 0) (.int .i64 0)
    exact bodyPost_ret (file_out (Z := Z) (z := .int .i64 code) rfl rfl rfl q1) rfl ⟨q2, .inl ⟨code, h0, c0, c1, rfl⟩⟩
/-- A descriptor is turned, or nothing. -/
def FlP (S : Nat → Prop) (fb : Nat) (fl : Nat → Nat → Fl) (p : Nat) (fd : Int) (x : Nat → Fl) (w w' : World) (ok : Prop) : Prop := Fr S [121] w w' ∧ ((¬ ok ∧ FtAt S w' fb fl) ∨ (ok ∧ ∃ k : Nat, k < 8 ∧ fd = k ∧ (fl p k).is = true ∧ FtAt S w' fb (upd fl p k (x k))))
set_option maxRecDepth 100000 in
theorem seek_any {S : Nat → Prop} {w : World} {fb : Nat} {fl : Nat → Nat → Fl} (h : FtAt S w fb fl) {p : Nat} (hp : p < 8) (fd n : Int) (hn : n ≤ 1125899906842624) : Calls Tryz.prog 55 #[.pointer (some ⟨fb, 0, none⟩), .int .i64 (p : Int), .int .i64 fd, .int .i64 n] w fun e w' => ∃ code : Int, e = .returned (.int .i64 code) ∧ FlP S fb fl p fd (fun k => { fl p k with pos := n }) w w' (code = 0) := by
  have C1 := check_any h hp fd
  have HT := Lib.hid h
  clear h
  have k0 : (0 : Int) ≤ (p : Int) := by omega
  have k1 : (p : Int) < 8 := by omega
  go_enter Tryz.func55, Tryz.ntmps55
  go_wp2_with fail
  refine C1.mono ?_
  rintro e w' ⟨rfl, code, rfl, c0, c1, hc⟩
  have HC := Lib.hid hc
  clear hc C1
  by_cases h0 : code = 0
  · obtain ⟨k, hk, rfl, his⟩ := HC.out.1 h0
    have a := HT.out.at_ hp hk
    have a3 := a.pos
    have af := a.fr
    have HK := Lib.hid his
    have k2 : (0 : Int) ≤ (k : Int) := by omega
    have k3 : (k : Int) < 8 := by omega
    clear a his
    subst h0
    by_cases hneg : n < 0
    · go_wp2_with fail
      go_ret
      exact ⟨39, rfl, Fr.refl _ _ _, .inl ⟨by omega, HT.out⟩⟩
    · have HF := Lib.hid (HT.out.seek hp hk n (by omega) hn)
      go_wp2_with fail
      go_ret
      exact ⟨0, rfl, HF.out.2, .inr ⟨rfl, k, hk, rfl, HK.out, HF.out.1⟩⟩
  · have hcb : (code != 0) = true := by simpa using h0
    go_wp2_with fail
    go_ret
    exact ⟨code, rfl, Fr.refl _ _ _, .inl ⟨h0, HT.out⟩⟩
theorem zero121 : Tryz.zeroCells121 = #[.int .i64 0] ++ (Array.replicate 256 (.int .i64 0) ++ Array.replicate 64 (.bool false)) := by kernel_rfl
theorem FtC.new : FtC (Tryz.zeroCells121.setIfInBounds 0 (.int .i64 64)) (fun _ _ => ⟨false, 0, 0, 0, 0⟩) := by
  have hs : Tryz.zeroCells121.size = 321 := by rw [zero121]; simp
  have i0 : ∀ j, 1 ≤ j → j < 257 → (Tryz.zeroCells121.setIfInBounds 0 (.int .i64 64))[j]? = some (.int .i64 0) := by
    intro j h1 h2
    rw [Array.getElem?_setIfInBounds_ne (by omega), zero121, Array.getElem?_append_right (by simp; omega), Array.getElem?_append_left (by simp; omega), Array.getElem?_replicate, if_pos (by simp; omega)]
  have b0 : ∀ j, 257 ≤ j → j < 321 → (Tryz.zeroCells121.setIfInBounds 0 (.int .i64 64))[j]? = some (.bool false) := by
    intro j h1 h2
    rw [Array.getElem?_setIfInBounds_ne (by omega), zero121, Array.getElem?_append_right (by simp; omega), Array.getElem?_append_right (by simp; omega), Array.getElem?_replicate, if_pos (by simp; omega)]
  refine ⟨by simp [hs], by rw [Array.getElem?_setIfInBounds_self_of_lt (by omega)], fun p k hp hk => i0 _ (by omega) (by omega), fun p k hp hk => i0 _ (by omega) (by omega), fun p k hp hk => i0 _ (by omega) (by omega), fun p k hp hk => i0 _ (by omega) (by omega), fun p k hp hk => b0 _ (by omega) (by omega)⟩
set_option maxRecDepth 100000 in
theorem fnew_any (w : World) : Calls Tryz.prog 19 #[.int .i64 64] w fun e w' => ∃ fb : Nat, e = .returned (.pointer (some ⟨fb, 0, none⟩)) ∧ w.heap.size = fb ∧ Below w.heap.size w w' ∧ FtAt (fun k => k = fb) w' fb (fun _ _ => ⟨false, 0, 0, 0, 0⟩) := by
  go_enter Tryz.func19, Tryz.ntmps19
  go_wp2_with fail
  go_ret
  exact ⟨w.heap.size, rfl, rfl, (Below.refl _ _).alloc (Nat.le_refl _) _, ⟨_, Blk.new _ _ _, FtC.new⟩, rfl, fun p k hp hk => by simp⟩
theorem Fr.newSet {S : Nat → Prop} {T : List TypeId} {a w : World} (h : Fr S T a w) {p : Addr} (hp : a.heap.size ≤ p.block) (v : Value) : Fr S T a (w.setCell p v) :=
  ⟨h.os, h.tape, h.output, by simpa using h.size, fun k hk => by rw [Below.heap_setCell _ _ _ _ (by omega)]; exact h.block k hk⟩
theorem FtAt.otherF {S : Nat → Prop} {w : World} {fb : Nat} {fl : Nat → Nat → Fl} (h : FtAt S w fb fl) {a : Addr} (ha : a.block ≠ fb) (v : Value) : FtAt S (w.setCell a v) fb fl := by
  obtain ⟨cs, hb, hc⟩ := h.blk
  exact ⟨⟨cs, hb.other ha v, hc⟩, h.own, h.rg⟩
/-- What Close does. -/
def CloseP (S : Nat → Prop) (fb : Nat) (fl : Nat → Nat → Fl) (p : Nat) (fd : Int) (w : World) (e : Ending) (w' : World) : Prop := ∃ (v : Value) (code : Int), e = .returned (.tuple #[v, .int .i64 code]) ∧ FlP S fb fl p fd (fun _ => ⟨false, 0, 0, 0, 0⟩) w w' (code = 0) ∧ (code ≠ 0 → ∀ k : Nat, k < 8 → fd = k → (fl p k).is = false)
theorem two_cells {w : World} {Z : Nat} {p q : Value} (h : Holds w Z #[p, q]) : w.cell? ⟨Z, 0, none⟩ = some p ∧ w.cell? ⟨Z, 1, none⟩ = some q ∧ ∀ j, w.frozen? ⟨Z, j, none⟩ = false := ⟨h.cell 0, h.cell 1, h.free⟩
set_option maxRecDepth 100000 in
theorem close_any {S : Nat → Prop} {w : World} {fb : Nat} {fl : Nat → Nat → Fl} (h : FtAt S w fb fl) {p : Nat} (hp : p < 8) (fd : Int) : Calls Tryz.prog 28 #[.pointer (some ⟨fb, 0, none⟩), .int .i64 (p : Int), .int .i64 fd] w (CloseP S fb fl p fd w) := by
  have HB : Hid (Below w.heap.size w (w.alloc (.cells #[.int .i64 0, .int .i64 0] 75))) := Lib.hid ((Below.refl _ _).alloc (Nat.le_refl _) _)
  have HZ := Lib.hid (Holds.new w #[.int .i64 0, .int .i64 0] 75)
  have HT := Lib.hid (h.below HB.out)
  have HFB : Hid (fb < w.heap.size) := Lib.hid (h.at_ (p := 0) (k := 0) (by omega) (by omega)).lt
  clear h
  have k0 : (0 : Int) ≤ (p : Int) := by omega
  have k1 : (p : Int) < 8 := by omega
  go_enter Tryz.func28, Tryz.ntmps28
  go_upto_region 1 with fail
  generalize w.alloc (.cells #[.int .i64 0, .int .i64 0] 75) = W at *
  obtain ⟨Z, hZ⟩ : ∃ Z, w.heap.size = Z := ⟨_, rfl⟩
  have HZZ := Lib.hid hZ
  rw [hZ] at HZ ⊢
  clear hZ
  obtain ⟨z0, z1, zf⟩ := two_cells HZ.out
  have C1 := check_any HT.out hp fd
  go_wp2_with fail
  refine C1.mono ?_
  rintro e w' ⟨rfl, code, rfl, c0, c1, hc⟩
  have HC := Lib.hid hc
  clear hc C1
  by_cases h0 : code = 0
  · obtain ⟨k, hk, rfl, his⟩ := HC.out.1 h0
    have a := HT.out.at_ hp hk
    have a0 := a.am
    have a1 := a.an
    have HK := Lib.hid his
    have k2 : (0 : Int) ≤ (k : Int) := by omega
    have k3 : (k : Int) < 8 := by omega
    have zl := HZ.out.lt
    clear a his
    subst h0
    go_upto_region 5 with fail
    have HT1 := Lib.hid (HT.out.below ((Below.refl w'.heap.size w').alloc (Nat.le_refl _) (.cells #[.int .i64 (fl p k).am, .int .i64 (fl p k).an] 75)))
    have HL := Lib.hid (Holds.new w' #[.int .i64 (fl p k).am, .int .i64 (fl p k).an] 75)
    have HZ1 := Lib.hid (HZ.out.alloc (.cells #[.int .i64 (fl p k).am, .int .i64 (fl p k).an] 75))
    have HB1 := Lib.hid (HB.out.alloc HB.out.size (.cells #[.int .i64 (fl p k).am, .int .i64 (fl p k).an] 75))
    obtain ⟨L, hL⟩ : ∃ L, w'.heap.size = L := ⟨_, rfl⟩
    have HLL : Hid (Z < L ∧ fb < Z) := Lib.hid ⟨by omega, by rw [← HZZ.out]; exact HFB.out⟩
    generalize w'.alloc (.cells #[.int .i64 (fl p k).am, .int .i64 (fl p k).an] 75) = W1 at HT1 HL HZ1 HB1 ⊢
    rw [hL] at HL ⊢
    clear hL a0 a1 z0 z1 zf zl
    have a := HT1.out.at_ hp hk
    have a0 := a.am
    have a1 := a.an
    have a2 := a.flags
    have a3 := a.pos
    have a4 := a.is
    have af := a.fr
    clear a
    obtain ⟨z0, z1, zf⟩ := two_cells HZ1.out
    obtain ⟨l0, l1, lf⟩ := two_cells HL.out
    have nz : ¬ Z = fb := by have := HLL.out; omega
    have nl : ¬ L = fb := by have := HLL.out; omega
    have nz' : ¬ fb = Z := by have := HLL.out; omega
    have nl' : ¬ fb = L := by have := HLL.out; omega
    go_wp2_with fail
    obtain ⟨q1, q2⟩ := HT1.out.put hp hk ⟨false, 0, 0, 0, 0⟩ (by simp [Fl.ok])
    have hz := (((((HZ1.out.other (a := ⟨fb, 257 + p * 8 + k, none⟩) nz' (.bool false)).other (a := ⟨fb, 1 + p * 32 + k * 4, none⟩) nz' (.int .i64 0)).other (a := ⟨fb, 1 + p * 32 + k * 4 + 1, none⟩) nz' (.int .i64 0)).other (a := ⟨fb, 1 + p * 32 + k * 4 + 2, none⟩) nz' (.int .i64 0)).other (a := ⟨fb, 1 + p * 32 + k * 4 + 3, none⟩) nz' (.int .i64 0))
    refine place_ret2 (Z := Z) (z := .int .i64 0) rfl rfl rfl (by simpa using (hz.set 0 (.int .i64 (fl p k).am) (by simp)).set 1 (.int .i64 (fl p k).an) (by simp)) ⟨_, 0, rfl, ⟨?_, .inr ⟨rfl, k, hk, rfl, HK.out, (q1.otherF nz _).otherF nz _⟩⟩, fun h => absurd rfl h⟩
    have hw : w.heap.size ≤ Z := by rw [HZZ.out]; exact Nat.le_refl _
    exact (((Fr.of_below (S := S) HB1.out).trans q2 fun _ h => .inl h).newSet hw _).newSet hw _
  · have hcb : (code != 0) = true := by simpa using h0
    have nz : ¬ Z = fb := by have := HFB.out; have := HZZ.out; omega
    go_wp2_with fail
    obtain ⟨q1, q2⟩ := Mt.at_least HZ.out HB.out (by rw [HZZ.out]; exact Nat.le_refl _) (.int .i64 0) (.int .i64 0)
    refine place_ret2 (Z := Z) (z := .int .i64 code) rfl rfl rfl q1 ⟨_, code, rfl, ⟨Fr.of_below q2, .inl ⟨h0, (HT.out.otherF nz _).otherF nz _⟩⟩, fun h => HC.out.2 h⟩
end Go.Proofs.YtfjghemojnhmbaaGreat
/- Open files: Open. -/
namespace Go.Proofs.YtfjghemojnhmbaaGreat
open Go.RowKit

/-- What Open does. -/
def FOpenP (S : Nat → Prop) (fb : Nat) (fl : Nat → Nat → Fl) (p : Nat) (am an flags : Int) (w : World) (e : Ending) (w' : World) : Prop := ∃ (k : Nat) (code : Int), k ≤ 8 ∧ e = .returned (.tuple #[.int .i64 (k : Int), .int .i64 code]) ∧ Fr S [121] w w' ∧
  ((code ≠ 0 ∧ FtAt S w' fb fl) ∨ (code = 0 ∧ k < 8 ∧ (fl p k).is = false ∧ FtAt S w' fb (upd fl p k ⟨true, am, an, flags, 0⟩)))
set_option maxRecDepth 100000 in
set_option maxHeartbeats 1000000 in
theorem fopen_any {S : Nat → Prop} {w : World} {fb : Nat} {fl : Nat → Nat → Fl} (h : FtAt S w fb fl) {p : Nat} (hp : p < 8) (am an flags : Int) (m0 : 0 ≤ am) (m1 : am ≤ 1000000) (n0 : 0 ≤ an) (n1 : an ≤ 1000000) :
    Calls Tryz.prog 51 #[.pointer (some ⟨fb, 0, none⟩), .int .i64 (p : Int), .agg #[.int .i64 am, .int .i64 an], .int .i64 flags] w (FOpenP S fb fl p am an flags w) := by
  have HB : Hid (Below w.heap.size w (w.alloc (.cells #[.int .i64 am, .int .i64 an] 75))) := Lib.hid ((Below.refl _ _).alloc (Nat.le_refl _) _)
  have HP := Lib.hid (Holds.new w #[.int .i64 am, .int .i64 an] 75)
  have HT := Lib.hid (h.below HB.out)
  have HFB : Hid (fb < w.heap.size) := Lib.hid (h.at_ (p := 0) (k := 0) (by omega) (by omega)).lt
  clear h
  have k0 : (0 : Int) ≤ (p : Int) := by omega
  have k1 : (p : Int) < 8 := by omega
  go_enter Tryz.func51, Tryz.ntmps51
  go_upto_region 1 with fail
  generalize w.alloc (.cells #[.int .i64 am, .int .i64 an] 75) = W at *
  obtain ⟨P, hP⟩ : ∃ P, w.heap.size = P := ⟨_, rfl⟩
  have HPP := Lib.hid hP
  rw [hP] at HP ⊢
  clear hP
  have C1 := room_any HT.out hp
  go_wp2_with fail
  refine C1.mono ?_
  rintro e w1 ⟨code, rfl, c0, c1, hd⟩
  have H1 : Hid (Below w.heap.size w w1 ∧ FtAt S w1 fb fl ∧ Holds w1 P #[.int .i64 am, .int .i64 an]) := Lib.hid ⟨HB.out.trans (hd.below.mono HB.out.size), HT.out.below hd.below, HP.out.below hd.below⟩
  clear hd C1
  by_cases h0 : code = 0
  case neg =>
    have hcb : (code != 0) = true := by simpa using h0
    go_wp2_with fail
    go_ret2
    exact ⟨0, code, by omega, rfl, Fr.of_below H1.out.1, .inl ⟨h0, H1.out.2.1⟩⟩
  subst h0
  go_wp2_with fail
  go_loopw [11] (fun kv wz => ∃ k : Nat, k ≤ 8 ∧ kv = .int .i64 k ∧ wz = w1) (fun kv _ => 8 - (intOf kv).toNat)
  case atStart => exact ⟨0, by omega, rfl, rfl⟩
  case round =>
    obtain ⟨k, hk, rfl, rfl⟩ := hrel
    by_cases hlt2 : k < 8
    · have a := H1.out.2.1.at_ hp hlt2
      have a0 := a.am
      have a1 := a.an
      have a2 := a.flags
      have a3 := a.pos
      have a4 := a.is
      have af := a.fr
      clear a
      have k2 : (0 : Int) ≤ (k : Int) := by omega
      have k3 : (k : Int) < 8 := by omega
      rcases hq : (fl p k).is with _ | _
      · rw [hq] at a4
        have HQ := Lib.hid hq
        clear hq
        obtain ⟨p0, p1, pf⟩ := two_cells H1.out.2.2
        have np : ¬ P = fb := by have := HFB.out; have := HPP.out; omega
        have np' : ¬ fb = P := by have := HFB.out; have := HPP.out; omega
        have HF := Lib.hid (H1.out.2.1.put hp hlt2 ⟨true, am, an, flags, 0⟩ ⟨m0, m1, n0, n1, by simp, by simp⟩)
        go_upto_region 9 with fail
        go_region
        go_wp2_with fail
        go_ret2
        exact ⟨k, 0, by omega, rfl, ((Fr.of_below (S := S) H1.out.1).trans HF.out.2 fun _ h => .inl h).drew, .inr ⟨rfl, hlt2, HQ.out, HF.out.1.below (Below.refl _ _).drew⟩⟩
      · rw [hq] at a4
        clear hq
        go_wp2_with fail
        go_roundw
        case rel => exact ⟨k + 1, by omega, by go_num, by first | trivial | rfl⟩
        case measure => simp [intOf]; omega
    · obtain rfl : k = 8 := by omega
      go_wp2_with fail
      go_ret2
      exact ⟨0, 41, by omega, rfl, Fr.of_below H1.out.1, .inl ⟨by omega, H1.out.2.1⟩⟩
end Go.Proofs.YtfjghemojnhmbaaGreat
