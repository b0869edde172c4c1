/- Chapter 1's memory of cells: what its small functions compute. -/
import Derived.Test.YtmhmgenchpemkaaProg
import Derived.Test.YtmhmgenchpemkaaKit
import Derived.WalkKit
import Derived.WalkSpells
import Derived.Outline
import Derived.Handy
import Derived.Lib.Hide
import Derived.Deep.OwnRows
import Derived.Deep.LoopGhost
namespace Go.Proofs.Ytmhmgenchpemkaa
open Go.RowKit

/-- A memory as the program holds it, and the reference's too. -/
structure MS where
  ws : List Int
  st : Int
  lk : Int
  la : Int
  lo : Int
  ln : Int
  ld : Bool

def MS.cells (s : MS) (c : Nat) : Array Value :=
  #[.slice (some ⟨c, 0, none⟩) s.ws.length s.ws.length, .int .i64 s.st, .int .i64 s.lk, .int .i64 s.la, .int .i64 s.lo, .int .i64 s.ln, .bool s.ld]
def ints (l : List Int) : Array Value := (l.map (Value.int .i64)).toArray

structure IsMem (w : World) (b c : Nat) (s : MS) : Prop where
  hb : Holds w b (s.cells c)
  hc : Holds w c (ints s.ws)
  ne : b ≠ c
  le : s.ws.length ≤ 64

/-- One access: the cell i holds v from now on. -/
def MS.acc (s : MS) (kind : Int) (i : Nat) (v : Int) (done : Bool) : MS :=
  { ws := s.ws.set i v, st := wrap64 (s.st + 1), lk := kind, la := i, lo := s.ws.getD i 0, ln := v, ld := done }

theorem ints_get (l : List Int) (i : Nat) (h : i < l.length) : (ints l)[i]? = some (.int .i64 (l.getD i 0)) := by
  simp [ints, List.getElem?_eq_getElem h]
theorem ints_set (l : List Int) (i : Nat) (v : Int) : (ints l).setIfInBounds i (.int .i64 v) = ints (l.set i v) := by
  simp [ints, List.map_set]
theorem ints_size (l : List Int) : (ints l).size = l.length := by simp [ints]

theorem IsMem.frm {w w' : World} {b c : Nat} {s : MS} {l : List Nat} (h : IsMem w b c s) (hf : Frm l w w') (hb : b ∉ l) (hc : c ∉ l) : IsMem w' b c s :=
  ⟨h.hb.frm hf hb, h.hc.frm hf hc, h.ne, h.le⟩

theorem has_any (b c : Nat) (s : MS) (i : Int) (w : World) (h : IsMem w b c s) (r : Bool) (hr : decide (0 ≤ i ∧ i < s.ws.length) = r) :
    Calls Try.prog 38 #[.pointer (some ⟨b, 0, none⟩), .int .i64 i] w fun e w' => e = .returned (.bool r) ∧ w = w' := by
  obtain ⟨⟨h1, h2, h3⟩, _, _, _⟩ := h
  simp only [MS.cells] at h1
  by_cases h0 : 0 ≤ i
  · by_cases hl : i < s.ws.length
    · have hd : decide (0 ≤ i) = true := by simpa using h0
      obtain rfl : true = r := by rw [← hr]; simp [h0, hl]
      go_enter Try.func38, Try.ntmps38
      go_wp2
      go_ret
      exact ⟨rfl, rfl⟩
    · have hd : decide (0 ≤ i) = true := by simpa using h0
      obtain rfl : false = r := by rw [← hr]; simp; omega
      go_enter Try.func38, Try.ntmps38
      go_wp2
      go_ret
      exact ⟨by simp, rfl⟩
  · have hd : decide (0 ≤ i) = false := by simpa using h0
    obtain rfl : false = r := by rw [← hr]; simp; omega
    go_enter Try.func38, Try.ntmps38
    go_wp2
    go_ret
    exact ⟨rfl, rfl⟩

theorem access_any (b c : Nat) (s : MS) (kind : Int) (i : Nat) (v : Int) (done : Bool) (w : World) (h : IsMem w b c s) (hi : i < s.ws.length) :
    Calls Try.prog 39 #[.pointer (some ⟨b, 0, none⟩), .int .i64 kind, .int .i64 i, .int .i64 v, .bool done] w fun e w' => e = .returned (.tuple #[]) ∧ IsMem w' b c (s.acc kind i v done) ∧ Frm [b, c] w w' := by
  have H := Lib.hid h
  have hci : w.cell? ⟨c, i, none⟩ = some (.int .i64 (s.ws.getD i 0)) := (h.hc.cell i).trans (ints_get _ _ hi)
  obtain ⟨x, hx⟩ : ∃ x, s.ws.getD i 0 = x := ⟨_, rfl⟩
  have HX := Lib.hid hx
  rw [hx] at hci
  clear hx
  obtain ⟨⟨h1, h2, h3⟩, ⟨_, k2, k3⟩, hne, hle⟩ := h
  have hne' := hne.symm
  simp only [MS.cells] at h1
  have hk0 : (0 : Int) ≤ (i : Int) := by omega
  have hk1 : (i : Int) < (s.ws.length : Int) := by omega
  go_enter Try.func39, Try.ntmps39
  go_wp2
  go_end0
  refine ⟨rfl, ⟨?_, ?_, hne, ?_⟩, ?_⟩
  · have := ((((((H.out.hb.set 1 (.int .i64 (wrap64 (s.st + 1))) (by simp [MS.cells])).set 2 (.int .i64 kind) (by simp [MS.cells])).set 3 (.int .i64 i) (by simp [MS.cells])).set 4 (.int .i64 x) (by simp [MS.cells])).set 5 (.int .i64 v) (by simp [MS.cells])).set 6 (.bool done) (by simp [MS.cells])).other (a := ⟨c, i, none⟩) hne' (.int .i64 v)
    rw [← HX.out] at this ⊢
    simpa [MS.cells, MS.acc] using this
  · have := ((((((H.out.hc.other (a := ⟨b, 1, none⟩) hne (.int .i64 (wrap64 (s.st + 1)))).other (a := ⟨b, 2, none⟩) hne (.int .i64 kind)).other (a := ⟨b, 3, none⟩) hne (.int .i64 i)).other (a := ⟨b, 4, none⟩) hne (.int .i64 x)).other (a := ⟨b, 5, none⟩) hne (.int .i64 v)).other (a := ⟨b, 6, none⟩) hne (.bool done)).set i (.int .i64 v) (by rw [ints_size]; exact hi)
    rw [ints_set] at this
    exact this
  · simpa [MS.acc] using hle
  · exact (((((((Frm.refl [b, c] w).setCell (by simp) _).setCell (by simp) _).setCell (by simp) _).setCell (by simp) _).setCell (by simp) _).setCell (by simp) _).setCell (by simp) _

/-- What a load, a store, a swap answer, and the memory behind them. -/
def MS.load (s : MS) (i : Int) : Int × Int × MS := if 0 ≤ i ∧ i < s.ws.length then (s.ws.getD i.toNat 0, 0, s.acc 1 i.toNat (s.ws.getD i.toNat 0) true) else (0, 1, s)
def MS.store (s : MS) (i v : Int) : Int × MS := if 0 ≤ i ∧ i < s.ws.length then (0, s.acc 2 i.toNat v true) else (1, s)
def MS.swap (s : MS) (i old next : Int) : Bool × Int × MS :=
  if 0 ≤ i ∧ i < s.ws.length then if s.ws.getD i.toNat 0 = old then (true, 0, s.acc 3 i.toNat next true) else (false, 0, s.acc 3 i.toNat (s.ws.getD i.toNat 0) false) else (false, 1, s)

theorem load_any (b c : Nat) (s : MS) (i : Int) (w : World) (h : IsMem w b c s) :
    Calls Try.prog 44 #[.pointer (some ⟨b, 0, none⟩), .int .i64 i] w fun e w' => e = .returned (.tuple #[.int .i64 (s.load i).1, .int .i64 (s.load i).2.1]) ∧ IsMem w' b c (s.load i).2.2 ∧ Frm [b, c] w w' := by
  by_cases hin : 0 ≤ i ∧ i < s.ws.length
  · have e : s.load i = (s.ws.getD i.toNat 0, 0, s.acc 1 i.toNat (s.ws.getD i.toNat 0) true) := by rw [MS.load, if_pos hin]
    rw [e]
    clear e
    obtain ⟨k, rfl⟩ := Int.eq_ofNat_of_zero_le hin.1
    have hk : k < s.ws.length := by omega
    rw [Int.toNat_natCast]
    have H := Lib.hid h
    have hci : w.cell? ⟨c, k, none⟩ = some (.int .i64 (s.ws.getD k 0)) := (h.hc.cell k).trans (ints_get _ _ hk)
    obtain ⟨x, hx⟩ : ∃ x, s.ws.getD k 0 = x := ⟨_, rfl⟩
    have HX := Lib.hid hx
    rw [hx] at hci
    rw [hx]
    clear hx
    have h1 := h.hb.1
    simp only [MS.cells] at h1
    have hk0 : (0 : Int) ≤ (k : Int) := by omega
    have hk1 : (k : Int) < (s.ws.length : Int) := by omega
    clear hin h
    go_enter Try.func44, Try.ntmps44
    go_wp2_with fail
    refine (has_any b c s k w H.out true (by simp; omega)).mono ?_
    rintro e w' ⟨rfl, rfl⟩
    go_wp2_with fail
    refine (access_any b c s 1 k x true w H.out hk).mono ?_
    rintro e w1 ⟨rfl, hm, hf⟩
    have M := Lib.hid hm
    have hci : w1.cell? ⟨c, k, none⟩ = some (.int .i64 x) := by
      have := (hm.hc.cell k).trans (ints_get _ _ (by simpa [MS.acc] using hk))
      rw [this]; simp [MS.acc, hk]
    have h1' := hm.hb.1
    simp only [MS.cells, MS.acc, List.length_set] at h1'
    clear hm h1
    go_wp2_with fail
    go_ret2
    exact ⟨rfl, M.out, hf⟩
  · have e : s.load i = (0, 1, s) := by rw [MS.load, if_neg hin]
    rw [e]
    clear e
    go_enter Try.func44, Try.ntmps44
    go_wp2_with fail
    refine (has_any b c s i w h false (by simpa using hin)).mono ?_
    rintro e w' ⟨rfl, rfl⟩
    go_wp2_with fail
    go_ret2
    exact ⟨rfl, h, Frm.refl _ _⟩

theorem store_any (b c : Nat) (s : MS) (i v : Int) (w : World) (h : IsMem w b c s) :
    Calls Try.prog 26 #[.pointer (some ⟨b, 0, none⟩), .int .i64 i, .int .i64 v] w fun e w' => e = .returned (.int .i64 (s.store i v).1) ∧ IsMem w' b c (s.store i v).2 ∧ Frm [b, c] w w' := by
  by_cases hin : 0 ≤ i ∧ i < s.ws.length
  · have e : s.store i v = (0, s.acc 2 i.toNat v true) := by rw [MS.store, if_pos hin]
    rw [e]
    clear e
    obtain ⟨k, rfl⟩ := Int.eq_ofNat_of_zero_le hin.1
    have hk : k < s.ws.length := by omega
    rw [Int.toNat_natCast]
    go_enter Try.func26, Try.ntmps26
    go_wp2_with fail
    refine (has_any b c s k w h true (by simp; omega)).mono ?_
    rintro e w' ⟨rfl, rfl⟩
    go_wp2_with fail
    refine (access_any b c s 2 k v true w h hk).mono ?_
    rintro e w1 ⟨rfl, hm, hf⟩
    go_wp2_with fail
    go_ret
    exact ⟨rfl, hm, hf⟩
  · have e : s.store i v = (1, s) := by rw [MS.store, if_neg hin]
    rw [e]
    clear e
    go_enter Try.func26, Try.ntmps26
    go_wp2_with fail
    refine (has_any b c s i w h false (by simpa using hin)).mono ?_
    rintro e w' ⟨rfl, rfl⟩
    go_wp2_with fail
    go_ret
    exact ⟨rfl, h, Frm.refl _ _⟩

theorem swap_any (b c : Nat) (s : MS) (i old next : Int) (w : World) (h : IsMem w b c s) :
    Calls Try.prog 42 #[.pointer (some ⟨b, 0, none⟩), .int .i64 i, .int .i64 old, .int .i64 next] w fun e w' => e = .returned (.tuple #[.bool (s.swap i old next).1, .int .i64 (s.swap i old next).2.1]) ∧ IsMem w' b c (s.swap i old next).2.2 ∧ Frm [b, c] w w' := by
  by_cases hin : 0 ≤ i ∧ i < s.ws.length
  · have e : s.swap i old next = if s.ws.getD i.toNat 0 = old then (true, 0, s.acc 3 i.toNat next true) else (false, 0, s.acc 3 i.toNat (s.ws.getD i.toNat 0) false) := by rw [MS.swap, if_pos hin]
    rw [e]
    clear e
    obtain ⟨k, rfl⟩ := Int.eq_ofNat_of_zero_le hin.1
    have hk : k < s.ws.length := by omega
    rw [Int.toNat_natCast]
    have H := Lib.hid h
    have hci : w.cell? ⟨c, k, none⟩ = some (.int .i64 (s.ws.getD k 0)) := (h.hc.cell k).trans (ints_get _ _ hk)
    obtain ⟨x, hx⟩ : ∃ x, s.ws.getD k 0 = x := ⟨_, rfl⟩
    have HX := Lib.hid hx
    rw [hx] at hci
    rw [hx]
    clear hx
    have h1 := h.hb.1
    simp only [MS.cells] at h1
    have hk0 : (0 : Int) ≤ (k : Int) := by omega
    have hk1 : (k : Int) < (s.ws.length : Int) := by omega
    clear hin h
    by_cases hx : x = old
    · subst hx
      rw [if_pos rfl]
      go_enter Try.func42, Try.ntmps42
      go_wp2_with fail
      refine (has_any b c s k w H.out true (by simp; omega)).mono ?_
      rintro e w' ⟨rfl, rfl⟩
      go_wp2_with fail
      refine (access_any b c s 3 k next true w H.out hk).mono ?_
      rintro e w1 ⟨rfl, hm, hf⟩
      go_wp2_with fail
      go_ret2
      exact ⟨rfl, hm, hf⟩
    · rw [if_neg hx]
      have hx' : (x != old) = true := by simpa using hx
      go_enter Try.func42, Try.ntmps42
      go_wp2_with fail
      refine (has_any b c s k w H.out true (by simp; omega)).mono ?_
      rintro e w' ⟨rfl, rfl⟩
      go_wp2_with fail
      refine (access_any b c s 3 k x false w H.out hk).mono ?_
      rintro e w1 ⟨rfl, hm, hf⟩
      go_wp2_with fail
      go_ret2
      exact ⟨rfl, hm, hf⟩
  · have e : s.swap i old next = (false, 1, s) := by rw [MS.swap, if_neg hin]
    rw [e]
    clear e
    go_enter Try.func42, Try.ntmps42
    go_wp2_with fail
    refine (has_any b c s i w h false (by simpa using hin)).mono ?_
    rintro e w' ⟨rfl, rfl⟩
    go_wp2_with fail
    go_ret2
    exact ⟨rfl, h, Frm.refl _ _⟩
end Go.Proofs.Ytmhmgenchpemkaa
