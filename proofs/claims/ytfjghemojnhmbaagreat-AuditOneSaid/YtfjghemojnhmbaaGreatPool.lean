/- The pool of files: what is read. -/
import Derived.Test.YtfjghemojnhmbaaGreatProg
import Derived.Test.YtfjghemojnhmbaaGreatPath
namespace Go.Proofs.YtfjghemojnhmbaaGreat
open Go.RowKit

/-- Files by their numbers. -/
structure PoolAt (S : Nat → Prop) (w : World) (p c : Nat) (B : Int) (v : Value) (n : Nat) (xs : List Value) : Prop where
  blk : Blk w p 142 #[.int .i64 B, v]
  own : S p
  b0 : 0 ≤ B
  b1 : B ≤ 256
  row : Win w 0 189 1 v n xs
  rowS : ∀ k, v.ownBlock = some k → S k
  le : n ≤ c
  ok : ∀ x ∈ xs, x = .pointer none ∨ ∃ f, x = .pointer (some ⟨f, 0, none⟩) ∧ FileOk S w f
def PoolOk (S : Nat → Prop) (w : World) (p c : Nat) : Prop := ∃ B v n xs, PoolAt S w p c B v n xs
theorem PoolAt.cell {S : Nat → Prop} {w : World} {p c : Nat} {B : Int} {v : Value} {n : Nat} {xs : List Value} (h : PoolAt S w p c B v n xs) : w.cell? ⟨p, 0, none⟩ = some (.int .i64 B) ∧ w.cell? ⟨p, 1, none⟩ = some v := ⟨h.blk.cell 0, h.blk.cell 1⟩
theorem PoolAt.entry {S : Nat → Prop} {w : World} {p c : Nat} {B : Int} {v : Value} {n : Nat} {xs : List Value} (h : PoolAt S w p c B v n xs) {i : Nat} (hi : i < n) :
    ∃ f o cap x, v = .slice (some ⟨f, o, none⟩) n cap ∧ w.cell? ⟨f, o + i, none⟩ = some x ∧ (x = .pointer none ∨ ∃ f, x = .pointer (some ⟨f, 0, none⟩) ∧ FileOk S w f) := by
  obtain ⟨f, o, cap, rfl⟩ := h.row.form (by omega)
  have hl := h.row.1
  refine ⟨f, o, cap, xs[i]'(by omega), rfl, ?_, h.ok _ (List.getElem_mem _)⟩
  rw [h.row.cells i (by omega), List.getElem?_eq_getElem (by omega)]
/-- What 'of' answers. -/
def OfPost (S : Nat → Prop) (w : World) (e : Ending) (w' : World) : Prop := ∃ r, e = .returned r ∧ w' = w ∧ (r = .pointer none ∨ ∃ g, r = .pointer (some ⟨g, 0, none⟩) ∧ FileOk S w g)
theorem OfPost.mk {S : Nat → Prop} {w : World} {r : Value} (h : r = .pointer none ∨ ∃ g, r = .pointer (some ⟨g, 0, none⟩) ∧ FileOk S w g) : OfPost S w (.returned r) w := ⟨r, rfl, rfl, h⟩
set_option maxRecDepth 100000 in
theorem of_any (S : Nat → Prop) (w : World) (p c : Nat) (hp : PoolOk S w p c) (_hc : c ≤ 1000000) (f : Int) (f0 : -9223372036854775808 ≤ f) (f1 : f ≤ 9223372036854775807) : Calls Tryz.prog 113 #[.pointer (some ⟨p, 0, none⟩), .int .i64 f] w (OfPost S w) := by
  obtain ⟨B, v, n, xs, h⟩ := hp
  obtain ⟨p0, p1⟩ := h.cell
  obtain ⟨va, vc, hv⟩ := h.row.value
  have hle := h.le
  go_enter Tryz.func113, Tryz.ntmps113
  subst hv
  by_cases h1 : f < 1
  · go_wp2_with fail
    go_ret
    exact .mk (.inl rfl)
  by_cases h2 : (n : Int) < f
  · go_wp2_with fail
    go_ret
    exact .mk (.inl rfl)
  obtain ⟨i, hi⟩ : ∃ i : Nat, f = (i : Int) + 1 := ⟨(f - 1).toNat, by omega⟩
  subst hi
  have hin : i < n := by omega
  obtain ⟨g, o, cap, x, hs, hx, hok⟩ := h.entry hin
  cases hs
  have HX := Lib.hid hok
  clear hok
  have k1 : ¬ (i : Int) + 1 < 1 := by omega
  have k2 : (i : Int) < (n : Int) := by omega
  have k3 : (0 : Int) ≤ (i : Int) := by omega
  go_wp2_with fail
  go_ret
  exact .mk HX.out

/-- Some number between two. -/
def IntP (lo hi : Int) (w : World) (e : Ending) (w' : World) : Prop := ∃ n : Int, e = .returned (.int .i64 n) ∧ w' = w ∧ lo ≤ n ∧ n ≤ hi
theorem IntP.mk {lo hi n : Int} {w : World} (h0 : lo ≤ n) (h1 : n ≤ hi) : IntP lo hi w (.returned (.int .i64 n)) w := ⟨n, rfl, rfl, h0, h1⟩
theorem FileOk.has {S : Nat → Prop} {w : World} {g : Nat} (h : FileOk S w g) {j : Nat} (h0 : 1 ≤ j) (h1 : j < 65) : ∃ b, w.cell? ⟨g, j, none⟩ = some (.bool b) := by
  obtain ⟨cur, v, n, h1, h2, h3, h4, h5, h6, h7⟩ := h
  obtain ⟨b, hb⟩ := h7 j h0 (by omega)
  exact ⟨b, (h1.cell j).trans hb⟩
set_option maxRecDepth 100000 in
theorem used_any (S : Nat → Prop) (w : World) (g : Nat) (h : FileOk S w g) : Calls Tryz.prog 124 #[.pointer (some ⟨g, 0, none⟩)] w (IntP 0 64 w) := by
  have HH := Lib.hid h
  clear h
  go_enter Tryz.func124, Tryz.ntmps124
  go_wp2_with fail
  go_loopw [4, 3] (fun iv nv wr => ∃ i n : Nat, i ≤ 64 ∧ n ≤ i ∧ iv = .int .i64 i ∧ nv = .int .i64 n ∧ wr = w) (fun iv _ _ => 64 - (intOf iv).toNat)
  case atStart => exact ⟨0, 0, by omega, by omega, rfl, rfl, rfl⟩
  case round =>
    obtain ⟨i, n, hi, hn, rfl, rfl, rfl⟩ := hrel
    by_cases hlt : i < 64
    · obtain ⟨b, hb⟩ := HH.out.has (j := 1 + i) (by omega) (by omega)
      have k0 : (0 : Int) ≤ (i : Int) := by omega
      have k1 : (i : Int) < 64 := by omega
      cases b
      · go_wp2_with fail
        go_roundw
        case rel => exact ⟨i + 1, n, by omega, by omega, by go_num, rfl, by first | trivial | rfl⟩
        case measure => simp [intOf]; omega
      · go_wp2_with fail
        go_roundw
        case rel => exact ⟨i + 1, n + 1, by omega, by omega, by go_num, by go_num, by first | trivial | rfl⟩
        case measure => simp [intOf]; omega
    · obtain rfl : i = 64 := by omega
      go_wp2_with fail
      go_ret
      exact .mk (by omega) (by omega)
theorem FileOk.bytes {S : Nat → Prop} {w : World} {g : Nat} (h : FileOk S w g) : ∃ a n cap, w.cell? ⟨g, 0, none⟩ = some (.slice a n cap) ∧ ByteV S w (.slice a n cap) n ∧ n ≤ 1024 := by
  obtain ⟨cur, v, n, h1, h2, h3, h4, h5, h6, h7⟩ := h
  obtain ⟨a, cap, rfl⟩ := h5.value
  exact ⟨a, n, cap, (h1.cell 0).trans h4, h5, h6⟩
set_option maxRecDepth 100000 in
theorem size_any (S : Nat → Prop) (w : World) (p c : Nat) (hp : PoolOk S w p c) (hc : c ≤ 1000000) (f : Int) (f0 : -9223372036854775808 ≤ f) (f1 : f ≤ 9223372036854775807) : Calls Tryz.prog 116 #[.pointer (some ⟨p, 0, none⟩), .int .i64 f] w (IntP 0 1024 w) := by
  have C1 := of_any S w p c hp hc f f0 f1
  go_enter Tryz.func116, Tryz.ntmps116
  go_wp2_with fail
  refine C1.mono ?_
  rintro e w' ⟨r, rfl, rfl, rfl | ⟨g, rfl, hg⟩⟩
  · go_wp2_with fail
    go_ret
    exact .mk (by omega) (by omega)
  · obtain ⟨a, n, cap, h1, h2, h3⟩ := hg.bytes
    have h4 := Lib.hid h3
    clear hg h2 h3
    go_wp2_with fail
    go_ret
    have := h4.out
    exact .mk (by omega) (by omega)
set_option maxRecDepth 100000 in
theorem left_any (S : Nat → Prop) (w : World) (p c : Nat) (hp : PoolOk S w p c) (hc : c ≤ 1000000) : Calls Tryz.prog 117 #[.pointer (some ⟨p, 0, none⟩)] w (IntP (-64000000) 256 w) := by
  obtain ⟨B, v, n, xs, h⟩ := hp
  obtain ⟨p0, p1⟩ := h.cell
  obtain ⟨va, vc, rfl⟩ := h.row.value
  have hle := h.le
  have b0 := h.b0
  have b1 := h.b1
  have HH := Lib.hid h
  clear h
  go_enter Tryz.func117, Tryz.ntmps117
  go_wp2_with fail
  go_loopw [4, 3] (fun iv nv wr => ∃ (i : Nat) (m : Int), i ≤ n ∧ m ≤ 256 ∧ -64 * (i : Int) ≤ m ∧ iv = .int .i64 i ∧ nv = .int .i64 m ∧ wr = w) (fun iv _ _ => n - (intOf iv).toNat)
  case atStart => exact ⟨0, B, by omega, by omega, by omega, rfl, rfl, rfl⟩
  case round =>
    obtain ⟨i, m, hi, hm, hm2, rfl, rfl, rfl⟩ := hrel
    by_cases hlt : i < n
    · obtain ⟨g, o, cap, x, hs, hx, hok⟩ := HH.out.entry hlt
      cases hs
      have k0 : (0 : Int) ≤ (i : Int) := by omega
      have k1 : (i : Int) < (n : Int) := by omega
      rcases hok with rfl | ⟨F, rfl, hF⟩
      · go_wp2_with fail
        go_roundw
        case rel => exact ⟨i + 1, m, by omega, by omega, by omega, by go_num, rfl, by first | trivial | rfl⟩
        case measure => simp [intOf]; omega
      · have C1 := used_any S wr F hF
        clear hF
        go_wp2_with fail
        refine C1.mono ?_
        rintro e w' ⟨u, rfl, rfl, u0, u1⟩
        go_wp2_with fail
        go_roundw
        case rel => exact ⟨i + 1, m - u, by omega, by omega, by omega, by go_num, by go_num, by first | trivial | rfl⟩
        case measure => simp [intOf]; omega
    · obtain rfl : i = n := by omega
      have k1 : ¬ (i : Int) < (i : Int) := by omega
      go_wp2_with fail
      go_ret
      exact .mk (by omega) (by omega)
end Go.Proofs.YtfjghemojnhmbaaGreat
/- The pool of files: Drop, Make. -/
namespace Go.Proofs.YtfjghemojnhmbaaGreat
open Go.RowKit

theorem Win.blk {w : World} {base : Nat} {e : TypeId} {size f o cap n : Nat} {xs : List Value} (h : Win w base e size (.slice (some ⟨f, o, none⟩) n cap) n xs) : ∃ cur, Blk w f e cur := by
  obtain ⟨h1, h2 | ⟨f', o', cap', cur, h3, h4, h5, _⟩⟩ := h
  · cases h2.1
  · cases h3; exact ⟨cur, h5⟩
theorem Win.set1 {w : World} {base : Nat} {e : TypeId} {f o cap n i : Nat} {xs : List Value} (h : Win w base e 1 (.slice (some ⟨f, o, none⟩) n cap) n xs) (hi : i < n) (x : Value) : Win (w.setCell ⟨f, o + i, none⟩ x) base e 1 (.slice (some ⟨f, o, none⟩) n cap) n (xs.set i x) := by
  obtain ⟨h1, h2 | ⟨f', o', cap', cur, h3, h4, h5, h6, h7, h8, h9⟩⟩ := h
  · cases h2.1
  · cases h3
    refine ⟨by simpa using h1, .inr ⟨f, o, cap, _, rfl, h4, Blk.set h5 (o + i) x, h6, h7, by simpa using h8, fun j hj => ?_⟩⟩
    by_cases hij : i = j
    · subst hij
      rw [List.getElem?_set_self (by omega), Array.getElem?_setIfInBounds_self_of_lt (by omega)]
    · rw [List.getElem?_set_ne hij, Array.getElem?_setIfInBounds_ne (by omega)]
      exact h9 j hj
theorem PoolAt.kf {S S' S0 : Nat → Prop} {T : List TypeId} {w w' : World} {p c : Nat} {B : Int} {v : Value} {n : Nat} {xs : List Value} (h : PoolAt S w p c B v n xs) (k : KF S S' w w') (hs : ∀ k, S k → S' k) (hf : Fr S0 T w w') (h1 : 142 ∉ T) (h2 : 189 ∉ T) : PoolAt S' w' p c B v n xs := by
  refine ⟨h.blk.fr hf h1, hs p h.own, h.b0, h.b1, h.row.kept ?_, fun i hi => hs i (h.rowS i hi), h.le, fun x hx => (h.ok x hx).imp id fun ⟨f, q1, q2⟩ => ⟨f, q1, k.2 f q2⟩⟩
  intro i hi
  obtain ⟨_, q | ⟨f, o, cap, cur, q1, q2, q3, _⟩⟩ := h.row
  · rw [q.1] at hi; cases hi
  · rw [q1] at hi; cases hi
    exact (hf.keepT q3 h2).trans q3.symm
theorem PoolOk.kf {S S' S0 : Nat → Prop} {T : List TypeId} {w w' : World} {p c : Nat} (h : PoolOk S w p c) (k : KF S S' w w') (hs : ∀ k, S k → S' k) (hf : Fr S0 T w w') (h1 : 142 ∉ T) (h2 : 189 ∉ T) : PoolOk S' w' p c := by
  obtain ⟨B, v, n, xs, h⟩ := h
  exact ⟨B, v, n, xs, h.kf k hs hf h1 h2⟩
/-- The types that the pool's functions turn. -/
abbrev PT : List TypeId := [5, 189, 195, 142]
/-- A step of the pool. -/
def PStep (S : Nat → Prop) (p c : Nat) (lo hi : Int) (w : World) (e : Ending) (w' : World) : Prop := ∃ (n : Int) (S' : Nat → Prop), e = .returned (.int .i64 n) ∧ lo ≤ n ∧ n ≤ hi ∧ (∀ k, S k → S' k) ∧ (∀ k, S' k → S k ∨ w.heap.size ≤ k) ∧ KF S S' w w' ∧ Fr S PT w w' ∧ PoolOk S' w' p c
theorem PStep.same {S : Nat → Prop} {p c : Nat} {lo hi n : Int} {w : World} (h : PoolOk S w p c) (h0 : lo ≤ n) (h1 : n ≤ hi) : PStep S p c lo hi w (.returned (.int .i64 n)) w := ⟨n, S, rfl, h0, h1, fun _ h => h, fun _ h => .inl h, KF.refl S w, Fr.refl S PT w, h⟩
/-- What 'of' answers, more: a number that it knows. -/
def OfPost2 (S : Nat → Prop) (w : World) (f : Int) (n : Nat) (e : Ending) (w' : World) : Prop := ∃ r, e = .returned r ∧ w' = w ∧ (r = .pointer none ∨ (1 ≤ f ∧ f ≤ n ∧ ∃ g, r = .pointer (some ⟨g, 0, none⟩) ∧ FileOk S w g))
set_option maxRecDepth 100000 in
theorem of_any2 (S : Nat → Prop) (w : World) (p c : Nat) {B : Int} {v : Value} {n : Nat} {xs : List Value} (h : PoolAt S w p c B v n xs) (_hc : c ≤ 1000000) (f : Int) (f0 : -9223372036854775808 ≤ f) (f1 : f ≤ 9223372036854775807) : Calls Tryz.prog 113 #[.pointer (some ⟨p, 0, none⟩), .int .i64 f] w (OfPost2 S w f n) := by
  obtain ⟨p0, p1⟩ := h.cell
  obtain ⟨va, vc, hv⟩ := h.row.value
  have hle := h.le
  go_enter Tryz.func113, Tryz.ntmps113
  subst hv
  by_cases h1 : f < 1
  · go_wp2_with fail
    go_ret
    exact ⟨_, rfl, rfl, .inl rfl⟩
  by_cases h2 : (n : Int) < f
  · go_wp2_with fail
    go_ret
    exact ⟨_, rfl, rfl, .inl rfl⟩
  obtain ⟨i, hi⟩ : ∃ i : Nat, f = (i : Int) + 1 := ⟨(f - 1).toNat, by omega⟩
  subst hi
  have hin : i < n := by omega
  obtain ⟨g, o, cap, x, hs, hx, hok⟩ := h.entry hin
  cases hs
  have HX := Lib.hid hok
  clear hok
  have k1 : ¬ (i : Int) + 1 < 1 := by omega
  have k2 : (i : Int) < (n : Int) := by omega
  have k3 : (0 : Int) ≤ (i : Int) := by omega
  go_wp2_with fail
  go_ret
  exact ⟨_, rfl, rfl, HX.out.imp id fun q => ⟨by omega, by omega, q⟩⟩
set_option maxRecDepth 100000 in
theorem drop_any (S : Nat → Prop) (w : World) (p c : Nat) (hp : PoolOk S w p c) (hc : c ≤ 1000000) (f : Int) (f0 : -9223372036854775808 ≤ f) (f1 : f ≤ 9223372036854775807) : Calls Tryz.prog 79 #[.pointer (some ⟨p, 0, none⟩), .int .i64 f] w (PStep S p c 0 1 w) := by
  obtain ⟨B, v, n, xs, h⟩ := hp
  have C1 := of_any2 S w p c h hc f f0 f1
  obtain ⟨p0, p1⟩ := h.cell
  have hle := h.le
  have HH := Lib.hid h
  clear h
  go_enter Tryz.func79, Tryz.ntmps79
  go_wp2_with fail
  refine C1.mono ?_
  rintro e w' ⟨r, rfl, rfl, rfl | ⟨q1, q2, g, rfl, hg⟩⟩
  · go_wp2_with fail
    go_ret
    exact .same ⟨B, v, n, xs, HH.out⟩ (by omega) (by omega)
  · obtain ⟨i, hi⟩ : ∃ i : Nat, f = (i : Int) + 1 := ⟨(f - 1).toNat, by omega⟩
    subst hi
    have hin : i < n := by omega
    obtain ⟨G, o, cap, x, hs, hx, hok⟩ := HH.out.entry hin
    subst hs
    have k2 : (i : Int) < (n : Int) := by omega
    have k3 : (0 : Int) ≤ (i : Int) := by omega
    obtain ⟨cur, hb⟩ := HH.out.row.blk
    have hbf := hb.free (o + i)
    have HB := Lib.hid hb
    have HG := Lib.hid hg
    clear hb hg hok
    go_wp2_with fail
    go_ret
    have hh := HH.out
    have sG : S G := hh.rowS G rfl
    have kf := KF.other S (i := o + i) HB.out (by decide) (by decide) (.pointer none)
    refine ⟨0, S, rfl, by omega, by omega, fun _ h => h, fun _ h => .inl h, kf, Fr.one HB.out sG (by decide) _, B, .slice (some ⟨G, o, none⟩) n cap, n, xs.set i (.pointer none), ?_⟩
    refine ⟨hh.blk.other (by simpa using (HB.out.ne hh.blk (by decide))) _, hh.own, hh.b0, hh.b1, hh.row.set1 hin _, hh.rowS, hh.le, fun x hx => ?_⟩
    rcases List.mem_or_eq_of_mem_set hx with h' | rfl
    · exact (hh.ok x h').imp id fun ⟨f, q1, q2⟩ => ⟨f, q1, kf.2 f q2⟩
    · exact .inl rfl
end Go.Proofs.YtfjghemojnhmbaaGreat
/- The pool of files: Make. -/
namespace Go.Proofs.YtfjghemojnhmbaaGreat
open Go.RowKit

theorem Win.blkOf {w : World} {base : Nat} {e : TypeId} {size n : Nat} {v : Value} {xs : List Value} (h : Win w base e size v n xs) {f : Nat} (hf : v.ownBlock = some f) : ∃ cur, Blk w f e cur := by
  obtain ⟨h1, h2 | ⟨f', o', cap', cur, h3, h4, h5, _⟩⟩ := h
  · rw [h2.1] at hf; cases hf
  · rw [h3] at hf; cases hf; exact ⟨cur, h5⟩
theorem AppTo.fr {S : Nat → Prop} {T : List TypeId} {w w' : World} {base : Nat} {e : TypeId} {size n f : Nat} {v : Value} {xs news : List Value} (h : AppTo w w' v f news) (hw : Win w base e size v n xs) (hS : ∀ k, v.ownBlock = some k → S k) (he : e ∈ T) : Fr S T w w' := by
  rcases h with ⟨hf, p, rfl⟩ | ⟨_, hb⟩
  · obtain ⟨cur, hb⟩ := hw.blkOf hf
    exact Fr.setCells he news f p w cur hb (hS f hf)
  · exact Fr.of_below hb
theorem AppTo.kf {S S' : Nat → Prop} {w w' : World} {base : Nat} {e : TypeId} {size n f : Nat} {v : Value} {xs news : List Value} (h : AppTo w w' v f news) (hw : Win w base e size v n xs) (h5 : e ≠ 5) (h195 : e ≠ 195) (hs : ∀ k, S k → S' k) : KF S S' w w' := by
  rcases h with ⟨hf, p, rfl⟩ | ⟨_, hb⟩
  · obtain ⟨cur, hb⟩ := hw.blkOf hf
    exact (KF.setOther S h5 h195 news f p w cur hb).trans (KF.of_below (Below.refl _ _) hs)
  · exact KF.of_below hb hs
theorem AppTo.kfb {S S' : Nat → Prop} {w w' : World} {base : Nat} {size n f : Nat} {v : Value} {xs news : List Value} (h : AppTo w w' v f news) (hw : Win w base 5 size v n xs) (hn : ∀ u ∈ news, IsByte u) (hs : ∀ k, S k → S' k) : KF S S' w w' := by
  rcases h with ⟨hf, p, rfl⟩ | ⟨_, hb⟩
  · obtain ⟨cur, hb⟩ := hw.blkOf hf
    exact (KF.setBytes S news f p w cur hb hn).trans (KF.of_below (Below.refl _ _) hs)
  · exact KF.of_below hb hs
theorem AppTo.own {S : Nat → Prop} {w w' : World} {f : Nat} {v : Value} {news : List Value} (h : AppTo w w' v f news) (hS : ∀ k, v.ownBlock = some k → S k) : S f ∨ w.heap.size ≤ f :=
  h.elim (fun q => .inl (hS f q.1)) fun q => .inr q.1
theorem info189 : (Tryz.prog.info? 189).map (fun i => (i.zero, i.size, i.bytes)) = some (some (.pointer none), 1, 8) := by kernel_rfl
/-- A file more. -/
theorem PoolAt.push {S S' : Nat → Prop} {w w' : World} {p c M f o cap : Nat} {B : Int} {v : Value} {n : Nat} {xs : List Value} (h : PoolAt S w p c B v n xs) (ha : AppTo w w' v f [.pointer (some ⟨M, 0, none⟩)])
    (hw : Win w' 0 189 1 (.slice (some ⟨f, o, none⟩) (n + 1) cap) (n + 1) (xs ++ [.pointer (some ⟨M, 0, none⟩)])) (hs : ∀ k, S k → S' k) (hf : S' f) (hM : FileOk S' w M) :
    PoolAt S' (w'.setCell ⟨p, 1, none⟩ (.slice (some ⟨f, o, none⟩) (n + 1) cap)) p (c + 1) B (.slice (some ⟨f, o, none⟩) (n + 1) cap) (n + 1) (xs ++ [.pointer (some ⟨M, 0, none⟩)]) := by
  have kf : KF S S' w w' := ha.kf h.row (by decide) (by decide) hs
  have kf2 : KF S' S' w w' := ha.kf h.row (by decide) (by decide) fun _ h => h
  have fr : Fr S [189] w w' := ha.fr h.row h.rowS (by decide)
  have hb : Blk w' p 142 #[.int .i64 B, v] := h.blk.fr fr (by decide)
  obtain ⟨cur, hc⟩ := hw.blk
  have ks : KF S' S' w' (w'.setCell ⟨p, 1, none⟩ (.slice (some ⟨f, o, none⟩) (n + 1) cap)) := KF.other S' hb (by decide) (by decide) _
  refine ⟨by simpa using hb.set 1 _, hs p h.own, h.b0, h.b1, hw.kept ?_, fun k hk => by cases hk; exact hf, by have := h.le; omega, fun x hx => ?_⟩
  · intro k hk
    cases hk
    exact Below.heap_setCell _ _ _ _ (by simpa using hc.ne hb (by decide))
  · rcases List.mem_append.1 hx with h' | h'
    · exact (h.ok x h').imp id fun ⟨g, q1, q2⟩ => ⟨g, q1, ks.2 g (kf.2 g q2)⟩
    · simp at h'
      exact .inr ⟨M, h', ks.2 M (kf2.2 M hM)⟩
end Go.Proofs.YtfjghemojnhmbaaGreat
/- The pool of files: Make walked. -/
namespace Go.Proofs.YtfjghemojnhmbaaGreat
open Go.RowKit

theorem zero195 : Tryz.zeroCells195 = #[.slice none 0 0] ++ Array.replicate 64 (.bool false) := by kernel_rfl
theorem FileOk.new {S : Nat → Prop} {w : World} (hs : S w.heap.size) : FileOk S (w.alloc (.cells Tryz.zeroCells195 195)) w.heap.size := by
  rw [zero195]
  refine ⟨_, .slice none 0 0, 0, Blk.new _ _ _, hs, by simp, by simp, ByteV.nil _ _, by omega, fun j h1 h2 => ⟨false, ?_⟩⟩
  rw [Array.getElem?_append_right (by simpa using h1), Array.getElem?_replicate, if_pos (by simp; omega)]
/-- All that Make has done, when the row is laid. -/
structure MkI (S : Nat → Prop) (w w4 : World) (p c f o cap n : Nat) : Prop where
  ok : PStep S p (c + 1) 1 1000001 w (.returned (.int .i64 ((n : Int) + 1))) (w4.setCell ⟨p, 1, none⟩ (.slice (some ⟨f, o, none⟩) (n + 1) cap))
theorem make_step {S : Nat → Prop} {w w4 : World} {p c f o cap n : Nat} {B : Int} {v : Value} {xs : List Value} (h : PoolAt S w p c B v n xs) (hc : c ≤ 1000000)
    (hw : Win w4 0 189 1 (.slice (some ⟨f, o, none⟩) (n + 1) cap) (n + 1) (xs ++ [.pointer (some ⟨w.heap.size, 0, none⟩)]))
    (ha : AppTo ((w.alloc (.cells Tryz.zeroCells195 195)).alloc (.cells #[.pointer (some ⟨w.heap.size, 0, none⟩)] 189)) w4 v f [.pointer (some ⟨w.heap.size, 0, none⟩)]) :
    MkI S w w4 p c f o cap n ∧ w4.cell? ⟨p, 1, none⟩ = some v ∧ w4.frozen? ⟨p, 1, none⟩ = false := by
  have b2 : Below w.heap.size w ((w.alloc (.cells Tryz.zeroCells195 195)).alloc (.cells #[.pointer (some ⟨w.heap.size, 0, none⟩)] 189)) := ((Below.refl _ _).alloc (Nat.le_refl _) _).alloc (by simp) _
  have sz : ((w.alloc (.cells Tryz.zeroCells195 195)).alloc (.cells #[.pointer (some ⟨w.heap.size, 0, none⟩)] 189)).heap.size = w.heap.size + 2 := by simp
  have hnew : ∀ S' : Nat → Prop, S' w.heap.size → FileOk S' ((w.alloc (.cells Tryz.zeroCells195 195)).alloc (.cells #[.pointer (some ⟨w.heap.size, 0, none⟩)] 189)) w.heap.size := fun S' hs' =>
    (KF.of_below (S := S') (S' := S') ((Below.refl _ _).alloc (Nat.le_refl _) (.cells #[.pointer (some ⟨w.heap.size, 0, none⟩)] 189)) (fun _ h => h)).2 _ (FileOk.new hs')
  generalize ((w.alloc (.cells Tryz.zeroCells195 195)).alloc (.cells #[.pointer (some ⟨w.heap.size, 0, none⟩)] 189)) = w2 at b2 sz hnew ha
  have fr2 : Fr S PT w w2 := Fr.of_below b2
  have k2 : KF S S w w2 := KF.of_below b2 fun _ h => h
  have h2 : PoolAt S w2 p c B v n xs := h.kf (T := []) k2 (fun _ h => h) (Fr.of_below (S := S) b2) (by simp) (by simp)
  have fr4 : Fr S [189] w2 w4 := ha.fr h2.row h2.rowS (by simp)
  let S' : Nat → Prop := fun k => S k ∨ k = w.heap.size ∨ k = f
  have hs : ∀ k, S k → S' k := fun _ h => .inl h
  have k4 : KF S S' w2 w4 := ha.kf h2.row (by decide) (by decide) hs
  have hb4 : Blk w4 p 142 #[.int .i64 B, v] := h2.blk.fr fr4 (by decide)
  have hf : S f ∨ w2.heap.size ≤ f := ha.own h2.rowS
  have hle := h.le
  refine ⟨⟨(n : Int) + 1, S', rfl, by omega, by omega, hs, ?_, ?_, ?_, B, _, n + 1, _, h2.push ha hw hs (.inr (.inr rfl)) (hnew S' (.inr (.inl rfl)))⟩, hb4.cell 1, hb4.free 1⟩
  · rintro k (h | rfl | rfl)
    · exact .inl h
    · exact .inr (Nat.le_refl _)
    · rcases hf with h | h
      · exact .inl h
      · right; omega
  · exact (k2.trans k4).trans (KF.other S' hb4 (by decide) (by decide) _)
  · exact (fr2.trans (fr4.mono (T' := PT) (fun _ h => .inl h) (by decide)) fun _ h => .inl h).trans (Fr.one hb4 h.own (by decide) _) fun _ h => .inl h
set_option maxRecDepth 100000 in
theorem make_any (S : Nat → Prop) (w : World) (p c : Nat) (hp : PoolOk S w p c) (hc : c ≤ 1000000) : Calls Tryz.prog 98 #[.pointer (some ⟨p, 0, none⟩)] w (PStep S p (c + 1) 1 1000001 w) := by
  obtain ⟨B, v, n, xs, h⟩ := hp
  obtain ⟨p0, p1⟩ := h.cell
  obtain ⟨va, vc, rfl⟩ := h.row.value
  have pf := h.blk.free 1
  have pl := h.blk.lt
  have hle := h.le
  have HH := Lib.hid h
  have HW := Lib.hid (h.row.below (((Below.refl w.heap.size w).alloc (Nat.le_refl _) (.cells Tryz.zeroCells195 195)).alloc (by simp) (.cells #[.pointer (some ⟨w.heap.size, 0, none⟩)] 189)))
  clear h
  obtain ⟨i9, h91, h92, h93, h94⟩ := info_parts info189
  have ne1 : ¬ p = w.heap.size := by omega
  have ne2 : ¬ p = w.heap.size + 1 := by omega
  have sz : (w.alloc (.cells Tryz.zeroCells195 195)).heap.size = w.heap.size + 1 := by simp
  go_enter Tryz.func98, Tryz.ntmps98
  go_upto_region 1 with fail
  go_upto_region 2 with (first | (at_builtin; go_must (refine wpList_append_two _ rfl (.tmp 7) (.tmp 10) 140 rfl 0 189 i9 _ 1 8 Tryz.underlying140 h91 h92 h93 h94 rfl (by decide) (.slice va n vc) n xs rfl HW.out ⟨w.heap.size + 1, 0, none⟩ 1 1 [.pointer (some ⟨w.heap.size, 0, none⟩)] rfl rfl (by have := new_cells (w.alloc (.cells Tryz.zeroCells195 195)) [.pointer (some ⟨w.heap.size, 0, none⟩)] 189; rw [sz] at this; exact this) (by simp [Value.oneCell']) (by decide) (by unfold maxLen; omega) (by omega) (Nat.zero_le _) ?_; intro f' o' cap' w4 hown happ; obtain ⟨HM, q1, qf⟩ := make_step HH.out hc hown happ; have HM := Lib.hid HM; clear hown happ)))
  go_wp2_with fail
  go_ret
  exact HM.out.ok
end Go.Proofs.YtfjghemojnhmbaaGreat
/- The pool of files: Read. -/
namespace Go.Proofs.YtfjghemojnhmbaaGreat
open Go.RowKit

theorem info5 : (Tryz.prog.info? 5).map (fun i => (i.zero, i.size, i.bytes)) = some (some (.int .u8 0), 1, 1) := by kernel_rfl
/-- Bytes in memory of their own. -/
def Bys (w : World) (base : Nat) (v : Value) (xs : List Value) : Prop := Win w base 5 1 v xs.length xs ∧ (∀ x ∈ xs, IsByte x) ∧ xs.length ≤ 1024
/-- What Read answers. -/
def RdP (w : World) (e : Ending) (w' : World) : Prop := ∃ (v : Value) (xs : List Value) (code : Int), e = .returned (.tuple #[v, .int .i64 code]) ∧ 0 ≤ code ∧ code ≤ 64 ∧ Bys w' w.heap.size v xs ∧ Below w.heap.size w w'
theorem RdP.no {w : World} {code : Int} (h0 : 0 ≤ code) (h1 : code ≤ 64) : RdP w (.returned (.tuple #[.slice none 0 0, .int .i64 code])) w := ⟨_, [], code, rfl, h0, h1, ⟨Win.nil _ _ _ _, by simp, by simp⟩, Below.refl _ _⟩
/-- The bytes so far. -/
structure RbI (w wr : World) (v : Value) (i : Nat) (xs : List Value) : Prop where
  len : xs.length = i
  win : Win wr w.heap.size 5 1 v i xs
  byt : ∀ x ∈ xs, IsByte x
  bel : Below w.heap.size w wr
theorem RbI.alloc {w wr : World} {v : Value} {i : Nat} {xs : List Value} (h : RbI w wr v i xs) (o : Obj) : RbI w (wr.alloc o) v i xs := ⟨h.len, h.win.alloc o, h.byt, h.bel.alloc h.bel.size o⟩
theorem RbI.push {w wr w4 : World} {v v' : Value} {i : Nat} {b : Int} {xs : List Value} (h : RbI w wr v i xs) (hw : Win w4 w.heap.size 5 1 v' (i + 1) (xs ++ [.int .u8 b])) (hg : wr.grownBy w4 v.ownBlock) (h0 : 0 ≤ b) (h1 : b < 256) : RbI w w4 v' (i + 1) (xs ++ [.int .u8 b]) := by
  refine ⟨by simp [h.len], hw, fun x hx => ?_, h.bel.trans (Frm.below (l := v.ownBlock.toList) (Frm.of_grown hg fun k hk _ => by rw [hk]; simp) h.bel.size fun k hk => (h.win.lt k (by simpa using hk)).1)⟩
  rcases List.mem_append.1 hx with h' | h'
  · exact h.byt x h'
  · simp at h'; exact ⟨b, h', h0, h1⟩
set_option maxRecDepth 100000 in
theorem bytes_any (S : Nat → Prop) (w : World) (p c : Nat) (hp : PoolOk S w p c) (hc : c ≤ 1000000) (f at_ n : Int) (f0 : -9223372036854775808 ≤ f) (f1 : f ≤ 9223372036854775807) (a1 : at_ ≤ 9223372036854775807) (n1 : n ≤ 9223372036854775807) :
    Calls Tryz.prog 87 #[.pointer (some ⟨p, 0, none⟩), .int .i64 f, .int .i64 at_, .int .i64 n] w (RdP w) := by
  have C1 := of_any S w p c hp hc f f0 f1
  obtain ⟨i5, h51, h52, h53, h54⟩ := info_parts info5
  go_enter Tryz.func87, Tryz.ntmps87
  go_wp2_with fail
  refine C1.mono ?_
  rintro e w' ⟨r, rfl, rfl, rfl | ⟨g, rfl, hg⟩⟩
  · go_wp2_with fail
    go_ret2
    exact .no (by omega) (by omega)
  obtain ⟨a, L, cap, h1, h2, h3⟩ := hg.bytes
  have HV := Lib.hid h2
  have gl : g < w'.heap.size := by obtain ⟨cur, v, n, q, _⟩ := hg; exact q.lt
  have H1 := Lib.hid h1
  clear hg h2
  by_cases ha : at_ < 0
  · go_wp2_with fail
    go_ret2
    exact .no (by omega) (by omega)
  by_cases hn : n < 0
  · go_wp2_with fail
    go_ret2
    exact .no (by omega) (by omega)
  go_wp2_with fail
  obtain ⟨A, rfl⟩ : ∃ A : Nat, at_ = A := ⟨at_.toNat, by omega⟩
  obtain ⟨N, rfl⟩ : ∃ N : Nat, n = N := ⟨n.toNat, by omega⟩
  clear h1
  go_loopw [12, 11] (fun iv v wr => ∃ i : Nat, i ≤ L ∧ iv = .int .i64 i ∧ Hid (∃ xs, RbI w' wr v i xs)) (fun iv _ _ => L - (intOf iv).toNat)
  case atStart => exact ⟨0, by omega, rfl, [], rfl, Win.nil _ _ _ _, by simp, Below.refl _ _⟩
  case round =>
    obtain ⟨i, hi, rfl, HI⟩ := hrel
    rename_i v wr
    obtain ⟨xs, hx⟩ := HI.out
    have HX := Lib.hid hx
    obtain ⟨va, vc, rfl⟩ := hx.win.value
    have h1 : wr.cell? ⟨g, 0, none⟩ = some (.slice a L cap) := (hx.bel.cell (p := ⟨g, 0, none⟩) gl).trans H1.out
    clear hx
    by_cases hgo : i < N ∧ A < L ∧ i < L - A
    · obtain ⟨hl1, hl2, hl3⟩ := hgo
      have k1 : (i : Int) < (N : Int) := by omega
      have k2 : (A : Int) < (L : Int) := by omega
      have k3 : (i : Int) < (L : Int) - (A : Int) := by omega
      have k4 : (0 : Int) ≤ (A : Int) + (i : Int) := by omega
      have k5 : (A : Int) + (i : Int) < (L : Int) := by omega
      obtain ⟨F, o, cp, b, cur, hs, hcell, b0, b1, _, _, hF⟩ := HV.out.cell (i := A + i) (by omega)
      cases hs
      have u0 : wr.cell? ⟨F, o + (A + i), none⟩ = some (.int .u8 b) := (HX.out.bel.cell (p := ⟨F, o + (A + i), none⟩) hF.lt).trans hcell
      clear hcell hF
      have wsz := HX.out.bel.size
      go_upto_region 9 with (first | (at_builtin; go_must (refine wpList_append_win _ rfl (.tmp 49) (.tmp 59) 35 rfl w'.heap.size 5 i5 _ 1 1 Tryz.underlying35 h51 h52 h53 h54 rfl (by decide) (.slice va i vc) i xs rfl (HX.out.win.alloc _) ⟨wr.heap.size, 0, none⟩ 1 1 [.int .u8 b] rfl rfl (new_cells wr [.int .u8 b] 5) (by simp [Value.oneCell']) (by decide) (by unfold maxLen; omega) (by omega) (by simp; omega) ?_; intro f' o' cap' w4 hown hgrow hat; have HP := Lib.hid ((HX.out.alloc _).push hown hgrow b0 b1); clear hown hgrow hat)))
      go_wp2_with fail
      go_roundw
      case rel => exact ⟨i + 1, by omega, by go_num, _, HP.out⟩
      case measure => simp [intOf]; omega
    · have hfin : RdP w' (.returned (.tuple #[.slice va i vc, .int .i64 0])) wr := by
        obtain ⟨q1, q2, q3, q4⟩ := HX.out
        exact ⟨_, xs, 0, rfl, by omega, by omega, ⟨by rw [q1]; exact q2, q3, by omega⟩, q4⟩
      have HF := Lib.hid hfin
      clear hfin
      by_cases k1 : (i : Int) < (N : Int)
      · by_cases k2 : (A : Int) < (L : Int)
        · have k3 : ¬ (i : Int) < (L : Int) - (A : Int) := by omega
          go_wp2_with fail
          go_ret2
          exact HF.out
        · go_wp2_with fail
          go_ret2
          exact HF.out
      · go_wp2_with fail
        all_goals
          go_ret2
          exact HF.out
end Go.Proofs.YtfjghemojnhmbaaGreat
/- The pool of files: a file that is being written. -/
namespace Go.Proofs.YtfjghemojnhmbaaGreat
open Go.RowKit

theorem ByteV.of_win {S : Nat → Prop} {w : World} {base f o cap n : Nat} {xs : List Value} (h : Win w base 5 1 (.slice (some ⟨f, o, none⟩) n cap) n xs) (hb : ∀ x ∈ xs, IsByte x) (hs : S f) : ByteV S w (.slice (some ⟨f, o, none⟩) n cap) n := by
  obtain ⟨h1, h2 | ⟨f', o', cap', cur, h3, h4, h5, h6, h7, h8, h9⟩⟩ := h
  · cases h2.1
  · cases h3
    refine .inr ⟨f, o, cap, cur, rfl, hs, h5, h6, h7, by omega, fun j hj => ?_⟩
    have hj' : j < xs.length := by omega
    exact ⟨xs[j], (h9 j (by omega)).trans (List.getElem?_eq_getElem hj'), hb _ (List.getElem_mem hj')⟩
/-- While file g is written: what a step of the pool will have been, so far. -/
structure PG (S S' : Nat → Prop) (w wr : World) (p c g : Nat) : Prop where
  sub : ∀ k, S k → S' k
  sup : ∀ k, S' k → S k ∨ w.heap.size ≤ k
  kf : KF S S' w wr
  fr : Fr S PT w wr
  pool : PoolOk S' wr p c
  file : FileOk S' wr g
theorem PG.start {S : Nat → Prop} {w : World} {p c g : Nat} (hp : PoolOk S w p c) (hg : FileOk S w g) : PG S S w w p c g := ⟨fun _ h => h, fun _ h => .inl h, KF.refl S w, Fr.refl S PT w, hp, hg⟩
theorem PG.done {S S' : Nat → Prop} {w wr : World} {p c g : Nat} {lo hi n : Int} (h : PG S S' w wr p c g) (h0 : lo ≤ n) (h1 : n ≤ hi) : PStep S p c lo hi w (.returned (.int .i64 n)) wr := ⟨n, S', rfl, h0, h1, h.sub, h.sup, h.kf, h.fr, h.pool⟩
/-- One step on. -/
theorem PG.next {S S' S'' : Nat → Prop} {T : List TypeId} {w wr wn : World} {p c g : Nat} (h : PG S S' w wr p c g) (sub : ∀ k, S' k → S'' k) (sup : ∀ k, S'' k → S' k ∨ wr.heap.size ≤ k) (kf : KF S' S'' wr wn) (fr : Fr S' T wr wn) (hT : T = [5] ∨ T = [195] ∨ T = []) : PG S S'' w wn p c g := by
  have hs := h.fr.size
  have ht : ∀ e ∈ T, e ∈ PT := by rcases hT with rfl | rfl | rfl <;> simp
  have h1 : 142 ∉ T := by rcases hT with rfl | rfl | rfl <;> simp
  have h2 : 189 ∉ T := by rcases hT with rfl | rfl | rfl <;> simp
  refine ⟨fun k hk => sub k (h.sub k hk), fun k hk => ?_, h.kf.trans kf, h.fr.trans (fr.mono (S' := S') (fun _ h => .inl h) ht) h.sup, h.pool.kf kf sub fr h1 h2, kf.2 g h.file⟩
  rcases sup k hk with q | q
  · exact h.sup k q
  · exact .inr (by omega)
theorem PG.alloc {S S' : Nat → Prop} {w wr : World} {p c g : Nat} (h : PG S S' w wr p c g) (o : Obj) : PG S S' w (wr.alloc o) p c g :=
  h.next (T := []) (fun _ h => h) (fun _ h => .inl h) (KF.of_below ((Below.refl _ _).alloc (Nat.le_refl _) o) fun _ h => h) (Fr.of_below ((Below.refl _ _).alloc (Nat.le_refl _) o)) (.inr (.inr rfl))
theorem PG.drew {S S' : Nat → Prop} {w wr : World} {p c g : Nat} (h : PG S S' w wr p c g) : PG S S' w wr.drew p c g :=
  h.next (T := []) (fun _ h => h) (fun _ h => .inl h) (KF.of_below (Below.refl _ _).drew fun _ h => h) (Fr.of_below (Below.refl _ _).drew) (.inr (.inr rfl))
/-- A block taken or let go. -/
theorem PG.has {S S' : Nat → Prop} {w wr : World} {p c g : Nat} (h : PG S S' w wr p c g) {i : Nat} (h1 : 1 ≤ i) (b : Bool) : PG S S' w (wr.setCell ⟨g, i, none⟩ (.bool b)) p c g := by
  obtain ⟨cur, v, n, q1, q2, _⟩ := h.file
  exact h.next (T := [195]) (fun _ h => h) (fun _ h => .inl h) (KF.has S' q1 h1 b) (Fr.one q1 q2 (by simp) _) (.inr (.inl rfl))
/-- A byte written. -/
theorem PG.byte {S S' : Nat → Prop} {w wr : World} {p c g f i : Nat} {cur : Array Value} (h : PG S S' w wr p c g) (hb : Blk wr f 5 cur) (hs : S' f) {v : Value} (hv : IsByte v) : PG S S' w (wr.setCell ⟨f, i, none⟩ v) p c g :=
  h.next (T := [5]) (fun _ h => h) (fun _ h => .inl h) (KF.byte S' hb hv) (Fr.one hb hs (by simp) _) (.inl rfl)
/-- Other bytes. -/
theorem PG.bytes {S S' : Nat → Prop} {w wr : World} {p c g n : Nat} (h : PG S S' w wr p c g) {v : Value} (hv : ByteV S' wr v n) (hn : n ≤ 1024) : PG S S' w (wr.setCell ⟨g, 0, none⟩ v) p c g := by
  obtain ⟨cur, v', n', q1, q2, _⟩ := h.file
  exact h.next (T := [195]) (fun _ h => h) (fun _ h => .inl h) (KF.bytes S' q1 hv hn) (Fr.one q1 q2 (by simp) _) (.inr (.inl rfl))
/-- Bytes appended to a slice of the owner's: the owner has the new row too. -/
theorem PG.app {S S' : Nat → Prop} {w wr w4 : World} {p c g base n m f o cap : Nat} {v : Value} {xs news : List Value} (h : PG S S' w wr p c g) (hw : Win wr base 5 1 v n xs) (hS : ∀ k, v.ownBlock = some k → S' k) (hx : ∀ x ∈ xs, IsByte x) (hn : ∀ x ∈ news, IsByte x)
    (ha : AppTo wr w4 v f news) (hw4 : Win w4 base 5 1 (.slice (some ⟨f, o, none⟩) m cap) m (xs ++ news)) : PG S (fun k => S' k ∨ k = f) w w4 p c g ∧ ByteV (fun k => S' k ∨ k = f) w4 (.slice (some ⟨f, o, none⟩) m cap) m := by
  refine ⟨h.next (T := [5]) (fun _ h => .inl h) ?_ (ha.kfb hw hn fun _ h => .inl h) (ha.fr hw hS (by simp)) (.inl rfl), ByteV.of_win hw4 (fun x hx' => (List.mem_append.1 hx').elim (hx x) (hn x)) (.inr rfl)⟩
  rintro k (q | rfl)
  · exact .inl q
  · exact ha.own hS
/-- .. and the file has them. -/
theorem PG.grow {S S' : Nat → Prop} {w wr w4 : World} {p c g n f o cap : Nat} {v : Value} {xs : List Value} (h : PG S S' w wr p c g) (hw : Win wr 0 5 1 v n xs) (hS : ∀ k, v.ownBlock = some k → S' k) (hx : ∀ x ∈ xs, IsByte x) (hn : n < 1024)
    (ha : AppTo wr w4 v f [.int .u8 0]) (hw4 : Win w4 0 5 1 (.slice (some ⟨f, o, none⟩) (n + 1) cap) (n + 1) (xs ++ [.int .u8 0])) :
    PG S (fun k => S' k ∨ k = f) w (w4.setCell ⟨g, 0, none⟩ (.slice (some ⟨f, o, none⟩) (n + 1) cap)) p c g ∧ (∃ v', w4.cell? ⟨g, 0, none⟩ = some v') ∧ w4.frozen? ⟨g, 0, none⟩ = false := by
  obtain ⟨q1, q2⟩ := h.app hw hS hx (by simp; exact IsByte.zero) ha hw4
  obtain ⟨cur, v', n', r1, r2, r3, r4, _⟩ := q1.file
  exact ⟨q1.bytes q2 (by omega), ⟨v', (r1.cell 0).trans r4⟩, r1.free 0⟩
end Go.Proofs.YtfjghemojnhmbaaGreat
