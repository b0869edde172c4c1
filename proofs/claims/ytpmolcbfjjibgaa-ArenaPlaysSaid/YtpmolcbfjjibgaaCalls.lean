/- Chapter 3's arena: its calls, the inner blocks unnamed; the runs that every statement asks again. -/
import Derived.Test.YtpmolcbfjjibgaaNew
namespace Go.Proofs.Ytpmolcbfjjibgaa
open Go.RowKit

theorem below_frm {w a b : World} {l : List Nat} {B : Nat} (h : Below B w a) (hf : Frm l a b) (hB : B ≤ a.heap.size) (hl : ∀ k ∈ l, B ≤ k) : Below B w b :=
  h.trans (hf.below hB hl)
/-- .. through an arena's call. -/
theorem below_ar {w a b : World} {l : List Nat} {B q : Nat} {s : AS} (h : Below B w a) (ha : Ar a B q l s) (hf : Frm l a b) (hB : B ≤ w.heap.size) : Below B w b :=
  below_frm h hf (by have := h.size; omega) (fun k hk => (ha.foot_lt k hk).1)

/-- The blocks of l', behind a call in w: old ones of l, or new. -/
def Fresh (w : World) (l l' : List Nat) : Prop := ∀ j ∈ l', j ∈ l ∨ w.heap.size ≤ j
theorem Fresh.out {w : World} {l l' : List Nat} (h : Fresh w l l') {q : Nat} (hq : q ∉ l) (hl : q < w.heap.size) : q ∉ l' := fun hm => by
  rcases h q hm with h | h
  · exact hq h
  · omega

theorem ar_new (n : Nat) (w : World) (h1 : 1 ≤ n) (h2 : n ≤ 64) :
    Calls Try.prog 9 #[.int .i64 n] w fun e w' => e = .returned (.tuple #[.pointer (some ⟨w.heap.size + 1, 0, none⟩), .int .i64 0]) ∧ (∃ l, Ar w' w.heap.size (w.heap.size + 1) l (AS.new n n)) ∧ Below w.heap.size w w' :=
  (new_yes n w h1 h2).mono fun _ _ ⟨e, ⟨fv, h⟩, B⟩ => ⟨e, ⟨_, _, fv, h, rfl⟩, B⟩

theorem ar_full {w : World} {base b : Nat} {l : List Nat} {s : AS} (h : Ar w base b l s) (v : Int) (hf : s.free = []) :
    Calls Try.prog 10 #[.pointer (some ⟨b, 0, none⟩), .int .i64 v] w fun e w' => e = .returned (.tuple #[.agg #[.int .i64 0, .int .i64 0], .int .i64 13]) ∧ Below w.heap.size w w' := by
  obtain ⟨c, fv, h, rfl⟩ := h
  exact take_full base b c fv s v w h hf

theorem ar_take {w : World} {base b : Nat} {l : List Nat} {s : AS} (h : Ar w base b l s) (v : Int) (k : Nat) (r : List Nat) (hf : s.free = k :: r) (hk : k < s.sl.length) :
    Calls Try.prog 10 #[.pointer (some ⟨b, 0, none⟩), .int .i64 v] w fun e w' =>
      e = .returned (.tuple #[.agg #[.int .i64 k, .int .i64 (wrap64 ((s.sl.getD k (0, 0)).1 + 1))], .int .i64 0]) ∧
      Ar w' base b l { s with sl := s.sl.set k (wrap64 ((s.sl.getD k (0, 0)).1 + 1), v), free := r } ∧ Frm l w w' := by
  obtain ⟨c, fv, h, rfl⟩ := h
  exact (take_one base b c fv s v w h k r hf hk).mono fun _ _ ⟨e, ⟨fv', h', ho⟩, F⟩ => ⟨e, ⟨c, fv', h', by rw [foot, foot, ho]⟩, F.mono (by simp [foot])⟩

theorem ar_free {w : World} {base b : Nat} {l : List Nat} {s : AS} (h : Ar w base b l s) (k : Nat) (g : Int) (hk : k < s.sl.length) (hg : (s.sl.getD k (0, 0)).1 = g) (h2 : g % 2 = 1) (hfl : s.free.length ≤ 100000) :
    Calls Try.prog 11 #[.pointer (some ⟨b, 0, none⟩), .agg #[.int .i64 k, .int .i64 g]] w fun e w' => e = .returned (.int .i64 0) ∧
      (∃ l', Ar w' base b l' { s with sl := s.sl.set k (wrap64 (g + 1), 0), free := s.free ++ [k] } ∧ Fresh w l l') ∧ Frm l w w' := by
  obtain ⟨c, fv, h, rfl⟩ := h
  have h0 := h.b0
  have hl := h.hb.lt
  refine (free_ok base b c fv s k g w h hk hg h2 hfl (by omega)).mono fun _ _ ⟨e, ⟨fv', h', ho⟩, F⟩ => ⟨e, ⟨_, ⟨c, fv', h', rfl⟩, ?_⟩, F⟩
  intro j hj
  simp only [foot, List.mem_cons, Option.mem_toList] at hj ⊢
  rcases hj with rfl | rfl | hj
  · simp
  · simp
  · rcases ho j hj with h | h
    · exact .inl (.inr (.inr h))
    · exact .inr h

theorem ar_free_arg {w : World} {base b : Nat} {l : List Nat} {s : AS} (h : Ar w base b l s) (k g : Int) (hk : k < 0 ∨ (s.sl.length : Int) ≤ k) :
    Calls Try.prog 11 #[.pointer (some ⟨b, 0, none⟩), .agg #[.int .i64 k, .int .i64 g]] w fun e w' => e = .returned (.int .i64 1) ∧ Below w.heap.size w w' := by
  obtain ⟨c, fv, h, rfl⟩ := h
  exact free_arg base b c fv s k g w h hk
theorem ar_free_gone {w : World} {base b : Nat} {l : List Nat} {s : AS} (h : Ar w base b l s) (k : Nat) (g : Int) (hk : k < s.sl.length) (hg : (s.sl.getD k (0, 0)).1 ≠ g ∨ g % 2 = 0) :
    Calls Try.prog 11 #[.pointer (some ⟨b, 0, none⟩), .agg #[.int .i64 k, .int .i64 g]] w fun e w' => e = .returned (.int .i64 14) ∧ Ar w' base b l { s with stale := wrap64 (s.stale + 1) } ∧ Frm l w w' := by
  obtain ⟨c, fv, h, rfl⟩ := h
  exact (free_gone base b c fv s k g w h hk hg).mono fun _ _ ⟨e, h', F⟩ => ⟨e, ⟨c, fv, h', rfl⟩, F.mono (by simp [foot])⟩
theorem ar_get {w : World} {base b : Nat} {l : List Nat} {s : AS} (h : Ar w base b l s) (k : Nat) (g : Int) (hk : k < s.sl.length) (hg : (s.sl.getD k (0, 0)).1 = g) (h2 : g % 2 = 1) :
    Calls Try.prog 14 #[.pointer (some ⟨b, 0, none⟩), .agg #[.int .i64 k, .int .i64 g]] w fun e w' => e = .returned (.tuple #[.int .i64 (s.sl.getD k (0, 0)).2, .int .i64 0]) ∧ Below w.heap.size w w' := by
  obtain ⟨c, fv, h, rfl⟩ := h
  exact get_ok base b c fv s k g w h hk hg h2
theorem ar_get_arg {w : World} {base b : Nat} {l : List Nat} {s : AS} (h : Ar w base b l s) (k g : Int) (hk : k < 0 ∨ (s.sl.length : Int) ≤ k) :
    Calls Try.prog 14 #[.pointer (some ⟨b, 0, none⟩), .agg #[.int .i64 k, .int .i64 g]] w fun e w' => e = .returned (.tuple #[.int .i64 0, .int .i64 1]) ∧ Below w.heap.size w w' := by
  obtain ⟨c, fv, h, rfl⟩ := h
  exact get_arg base b c fv s k g w h hk
theorem ar_get_gone {w : World} {base b : Nat} {l : List Nat} {s : AS} (h : Ar w base b l s) (k : Nat) (g : Int) (hk : k < s.sl.length) (hg : (s.sl.getD k (0, 0)).1 ≠ g ∨ g % 2 = 0) :
    Calls Try.prog 14 #[.pointer (some ⟨b, 0, none⟩), .agg #[.int .i64 k, .int .i64 g]] w fun e w' => e = .returned (.tuple #[.int .i64 0, .int .i64 14]) ∧ Ar w' base b l { s with stale := wrap64 (s.stale + 1) } ∧ Frm l w w' := by
  obtain ⟨c, fv, h, rfl⟩ := h
  exact (get_gone base b c fv s k g w h hk hg).mono fun _ _ ⟨e, h', F⟩ => ⟨e, ⟨c, fv, h', rfl⟩, F.mono (by simp [foot])⟩
theorem ar_set {w : World} {base b : Nat} {l : List Nat} {s : AS} (h : Ar w base b l s) (k : Nat) (g v : Int) (hk : k < s.sl.length) (hg : (s.sl.getD k (0, 0)).1 = g) (h2 : g % 2 = 1) :
    Calls Try.prog 16 #[.pointer (some ⟨b, 0, none⟩), .agg #[.int .i64 k, .int .i64 g], .int .i64 v] w fun e w' => e = .returned (.int .i64 0) ∧ Ar w' base b l { s with sl := s.sl.set k (g, v) } ∧ Frm l w w' := by
  obtain ⟨c, fv, h, rfl⟩ := h
  exact (set_ok base b c fv s k g v w h hk hg h2).mono fun _ _ ⟨e, h', F⟩ => ⟨e, ⟨c, fv, h', rfl⟩, F.mono (by simp [foot])⟩
theorem ar_set_arg {w : World} {base b : Nat} {l : List Nat} {s : AS} (h : Ar w base b l s) (k g v : Int) (hk : k < 0 ∨ (s.sl.length : Int) ≤ k) :
    Calls Try.prog 16 #[.pointer (some ⟨b, 0, none⟩), .agg #[.int .i64 k, .int .i64 g], .int .i64 v] w fun e w' => e = .returned (.int .i64 1) ∧ Below w.heap.size w w' := by
  obtain ⟨c, fv, h, rfl⟩ := h
  exact set_arg base b c fv s k g v w h hk
theorem ar_set_gone {w : World} {base b : Nat} {l : List Nat} {s : AS} (h : Ar w base b l s) (k : Nat) (g v : Int) (hk : k < s.sl.length) (hg : (s.sl.getD k (0, 0)).1 ≠ g ∨ g % 2 = 0) :
    Calls Try.prog 16 #[.pointer (some ⟨b, 0, none⟩), .agg #[.int .i64 k, .int .i64 g], .int .i64 v] w fun e w' => e = .returned (.int .i64 14) ∧ Ar w' base b l { s with stale := wrap64 (s.stale + 1) } ∧ Frm l w w' := by
  obtain ⟨c, fv, h, rfl⟩ := h
  exact (set_gone base b c fv s k g v w h hk hg).mono fun _ _ ⟨e, h', F⟩ => ⟨e, ⟨c, fv, h', rfl⟩, F.mono (by simp [foot])⟩
theorem ar_left {w : World} {base b : Nat} {l : List Nat} {s : AS} (h : Ar w base b l s) :
    Calls Try.prog 15 #[.pointer (some ⟨b, 0, none⟩)] w fun e w' => e = .returned (.int .i64 s.free.length) ∧ w = w' := by
  obtain ⟨c, fv, h, rfl⟩ := h
  exact left_any base b c fv s w h
theorem ar_stale {w : World} {base b : Nat} {l : List Nat} {s : AS} (h : Ar w base b l s) :
    Calls Try.prog 17 #[.pointer (some ⟨b, 0, none⟩)] w fun e w' => e = .returned (.int .i64 s.stale) ∧ w = w' := by
  obtain ⟨c, fv, h, rfl⟩ := h
  exact stale_any base b c fv s w h

/-- A variable that a handle lies in. -/
def HVar (w : World) (q : Nat) (k g : Int) : Prop := Holds w q #[.int .i64 k, .int .i64 g]
theorem HVar.new (w : World) (k g : Int) : HVar (w.alloc (.cells #[.int .i64 k, .int .i64 g] 30)) w.heap.size k g := Holds.new w _ _
theorem HVar.c0 {w : World} {q : Nat} {k g : Int} (h : HVar w q k g) : w.cell? ⟨q, 0, none⟩ = some (.int .i64 k) := h.cell 0
theorem HVar.c1 {w : World} {q : Nat} {k g : Int} (h : HVar w q k g) : w.cell? ⟨q, 1, none⟩ = some (.int .i64 g) := h.cell 1
theorem Ar.alloc {w : World} {base b : Nat} {l : List Nat} {s : AS} (h : Ar w base b l s) (o : Obj) : Ar (w.alloc o) base b l s := h.below ((Below.refl _ _).alloc (Nat.le_refl _) o)
theorem Ar.drew {w : World} {base b : Nat} {l : List Nat} {s : AS} (h : Ar w base b l s) : Ar w.drew base b l s := h.frm (l := []) (Frm.refl [] w).drew (by simp)
theorem Ar.out {w : World} {base b : Nat} {l : List Nat} {s : AS} (h : Ar w base b l s) : w.heap.size ∉ l := fun hm => by have := (h.foot_lt _ hm).2; omega

def k1 : AS := { sl := [(1, 5), (0, 0)], free := [1], stale := 0 }
def k2 : AS := { sl := [(1, 5), (1, 6)], free := [], stale := 0 }
def k3 : AS := { sl := [(2, 0), (1, 6)], free := [0], stale := 0 }
def k4 : AS := { sl := [(2, 0), (1, 6)], free := [0], stale := 1 }

theorem kw1 : wrap64 (((AS.new 2 2).sl.getD 0 (0, 0)).fst + 1) = 1 := by decide +kernel
theorem kw2 : wrap64 ((k1.sl.getD 1 (0, 0)).fst + 1) = 1 := by decide +kernel
theorem kw4 : wrap64 (1 + 1 : Int) = 2 := by decide +kernel
theorem kw5 : wrap64 (k3.stale + 1) = 1 := by decide +kernel
theorem kw6 : wrap64 ((k4.sl.getD 0 (0, 0)).fst + 1) = 3 := by decide +kernel

set_option maxHeartbeats 1000000 in
theorem known_any (w : World) : Calls Try.prog 12 #[] w fun e w' => e = .returned (.bool true) ∧ Below w.heap.size w w' := by
  go_enter Try.func12, Try.ntmps12
  go_wp2_with fail
  refine (ar_new 2 w (by omega) (by omega)).mono ?_
  rintro e w1 ⟨rfl, ⟨l1, a1⟩, B1⟩
  have A1 := Lib.hid a1
  have HB1 := Lib.hid B1
  clear a1 B1
  go_wp2_with fail
  refine (ar_take A1.out 5 0 [1] rfl (by decide)).mono ?_
  rintro e w2 ⟨rfl, a2, f2⟩
  rw [kw1] at a2 ⊢
  have A2 : Hid (Ar w2 w.heap.size (w.heap.size + 1) l1 k1) := a2
  have B2 := Lib.hid (below_ar HB1.out A1.out f2 (Nat.le_refl _))
  clear a2 f2
  go_wp2_with fail
  have V2 := Lib.hid (HVar.new w2 0 1)
  have hs2 : w.heap.size ≤ w2.heap.size := B2.out.size
  have X2 := Lib.hid A2.out.out
  have A2' := Lib.hid (A2.out.alloc (.cells #[.int .i64 0, .int .i64 1] 30))
  have B2' := Lib.hid (B2.out.alloc hs2 (.cells #[.int .i64 0, .int .i64 1] 30))
  refine (ar_take A2'.out 6 1 [] rfl (by decide)).mono ?_
  rintro e w3 ⟨rfl, a3, f3⟩
  rw [kw2] at a3 ⊢
  have A3 : Hid (Ar w3 w.heap.size (w.heap.size + 1) l1 k2) := a3
  have hs3 : w2.heap.size + 1 ≤ w3.heap.size := by have := f3.size; simpa using this
  have V3 := Lib.hid (V2.out.frm f3 X2.out)
  have B3 := Lib.hid (below_ar B2'.out A2'.out f3 (Nat.le_refl _))
  clear a3 f3 V2 A2' B2'
  go_wp2_with fail
  have A3' := Lib.hid (A3.out.alloc (.cells #[.int .i64 1, .int .i64 1] 30))
  have B3' := Lib.hid (B3.out.alloc (by omega) (.cells #[.int .i64 1, .int .i64 1] 30))
  have U3 := Lib.hid (HVar.new w3 1 1)
  have V3' := Lib.hid (Holds.alloc V3.out (.cells #[.int .i64 1, .int .i64 1] 30))
  have Y3 := Lib.hid A3.out.out
  refine (ar_full A3'.out 7 rfl).mono ?_
  rintro e w4 ⟨rfl, b4⟩
  have hs4 : w3.heap.size + 1 ≤ w4.heap.size := by have := b4.size; simpa using this
  have A4 := Lib.hid (A3'.out.below b4)
  have V4 := Lib.hid (Holds.below V3'.out b4)
  have U4 := Lib.hid (Holds.below U3.out b4)
  have B4 := Lib.hid (B3'.out.trans (b4.mono (by simp; omega)))
  have v40 := HVar.c0 V4.out
  have v41 := HVar.c1 V4.out
  have lt4 : w2.heap.size < w4.heap.size := by omega
  have ne4 : ¬ w2.heap.size = w4.heap.size := by omega
  clear b4
  go_wp2_with fail
  have A4' := Lib.hid (A4.out.alloc (.cells #[.int .i64 0, .int .i64 0] 30))
  have B4' := Lib.hid (B4.out.alloc (by omega) (.cells #[.int .i64 0, .int .i64 0] 30))
  have U4' := Lib.hid (Holds.alloc U4.out (.cells #[.int .i64 0, .int .i64 0] 30))
  have V4' := Lib.hid (Holds.alloc V4.out (.cells #[.int .i64 0, .int .i64 0] 30))
  clear v40 v41 lt4 ne4
  refine (ar_free A4'.out 0 1 (by decide) rfl (by decide) (by decide)).mono ?_
  rintro e w5 ⟨rfl, ⟨l5, a5, fr5⟩, f5⟩
  rw [kw4] at a5
  have A5 : Hid (Ar w5 w.heap.size (w.heap.size + 1) l5 k3) := a5
  have hs5 : w4.heap.size + 1 ≤ w5.heap.size := by have := f5.size; simpa using this
  have V5 := Lib.hid (Holds.frm V4'.out f5 X2.out)
  have U5 := Lib.hid (Holds.frm U4'.out f5 Y3.out)
  have X5 := Lib.hid (fr5.out X2.out (by simp; omega))
  have Y5 := Lib.hid (fr5.out Y3.out (by simp; omega))
  have B5 := Lib.hid (below_ar B4'.out A4'.out f5 (Nat.le_refl _))
  have v50 := HVar.c0 V5.out
  have v51 := HVar.c1 V5.out
  clear a5 fr5 f5
  go_wp2_with fail
  refine (ar_get_gone A5.out 0 1 (by decide) (by decide)).mono ?_
  rintro e w6 ⟨rfl, a6, f6⟩
  rw [kw5] at a6
  have A6 : Hid (Ar w6 w.heap.size (w.heap.size + 1) l5 k4) := a6
  have V6 := Lib.hid (Holds.frm V5.out f6 X5.out)
  have U6 := Lib.hid (Holds.frm U5.out f6 Y5.out)
  have B6 := Lib.hid (below_ar B5.out A5.out f6 (Nat.le_refl _))
  have hs6 : w5.heap.size ≤ w6.heap.size := f6.size
  clear a6 f6 v50 v51
  go_wp2_with fail
  refine (ar_take A6.out 9 0 [] rfl (by decide)).mono ?_
  rintro e w7 ⟨rfl, a7, f7⟩
  rw [kw6] at a7 ⊢
  have V7 := Lib.hid (Holds.frm V6.out f7 X5.out)
  have U7 := Lib.hid (Holds.frm U6.out f7 Y5.out)
  have B7 := Lib.hid (below_ar B6.out A6.out f7 (Nat.le_refl _))
  have hs7 : w6.heap.size ≤ w7.heap.size := f7.size
  have v70 := HVar.c0 V7.out
  have v71 := HVar.c1 V7.out
  have u70 := HVar.c0 U7.out
  have u71 := HVar.c1 U7.out
  have n1 : ¬ w2.heap.size = w7.heap.size := by omega
  have n2 : ¬ w3.heap.size = w7.heap.size := by omega
  have n3 : w2.heap.size < w7.heap.size := by omega
  have n4 : w3.heap.size < w7.heap.size := by omega
  clear a7 f7
  go_wp2_with fail
  go_ret
  exact ⟨rfl, B7.out.alloc (by omega) _⟩
end Go.Proofs.Ytpmolcbfjjibgaa
