/- Chapter 3's arena as the document has it: what it holds, and what its functions compute. -/
import Derived.Test.YtpmolcbfjjibgaaCalls
import Derived.Deep.RegionLaw
import Derived.Deep.DeepMust
import Derived.StillTailTactics
namespace Go.Proofs.Ytpmolcbfjjibgaa
open Go.RowKit

def gens (l : List (Int × Int)) : Array Value := (l.map fun p => Value.int .i64 p.1).toArray
def vals (l : List (Int × Int)) : Array Value := (l.map fun p => Value.int .i64 p.2).toArray
theorem gens_size (l : List (Int × Int)) : (gens l).size = l.length := by simp [gens]
theorem vals_size (l : List (Int × Int)) : (vals l).size = l.length := by simp [vals]
theorem gens_get (l : List (Int × Int)) (k : Nat) (h : k < l.length) : (gens l)[k]? = some (.int .i64 (l.getD k (0, 0)).1) := by simp [gens, h]
theorem vals_get (l : List (Int × Int)) (k : Nat) (h : k < l.length) : (vals l)[k]? = some (.int .i64 (l.getD k (0, 0)).2) := by simp [vals, h]
theorem gens_set (l : List (Int × Int)) (k : Nat) (g v : Int) : (gens l).setIfInBounds k (.int .i64 g) = gens (l.set k (g, v)) := by
  apply Array.toList_inj.1
  simp [gens, List.map_set]
theorem vals_set (l : List (Int × Int)) (k : Nat) (g v : Int) : (vals l).setIfInBounds k (.int .i64 v) = vals (l.set k (g, v)) := by
  apply Array.toList_inj.1
  simp [vals, List.map_set]

def AS.rcells (s : AS) (gc vc : Nat) (tv : Value) : Array Value := #[.slice (some ⟨gc, 0, none⟩) s.sl.length s.sl.length, .slice (some ⟨vc, 0, none⟩) s.sl.length s.sl.length, tv, .int .i64 s.stale]

structure IsRf (w : World) (base b gc vc : Nat) (tv : Value) (s : AS) : Prop where
  hb : Holds w b (s.rcells gc vc tv)
  hg : Holds w gc (gens s.sl)
  hv : Holds w vc (vals s.sl)
  hf : Win w base 3 1 tv s.free.length (nats s.free)
  bg : b ≠ gc
  bv : b ≠ vc
  gv : gc ≠ vc
  fb : tv.ownBlock ≠ some b
  fg : tv.ownBlock ≠ some gc
  fv : tv.ownBlock ≠ some vc
  le : s.sl.length ≤ 64
  b0 : base ≤ b
  g0 : base ≤ gc
  v0 : base ≤ vc

def rfoot (b gc vc : Nat) (tv : Value) : List Nat := b :: gc :: vc :: tv.ownBlock.toList
def Rf (w : World) (base b : Nat) (l : List Nat) (s : AS) : Prop := ∃ gc vc tv, IsRf w base b gc vc tv s ∧ l = rfoot b gc vc tv

theorem IsRf.frm {w w' : World} {base b gc vc : Nat} {tv : Value} {s : AS} {l : List Nat} (h : IsRf w base b gc vc tv s) (hf : Frm l w w') (hl : ∀ k ∈ l, k ∉ rfoot b gc vc tv) : IsRf w' base b gc vc tv s :=
  ⟨h.hb.frm hf (fun hm => hl _ hm (by simp [rfoot])), h.hg.frm hf (fun hm => hl _ hm (by simp [rfoot])), h.hv.frm hf (fun hm => hl _ hm (by simp [rfoot])), h.hf.frm hf (fun k hk he => hl _ hk (by simp [rfoot, he])),
    h.bg, h.bv, h.gv, h.fb, h.fg, h.fv, h.le, h.b0, h.g0, h.v0⟩
theorem Rf.frm {w w' : World} {base b : Nat} {s : AS} {l m : List Nat} (h : Rf w base b m s) (hf : Frm l w w') (hl : ∀ k ∈ l, k ∉ m) : Rf w' base b m s := by
  obtain ⟨c, v, t, h, rfl⟩ := h
  exact ⟨c, v, t, h.frm hf hl, rfl⟩
theorem Rf.below {w w' : World} {base b : Nat} {s : AS} {m : List Nat} (h : Rf w base b m s) (hf : Below w.heap.size w w') : Rf w' base b m s := h.frm (l := []) (Frm.of_below hf) (by simp)
theorem IsRf.below {w w' : World} {base b gc vc : Nat} {tv : Value} {s : AS} (h : IsRf w base b gc vc tv s) (hf : Below w.heap.size w w') : IsRf w' base b gc vc tv s := h.frm (l := []) (Frm.of_below hf) (by simp)
theorem IsRf.foot_lt {w : World} {base b gc vc : Nat} {tv : Value} {s : AS} (h : IsRf w base b gc vc tv s) : ∀ k ∈ rfoot b gc vc tv, base ≤ k ∧ k < w.heap.size := by
  intro k hk
  simp [rfoot] at hk
  rcases hk with rfl | rfl | rfl | hk
  · exact ⟨h.b0, h.hb.lt⟩
  · exact ⟨h.g0, h.hg.lt⟩
  · exact ⟨h.v0, h.hv.lt⟩
  · exact h.hf.lt k hk
theorem Rf.foot_lt {w : World} {base b : Nat} {s : AS} {m : List Nat} (h : Rf w base b m s) : ∀ k ∈ m, base ≤ k ∧ k < w.heap.size := by
  obtain ⟨c, v, t, h, rfl⟩ := h
  exact h.foot_lt

/-- 'in': a handle of the one kind as one of the other. -/
theorem in_any (k g : Int) (w : World) : Calls Try.prog 21 #[.agg #[.int .i64 k, .int .i64 g]] w fun e w' => e = .returned (.agg #[.int .i64 k, .int .i64 g]) ∧ Below w.heap.size w w' := by
  go_enter Try.func21, Try.ntmps21
  go_wp2_with fail
  go_returns
  exact ⟨rfl, by go_grown⟩

theorem rtake_full (base b gc vc : Nat) (tv : Value) (s : AS) (v : Int) (w : World) (h : IsRf w base b gc vc tv s) (hf : s.free = []) :
    Calls Try.prog 20 #[.pointer (some ⟨b, 0, none⟩), .int .i64 v] w fun e w' => e = .returned (.tuple #[.agg #[.int .i64 0, .int .i64 0], .int .i64 13]) ∧ Below w.heap.size w w' := by
  obtain ⟨a, cap, hv⟩ := h.hf.value
  have h1 := h.hb.1
  have hlt := h.hb.lt
  have hlt' : ¬ b = w.heap.size := by omega
  simp only [AS.rcells] at h1
  rw [hf] at hv
  simp only [List.length_nil] at hv
  subst hv
  clear h
  go_enter Try.func20, Try.ntmps20
  go_wp2_with fail
  go_returns
  exact ⟨rfl, by go_grown⟩

theorem rtake_ok {w : World} {base b gc vc f o cap : Nat} {s : AS} {v g : Int} {k : Nat} {r : List Nat} {tv' : Value} (h : IsRf w base b gc vc (.slice (some ⟨f, o, none⟩) (k :: r).length cap) s) (hk : k < s.sl.length)
    (hw : Win w base 3 1 tv' r.length (nats r)) (ho : tv'.ownBlock = some f) (x : Obj) :
    IsRf ((((w.setCell ⟨b, 2, none⟩ tv').setCell ⟨gc, k, none⟩ (.int .i64 g)).setCell ⟨vc, k, none⟩ (.int .i64 v)).alloc x) base b gc vc tv' { s with sl := s.sl.set k (g, v), free := r } := by
  have hn1 : ¬ f = b := fun e => h.fb (by rw [e]; rfl)
  have hn2 : ¬ f = gc := fun e => h.fg (by rw [e]; rfl)
  have hn3 : ¬ f = vc := fun e => h.fv (by rw [e]; rfl)
  refine ⟨?_, ?_, ?_, ?_, h.bg, h.bv, h.gv, by rw [ho]; simpa using hn1, by rw [ho]; simpa using hn2, by rw [ho]; simpa using hn3, by simpa using h.le, h.b0, h.g0, h.v0⟩
  · have := (((h.hb.set 2 tv' (by simp [AS.rcells])).other (a := ⟨gc, k, none⟩) h.bg.symm (.int .i64 g)).other (a := ⟨vc, k, none⟩) h.bv.symm (.int .i64 v)).alloc x
    simpa [AS.rcells] using this
  · have := (((h.hg.other (a := ⟨b, 2, none⟩) h.bg tv').set k (.int .i64 g) (by rw [gens_size]; omega)).other (a := ⟨vc, k, none⟩) h.gv.symm (.int .i64 v)).alloc x
    rw [gens_set _ _ _ v] at this
    exact this
  · have := (((h.hv.other (a := ⟨b, 2, none⟩) h.bv tv').other (a := ⟨gc, k, none⟩) h.gv (.int .i64 g)).set k (.int .i64 v) (by rw [vals_size]; omega)).alloc x
    rw [vals_set _ _ g] at this
    exact this
  · refine (hw.frm (l := [b, gc, vc]) ((((Frm.refl _ w).setCell (by simp) _).setCell (by simp) _).setCell (by simp) _) ?_).alloc x
    rw [ho]
    intro j hj e
    simp at hj e
    omega

set_option maxHeartbeats 1000000 in
theorem rtake_one (base b gc vc : Nat) (tv : Value) (s : AS) (v : Int) (w : World) (h : IsRf w base b gc vc tv s) (k : Nat) (r : List Nat) (hf : s.free = k :: r) (hk : k < s.sl.length) :
    Calls Try.prog 20 #[.pointer (some ⟨b, 0, none⟩), .int .i64 v] w fun e w' =>
      e = .returned (.tuple #[.agg #[.int .i64 k, .int .i64 (wrap64 ((s.sl.getD k (0, 0)).1 + 1))], .int .i64 0]) ∧
      (∃ tv', IsRf w' base b gc vc tv' { s with sl := s.sl.set k (wrap64 ((s.sl.getD k (0, 0)).1 + 1), v), free := r } ∧ tv'.ownBlock = tv.ownBlock) ∧ Frm [b, gc, vc] w w' := by
  have H := Lib.hid h
  have hW := h.hf
  rw [hf] at hW
  have hpos : 0 < (k :: r).length := by simp
  obtain ⟨f, o, cap, rfl⟩ := hW.form hpos
  have hfr : w.cell? ⟨f, o, none⟩ = some (.int .i64 k) := by simpa [nats] using hW.cells 0 (by simp)
  have hg := (h.hg.cell k).trans (gens_get s.sl k hk)
  have hv := (h.hv.cell k).trans (vals_get s.sl k hk)
  obtain ⟨g, eg⟩ : ∃ g, (s.sl.getD k (0, 0)).1 = g := ⟨_, rfl⟩
  rw [eg] at hg ⊢
  clear eg
  have hgz := h.hg.2.1
  have hvz := h.hv.2.1
  have hbz := h.hb.2.1
  have hlb := h.hb.lt
  have hlg := h.hg.lt
  have hlv := h.hv.lt
  have hlf := (hW.lt f rfl).2
  have hbb : ¬ b = w.heap.size := by omega
  have hgb : ¬ gc = w.heap.size := by omega
  have hvb : ¬ vc = w.heap.size := by omega
  have hfb : ¬ f = w.heap.size := by omega
  have e1 := h.bg
  have e2 := h.bv
  have e3 := h.gv
  have e1' := h.bg.symm
  have e2' := h.bv.symm
  have e3' := h.gv.symm
  have hn1 : ¬ f = b := fun e => h.fb (by rw [e]; rfl)
  have hn2 : ¬ f = gc := fun e => h.fg (by rw [e]; rfl)
  have hn3 : ¬ f = vc := fun e => h.fv (by rw [e]; rfl)
  have hn1' : ¬ b = f := fun e => hn1 e.symm
  have hn2' : ¬ gc = f := fun e => hn2 e.symm
  have hn3' : ¬ vc = f := fun e => hn3 e.symm
  have h1 := h.hb.1
  simp only [AS.rcells, List.length_cons] at h1
  have hk0 : (0 : Int) ≤ (k : Int) := by omega
  have hk1 : (k : Int) < (s.sl.length : Int) := by omega
  have hcap := hW.bound
  simp only [List.length_cons, maxLen] at hcap
  have HW := Lib.hid hW
  clear h hpos hW
  by_cases hc1 : cap = 1
  · subst hc1
    obtain rfl : r = [] := List.eq_nil_of_length_eq_zero (by omega)
    go_enter Try.func20, Try.ntmps20
    go_wp2_with fail
    go_returns
    refine ⟨rfl, ⟨.slice (some ⟨f, o, none⟩) 0 0, rtake_ok H.out hk ?_ rfl _, rfl⟩, ((((Frm.refl _ w).setCell (by simp) _).setCell (by simp) _).setCell (by simp) _).alloc _⟩
    exact HW.out.cutAll
  · have hc2 : (cap == 1) = false := by simpa using hc1
    go_enter Try.func20, Try.ntmps20
    go_wp2_with fail
    go_returns
    refine ⟨rfl, ⟨.slice (some ⟨f, o + 1, none⟩) r.length (cap - 1), rtake_ok H.out hk ?_ rfl _, rfl⟩, ((((Frm.refl _ w).setCell (by simp) _).setCell (by simp) _).setCell (by simp) _).alloc _⟩
    have := HW.out.cut 1 (by simp)
    simpa [nats] using this

theorem check_arg (base b gc vc : Nat) (tv : Value) (s : AS) (k g : Int) (w : World) (h : IsRf w base b gc vc tv s) (hk : k < 0 ∨ (s.sl.length : Int) ≤ k) :
    Calls Try.prog 28 #[.pointer (some ⟨b, 0, none⟩), .agg #[.int .i64 k, .int .i64 g]] w fun e w' => e = .returned (.int .i64 1) ∧ Below w.heap.size w w' := by
  have h1 := h.hb.1
  have hlt := h.hb.lt
  have hlt' : ¬ b = w.heap.size := by omega
  simp only [AS.rcells] at h1
  clear h
  by_cases h0 : k < 0
  · have hd : decide (k < 0) = true := by simpa using h0
    go_enter Try.func28, Try.ntmps28
    go_wp2_with fail
    go_quiet (fail)
    go_wp2_with fail
    go_ret
    exact ⟨rfl, below_drewN ((Below.refl _ _).alloc (Nat.le_refl _) _) _⟩
  · have hd : decide (k < 0) = false := by simpa using h0
    have hd2 : decide (k ≥ (s.sl.length : Int)) = true := by simp; omega
    go_enter Try.func28, Try.ntmps28
    go_wp2_with fail
    go_quiet (fail)
    go_wp2_with fail
    go_ret
    exact ⟨rfl, below_drewN ((Below.refl _ _).alloc (Nat.le_refl _) _) _⟩
end Go.Proofs.Ytpmolcbfjjibgaa
