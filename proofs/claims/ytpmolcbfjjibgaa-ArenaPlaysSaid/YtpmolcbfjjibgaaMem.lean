/- Chapter 3's arena: what it holds, and what its small functions compute. -/
import Derived.Test.YtpmolcbfjjibgaaProg
import Derived.Test.YtpmolcbfjjibgaaWin
import Derived.WalkKit
import Derived.WalkSpells
import Derived.Outline
import Derived.Handy
import Derived.Lib.Hide
import Derived.Deep.OwnRows
import Derived.Deep.LoopGhost
namespace Go.Proofs.Ytpmolcbfjjibgaa
open Go.RowKit

/-- An arena as the program holds it: generations and numbers; the free slots in their turn; the stale. -/
structure AS where
  sl : List (Int × Int)
  free : List Nat
  stale : Int

def pairs (l : List (Int × Int)) : Array Value := (l.flatMap fun p => [Value.int .i64 p.1, Value.int .i64 p.2]).toArray
def nats (l : List Nat) : List Value := l.map fun k : Nat => Value.int .i64 (k : Int)
def AS.cells (s : AS) (c : Nat) (fv : Value) : Array Value := #[.slice (some ⟨c, 0, none⟩) s.sl.length s.sl.length, fv, .int .i64 s.stale]

structure IsAr (w : World) (base b c : Nat) (fv : Value) (s : AS) : Prop where
  hb : Holds w b (s.cells c fv)
  hc : Holds w c (pairs s.sl)
  hf : Win w base 3 1 fv s.free.length (nats s.free)
  bc : b ≠ c
  fb : fv.ownBlock ≠ some b
  fc : fv.ownBlock ≠ some c
  le : s.sl.length ≤ 64
  b0 : base ≤ b
  c0 : base ≤ c

theorem pairs_cons (p : Int × Int) (l : List (Int × Int)) : (pairs (p :: l)).toList = Value.int .i64 p.1 :: Value.int .i64 p.2 :: (pairs l).toList := by simp [pairs]
theorem pairs_size : ∀ l : List (Int × Int), (pairs l).size = l.length * 2
  | [] => rfl
  | p :: l => by
    have := pairs_size l
    rw [← Array.length_toList, pairs_cons]
    rw [← Array.length_toList] at this
    simp only [List.length_cons, this]; omega
theorem pairs_get : ∀ (l : List (Int × Int)) (k : Nat), k < l.length → (pairs l)[k * 2]? = some (.int .i64 (l.getD k (0, 0)).1) ∧ (pairs l)[k * 2 + 1]? = some (.int .i64 (l.getD k (0, 0)).2)
  | [], k, h => by simp at h
  | p :: l, 0, _ => by
    rw [← Array.getElem?_toList, ← Array.getElem?_toList, pairs_cons]
    simp
  | p :: l, k + 1, h => by
    have := pairs_get l k (by simpa using h)
    rw [← Array.getElem?_toList, ← Array.getElem?_toList] at this ⊢
    rw [pairs_cons, show (k + 1) * 2 = k * 2 + 1 + 1 from by omega]
    simpa using this
theorem pairs_set0 : ∀ (l : List (Int × Int)) (k : Nat) (g : Int), k < l.length → (pairs l).setIfInBounds (k * 2) (.int .i64 g) = pairs (l.set k (g, (l.getD k (0, 0)).2))
  | [], k, g, h => by simp at h
  | p :: l, 0, g, _ => by
    apply Array.toList_inj.1
    rw [Array.toList_setIfInBounds, pairs_cons]
    simp [pairs_cons]
  | p :: l, k + 1, g, h => by
    have := congrArg Array.toList (pairs_set0 l k g (by simpa using h))
    rw [Array.toList_setIfInBounds] at this
    apply Array.toList_inj.1
    rw [Array.toList_setIfInBounds, pairs_cons, show (k + 1) * 2 = k * 2 + 1 + 1 from by omega]
    simp [pairs_cons, this]
theorem pairs_set1 : ∀ (l : List (Int × Int)) (k : Nat) (g : Int), k < l.length → (pairs l).setIfInBounds (k * 2 + 1) (.int .i64 g) = pairs (l.set k ((l.getD k (0, 0)).1, g))
  | [], k, g, h => by simp at h
  | p :: l, 0, g, _ => by
    apply Array.toList_inj.1
    rw [Array.toList_setIfInBounds, pairs_cons]
    simp [pairs_cons]
  | p :: l, k + 1, g, h => by
    have := congrArg Array.toList (pairs_set1 l k g (by simpa using h))
    rw [Array.toList_setIfInBounds] at this
    apply Array.toList_inj.1
    rw [Array.toList_setIfInBounds, pairs_cons, show (k + 1) * 2 + 1 = k * 2 + 1 + 1 + 1 from by omega]
    simp [pairs_cons, this]

theorem info3 : (Try.prog.info? 3).map (fun i => (i.zero, i.size, i.bytes)) = some (some (.int .i64 0), 1, 8) := by kernel_rfl
theorem info68 : (Try.prog.info? 68).map (fun i => (i.zero, i.size, i.bytes)) = some (some (.agg #[.int .i64 0, .int .i64 0]), 2, 16) := by kernel_rfl
theorem info30 : (Try.prog.info? 30).map (fun i => (i.zero, i.size, i.bytes)) = some (some (.agg #[.int .i64 0, .int .i64 0]), 2, 16) := by kernel_rfl

/-- The blocks of an arena. -/
def foot (b c : Nat) (fv : Value) : List Nat := b :: c :: fv.ownBlock.toList

/-- An arena at the block b, whose blocks are l. -/
def Ar (w : World) (base b : Nat) (l : List Nat) (s : AS) : Prop := ∃ c fv, IsAr w base b c fv s ∧ l = foot b c fv

theorem IsAr.frm {w w' : World} {base b c : Nat} {fv : Value} {s : AS} {l : List Nat} (h : IsAr w base b c fv s) (hf : Frm l w w') (hl : ∀ k ∈ l, k ∉ foot b c fv) : IsAr w' base b c fv s := by
  refine ⟨h.hb.frm hf (fun hm => hl _ hm (by simp [foot])), h.hc.frm hf (fun hm => hl _ hm (by simp [foot])), h.hf.frm hf (fun k hk he => hl _ hk (by simp [foot, he])), h.bc, h.fb, h.fc, h.le, h.b0, h.c0⟩
theorem Ar.frm {w w' : World} {base b : Nat} {s : AS} {l m : List Nat} (h : Ar w base b m s) (hf : Frm l w w') (hl : ∀ k ∈ l, k ∉ m) : Ar w' base b m s := by
  obtain ⟨c, fv, h, rfl⟩ := h
  exact ⟨c, fv, h.frm hf hl, rfl⟩
theorem Ar.below {w w' : World} {base b : Nat} {s : AS} {m : List Nat} (h : Ar w base b m s) (hf : Below w.heap.size w w') : Ar w' base b m s :=
  h.frm (l := []) (Frm.of_below hf) (by simp)
theorem IsAr.foot_lt {w : World} {base b c : Nat} {fv : Value} {s : AS} (h : IsAr w base b c fv s) : ∀ k ∈ foot b c fv, base ≤ k ∧ k < w.heap.size := by
  intro k hk
  simp [foot] at hk
  rcases hk with rfl | rfl | hk
  · exact ⟨h.b0, h.hb.lt⟩
  · exact ⟨h.c0, h.hc.lt⟩
  · exact h.hf.lt k hk
theorem Ar.foot_lt {w : World} {base b : Nat} {s : AS} {m : List Nat} (h : Ar w base b m s) : ∀ k ∈ m, base ≤ k ∧ k < w.heap.size := by
  obtain ⟨c, fv, h, rfl⟩ := h
  exact h.foot_lt
theorem Ar.le {w : World} {base b : Nat} {s : AS} {m : List Nat} (h : Ar w base b m s) : s.sl.length ≤ 64 := by
  obtain ⟨c, fv, h, rfl⟩ := h
  exact h.le

theorem take_full (base b c : Nat) (fv : Value) (s : AS) (v : Int) (w : World) (h : IsAr w base b c fv s) (hf : s.free = []) :
    Calls Try.prog 10 #[.pointer (some ⟨b, 0, none⟩), .int .i64 v] w fun e w' => e = .returned (.tuple #[.agg #[.int .i64 0, .int .i64 0], .int .i64 13]) ∧ Below w.heap.size w w' := by
  obtain ⟨a, cap, hv⟩ := h.hf.value
  have h1 := h.hb.1
  have hlt := h.hb.lt
  have hlt' : ¬ b = w.heap.size := by omega
  simp only [AS.cells] at h1
  rw [hf] at hv
  simp only [List.length_nil] at hv
  subst hv
  clear h
  go_enter Try.func10, Try.ntmps10
  go_wp2_with fail
  go_returns
  exact ⟨rfl, by go_grown⟩

theorem take_ok {w : World} {base b c f o cap : Nat} {s : AS} {v g : Int} {k : Nat} {r : List Nat} {fv' : Value} (h : IsAr w base b c (.slice (some ⟨f, o, none⟩) (k :: r).length cap) s) (hk : k < s.sl.length)
    (hw : Win w base 3 1 fv' r.length (nats r)) (ho : fv'.ownBlock = some f) (x : Obj) :
    IsAr ((((w.setCell ⟨b, 1, none⟩ fv').setCell ⟨c, k * 2, none⟩ (.int .i64 g)).setCell ⟨c, k * 2 + 1, none⟩ (.int .i64 v)).alloc x) base b c fv' { s with sl := s.sl.set k (g, v), free := r } := by
  have hn1 : ¬ f = b := fun e => h.fb (by rw [e]; rfl)
  have hn2 : ¬ f = c := fun e => h.fc (by rw [e]; rfl)
  refine ⟨?_, ?_, ?_, h.bc, by rw [ho]; simpa using hn1, by rw [ho]; simpa using hn2, by simpa using h.le, h.b0, h.c0⟩
  · have := (((h.hb.set 1 fv' (by simp [AS.cells])).other (a := ⟨c, k * 2, none⟩) h.bc.symm (.int .i64 g)).other (a := ⟨c, k * 2 + 1, none⟩) h.bc.symm (.int .i64 v)).alloc x
    simpa [AS.cells] using this
  · have := (((h.hc.other (a := ⟨b, 1, none⟩) h.bc fv').set (k * 2) (.int .i64 g) (by rw [pairs_size]; omega)).set (k * 2 + 1) (.int .i64 v) (by simp [pairs_size]; omega)).alloc x
    rw [pairs_set0 _ _ _ hk, pairs_set1 _ _ _ (by simpa using hk)] at this
    simpa [hk] using this
  · refine (hw.frm (l := [b, c]) ((((Frm.refl _ w).setCell (by simp) _).setCell (by simp) _).setCell (by simp) _) ?_).alloc x
    rw [ho]
    intro j hj e
    simp at hj e
    omega

theorem take_one (base b c : Nat) (fv : Value) (s : AS) (v : Int) (w : World) (h : IsAr w base b c fv s) (k : Nat) (r : List Nat) (hf : s.free = k :: r) (hk : k < s.sl.length) :
    Calls Try.prog 10 #[.pointer (some ⟨b, 0, none⟩), .int .i64 v] w fun e w' =>
      e = .returned (.tuple #[.agg #[.int .i64 k, .int .i64 (wrap64 ((s.sl.getD k (0, 0)).1 + 1))], .int .i64 0]) ∧
      (∃ fv', IsAr w' base b c fv' { s with sl := s.sl.set k (wrap64 ((s.sl.getD k (0, 0)).1 + 1), v), free := r } ∧ fv'.ownBlock = fv.ownBlock) ∧ Frm [b, c] w w' := by
  have H := Lib.hid h
  have hW := h.hf
  rw [hf] at hW
  have hpos : 0 < (k :: r).length := by simp
  obtain ⟨f, o, cap, rfl⟩ := hW.form hpos
  have hfr : w.cell? ⟨f, o, none⟩ = some (.int .i64 k) := by simpa [nats] using hW.cells 0 (by simp)
  have hg := (h.hc.cell (k * 2)).trans (pairs_get s.sl k hk).1
  have hv := (h.hc.cell (k * 2 + 1)).trans (pairs_get s.sl k hk).2
  obtain ⟨g, eg⟩ : ∃ g, (s.sl.getD k (0, 0)).1 = g := ⟨_, rfl⟩
  rw [eg] at hg ⊢
  clear eg
  have hfz := h.hc.2.1
  have hbz := h.hb.2.1
  have hlb := h.hb.lt
  have hlc := h.hc.lt
  have hlf := (hW.lt f rfl).2
  have hbb : ¬ b = w.heap.size := by omega
  have hcb : ¬ c = w.heap.size := by omega
  have hfb : ¬ f = w.heap.size := by omega
  have hne := h.bc
  have hne' := h.bc.symm
  have hn1 : ¬ f = b := fun e => h.fb (by rw [e]; rfl)
  have hn2 : ¬ f = c := fun e => h.fc (by rw [e]; rfl)
  have hn1' : ¬ b = f := fun e => hn1 e.symm
  have hn2' : ¬ c = f := fun e => hn2 e.symm
  have h1 := h.hb.1
  simp only [AS.cells, List.length_cons] at h1
  have hk0 : (0 : Int) ≤ (k : Int) := by omega
  have hk1 : (k : Int) < (s.sl.length : Int) := by omega
  have hcap := hW.bound
  simp only [List.length_cons, maxLen] at hcap
  have HW := Lib.hid hW
  clear h hpos hW
  by_cases hc1 : cap = 1
  · subst hc1
    obtain rfl : r = [] := List.eq_nil_of_length_eq_zero (by omega)
    go_enter Try.func10, Try.ntmps10
    go_wp2_with fail
    go_returns
    refine ⟨rfl, ⟨.slice (some ⟨f, o, none⟩) 0 0, take_ok H.out hk ?_ rfl _, rfl⟩, ((((Frm.refl _ w).setCell (by simp) _).setCell (by simp) _).setCell (by simp) _).alloc _⟩
    exact HW.out.cutAll
  · have hc2 : (cap == 1) = false := by simpa using hc1
    go_enter Try.func10, Try.ntmps10
    go_wp2_with fail
    go_returns
    refine ⟨rfl, ⟨.slice (some ⟨f, o + 1, none⟩) r.length (cap - 1), take_ok H.out hk ?_ rfl _, rfl⟩, ((((Frm.refl _ w).setCell (by simp) _).setCell (by simp) _).setCell (by simp) _).alloc _⟩
    have := HW.out.cut 1 (by simp)
    simpa [nats] using this
end Go.Proofs.Ytpmolcbfjjibgaa
