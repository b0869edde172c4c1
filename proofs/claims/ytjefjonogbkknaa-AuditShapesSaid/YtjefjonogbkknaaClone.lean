/- Clones of slices of bytes and of strings; a result's copy. -/
import Derived.Test.YtjefjonogbkknaaDen
import Derived.Test.YtjefjonogbkknaaChecked
import Derived.Laws.OwnMore
import Derived.OwnWalk
import Derived.Deep.RegionLaw
import Derived.Deep.DeepMust
import Derived.Deep.MidRow
import Derived.Lib.Hide
namespace Go.Proofs.Ytjefjonogbkknaa
open Go.RowKit

theorem info5 : (Try.prog.info? 5).map (fun i => (i.zero, i.size, i.bytes)) = some (some (.int .u8 0), 1, 1) := by kernel_rfl
theorem info9 : (Try.prog.info? 9).map (fun i => (i.zero, i.size, i.bytes)) = some (some (.string ⟨#[]⟩), 1, 16) := by kernel_rfl
theorem nil26 (w : World) (a : Option Addr) (n c n' c' : Nat) : (binOp .eql 24 (.slice a n c) (.slice none n' c')).run Try.prog w = .ok (.bool a.isNone) w := Lib.run_eql_slice_nil w _ _ a n c n' c' Try.underlying24
theorem nil29 (w : World) (a : Option Addr) (n c n' c' : Nat) : (binOp .eql 25 (.slice a n c) (.slice none n' c')).run Try.prog w = .ok (.bool a.isNone) w := Lib.run_eql_slice_nil w _ _ a n c n' c' Try.underlying25

theorem own_den {w : World} {base : Nat} {e : TypeId} {v : Value} {n by_ : Nat} {vs : List Value} (h : w.ownsRow base e 1 v n vs) (hb : n * by_ ≤ 140737488351232) : Den by_ w v vs ∧ From base v := by
  have hc := @World.ownsRow.cells _ _ _ _ _ _ _ h
  obtain ⟨hx, ⟨rfl, rfl⟩ | ⟨g, cap, cur, rfl, hf, hh, hnc, hcm, hcs, hat⟩⟩ := h
  · obtain rfl : vs = [] := List.eq_nil_of_length_eq_zero (by simpa using hx)
    exact ⟨Den.nil _ _, fun a n c e => by cases e⟩
  · have hg : g < w.heap.size := by
      rcases Nat.lt_or_ge g w.heap.size with h | h
      · exact h
      · rw [Array.getElem?_eq_none h] at hh; cases hh
    refine ⟨⟨_, _, _, rfl, by omega, hnc, hcm, hb, by simp, fun hn => ⟨g, 0, rfl, hg, fun i hi => ?_⟩⟩, fun a n c e => by cases e; exact hf⟩
    have hiv : vs[i]? = some (vs[i]'(by omega)) := List.getElem?_eq_getElem (by omega)
    have := hc (g := g) rfl i _ hiv
    rw [hiv, ← this]
    simp only [Addr.add, Nat.zero_add]
    split <;> simp_all

theorem Den.news {by_ : Nat} {w : World} {ad : Addr} {n c : Nat} {vs : List Value} (h : Den by_ w (.slice (some ad) n c) vs) : ∀ j u, vs[j]? = some u → w.cell? (ad.add j) = some u := by
  intro j u hu
  have hl := h.len
  have hj : j < n := by rw [← hl]; exact (List.getElem?_eq_some_iff.1 hu).1
  obtain ⟨b, o, e, hc⟩ := h.at (by omega)
  cases e
  rw [← hu, ← hc j hj]
  unfold Addr.add
  split <;> simp_all
theorem byts_one (xs : List Int) : ∀ u ∈ byts xs, u.oneCell' = true := by
  intro u hu
  obtain ⟨x, _, rfl⟩ := List.mem_map.1 hu
  rfl
theorem strs_one (xs : List ByteArray) : ∀ u ∈ strs xs, u.oneCell' = true := by
  intro u hu
  obtain ⟨x, _, rfl⟩ := List.mem_map.1 hu
  rfl
theorem own_empty (w : World) (base : Nat) (e : TypeId) (hb : base ≤ w.heap.size) : (w.alloc (.cells #[] e)).ownsRow base e 1 (.slice (some ⟨w.heap.size, 0, none⟩) 0 0) 0 [] :=
  World.ownsRow_lit (size := 1) w #[] 0 hb (by unfold maxLen; omega) rfl

theorem clone_bytes {w : World} {v : Value} {xs : List Int} (h : Den 1 w v (byts xs)) : Calls Try.prog 15 #[v] w fun e w' => ∃ v', e = .returned v' ∧ Den 1 w' v' (byts xs) ∧ From w.heap.size v' ∧ Below w.heap.size w w' := by
  obtain ⟨ie, hi, hz0, hz1, hz2⟩ := info_parts info5
  obtain ⟨p, n, c, rfl, hl, hnc, hc, hby, hp, hat⟩ := id h
  have hm := h.most
  have q := nil26
  go_enter Try.func15, Try.ntmps15
  cases p with
  | none =>
    obtain ⟨rfl, rfl⟩ := hp rfl
    obtain ⟨p', n', c', e, hl', _⟩ := id h
    cases e
    rw [List.eq_nil_of_length_eq_zero hl'] at h ⊢
    go_wp2_with fail
    go_ret
    exact ⟨.slice none 0 0, rfl, h, (fun _ _ _ e => by cases e), Below.refl _ _⟩
  | some ad =>
    have hA : Den 1 (w.alloc (.cells #[] 5)) (.slice (some ad) n c) (byts xs) := h.below ((Below.refl _ _).alloc (Nat.le_refl _) _)
    have hO := own_empty w w.heap.size 5 (Nat.le_refl _)
    clear hat hp
    go_wp2_with (at_builtin; refine wpList_append_own _ rfl (.tmp 5) (.tmp 6) 24 rfl w.heap.size 5 ie _ 1 1 Try.underlying24 hi hz0 hz1 hz2 rfl (by decide) (.slice (some ⟨w.heap.size, 0, none⟩) 0 0) 0 [] rfl hO ad n c (byts xs) rfl (by rw [Nat.mul_one]; exact hA.len) hA.news (byts_one xs) (by omega) (by omega) (by simp) ?_; rintro v' w' hown hgrow _)
    go_ret
    obtain ⟨d1, d2⟩ := own_den (by_ := 1) hown (by omega)
    exact ⟨v', rfl, by simpa using d1, d2, (((Below.refl _ _).alloc (Nat.le_refl _) _).trans (Frm.below (l := [w.heap.size]) (Frm.of_grown hgrow (fun k hk _ => by simpa [Value.ownBlock, eq_comm] using hk)) (by simp) (by simp)))⟩
theorem clone_strs {w : World} {v : Value} {xs : List ByteArray} (h : Den 16 w v (strs xs)) : Calls Try.prog 20 #[v] w fun e w' => ∃ v', e = .returned v' ∧ Den 16 w' v' (strs xs) ∧ From w.heap.size v' ∧ Below w.heap.size w w' := by
  obtain ⟨ie, hi, hz0, hz1, hz2⟩ := info_parts info9
  obtain ⟨p, n, c, rfl, hl, hnc, hc, hby, hp, hat⟩ := id h
  have hm := h.most
  have q := nil29
  go_enter Try.func20, Try.ntmps20
  cases p with
  | none =>
    obtain ⟨rfl, rfl⟩ := hp rfl
    obtain ⟨p', n', c', e, hl', _⟩ := id h
    cases e
    rw [List.eq_nil_of_length_eq_zero hl'] at h ⊢
    go_wp2_with fail
    go_ret
    exact ⟨.slice none 0 0, rfl, h, (fun _ _ _ e => by cases e), Below.refl _ _⟩
  | some ad =>
    have hA : Den 16 (w.alloc (.cells #[] 9)) (.slice (some ad) n c) (strs xs) := h.below ((Below.refl _ _).alloc (Nat.le_refl _) _)
    have hO := own_empty w w.heap.size 9 (Nat.le_refl _)
    clear hat hp
    go_wp2_with (at_builtin; refine wpList_append_own _ rfl (.tmp 5) (.tmp 6) 25 rfl w.heap.size 9 ie _ 1 16 Try.underlying25 hi hz0 hz1 hz2 rfl (by decide) (.slice (some ⟨w.heap.size, 0, none⟩) 0 0) 0 [] rfl hO ad n c (strs xs) rfl (by rw [Nat.mul_one]; exact hA.len) hA.news (strs_one xs) (by omega) (by omega) (by simp) ?_; rintro v' w' hown hgrow _)
    go_ret
    obtain ⟨d1, d2⟩ := own_den (by_ := 16) hown (by omega)
    exact ⟨v', rfl, by simpa using d1, d2, (((Below.refl _ _).alloc (Nat.le_refl _) _).trans (Frm.below (l := [w.heap.size]) (Frm.of_grown hgrow (fun k hk _ => by simpa [Value.ownBlock, eq_comm] using hk)) (by simp) (by simp)))⟩
end Go.Proofs.Ytjefjonogbkknaa
