/- append of whatever slice of one-cell elements to a slice of the call's own; x ^ 1. -/
import Derived.Test.YtidonelhapmceaaSame
import Derived.Laws.AppendOwnNone
namespace Go.Proofs.Ytidonelhapmceaa
open Go.RowKit

theorem wpList_append_den {P : Program} {w : World} {ops : Array Oper} {rest : List Oper} {o : Oper} {a : Act} {Q : Exit → Act → World → Prop} (hgd : o.guard = none) (s x : Operand) (t : TypeId)
    (ho : o.op = .call { callee := .builtin .append, args := #[s, x], argTypes := #[t, t] })
    (base B : Nat) (e : TypeId) (i : TypeInfo) (z : Value) (by_ : Nat) (ht : P.underlying t = some (.slice e)) (hi : P.info? e = some i) (hz : i.zero = some z) (hsize : i.size = 1) (hby : i.bytes = by_) (hzs : z.cells.size = 1)
    (hs : a.eval s = .slice (some ⟨B, 0, none⟩) 0 0) (hown : w.ownsRow base e 1 (.slice (some ⟨B, 0, none⟩) 0 0) 0 []) (v : Value) (vs : List Value) (hx : a.eval x = v) (hd : Den by_ w v vs) (h1 : ∀ u ∈ vs, u.oneCell' = true) (hbase : base ≤ w.heap.size)
    (h : ∀ p c w', Den by_ w' (.slice p vs.length c) vs → From base (.slice p vs.length c) → Win w' base e 1 (.slice p vs.length c) vs.length vs → w.grownBy w' (some B) → wpList P ops Q rest (a.put o.dst (.slice p vs.length c)) w') : wpList P ops Q (o :: rest) a w := by
  refine wpList_plain hgd fun K hK => ?_
  obtain ⟨p, n, c, rfl, hl, hnc, hc, hb, hp, hat⟩ := id hd
  cases p with
  | none =>
    obtain ⟨rfl, rfl⟩ := hp rfl
    obtain rfl : vs = [] := List.eq_nil_of_length_eq_zero hl
    have hr := run_append_owned_none (P := P) (w := w) base t o.type e i 1 ht hi (.slice (some ⟨B, 0, none⟩) 0 0) 0 [] hown
    unfold Oper.wp execOp
    simp only [ho, resolve, invoke, builtin, Sem.run_bind, Sem.run_pure, Result.andThen_ok, List.map_toArray, List.map_cons, List.map_nil, hs, hx, hr]
    exact hK _ _ (h _ _ w ⟨_, _, _, rfl, rfl, Nat.le_refl _, by unfold maxLen; omega, by omega, by simp, fun h => absurd h (by simp)⟩ (fun _ _ _ e => by cases e) (Win.of_own hown) (World.grownBy.refl w _))
  | some ad =>
    obtain ⟨v', w', hr, h2, h3, _⟩ := run_append_own (P := P) w base t o.type e i z 1 by_ ht hi hz hsize hby hzs (by decide) (.slice (some ⟨B, 0, none⟩) 0 0) 0 [] hown ad n c vs (by rw [Nat.mul_one]; exact hl) hd.news h1 (by have := hd.most; omega) (by rw [Nat.zero_add]; omega) hbase
    rw [Nat.zero_add] at h2
    obtain ⟨d1, d2⟩ := own_den (by_ := by_) h2 hb
    rw [List.nil_append] at d1 h2
    obtain ⟨p', c', rfl⟩ := d1.value
    unfold Oper.wp execOp
    simp only [ho, resolve, invoke, builtin, Sem.run_bind, Sem.run_pure, Result.andThen_ok, List.map_toArray, List.map_cons, List.map_nil, hs, hx, hr]
    exact hK _ _ (h _ _ w' d1 d2 (by have h4 := Win.of_own h2; rwa [← hl] at h4) h3)

theorem win_den {w : World} {base : Nat} {e : TypeId} {v : Value} {n : Nat} {vs : List Value} (h : Win w base e 1 v n vs) : Den 0 w v vs := by
  obtain ⟨hx, ⟨rfl, rfl⟩ | ⟨f, o, cap, cur, rfl, hf, hh, hnc, hcm, hcs, hat⟩⟩ := h
  · obtain rfl : vs = [] := List.eq_nil_of_length_eq_zero (by simpa using hx)
    exact Den.nil _ _
  · have hfl : f < w.heap.size := by
      rcases Nat.lt_or_ge f w.heap.size with h | h
      · exact h
      · rw [Array.getElem?_eq_none h] at hh; cases hh
    refine ⟨_, _, _, rfl, by omega, hnc, hcm, by omega, by simp, fun hn => ⟨f, o, rfl, hfl, fun i hi => ?_⟩⟩
    rw [cell_of_row w f (o + i) cur e (0, 0) hh]
    exact hat i (by omega)
theorem xor1_ne (x : Int) : bits .xor .i64 x 1 ≠ x := by
  intro h
  have e : bits .xor .i64 x 1 = IntKind.i64.wrap ((BitVec.ofInt 64 x ^^^ BitVec.ofInt 64 1).toNat : Int) := rfl
  rw [e, BitVec.toNat_xor, BitVec.toNat_ofInt, show (BitVec.ofInt 64 1).toNat = 1 from rfl, IntKind.wrap_i64] at h
  rw [show ((2 ^ 64 : Nat) : Int) = 18446744073709551616 from rfl] at h
  have h2 : ∀ N : Nat, (N ^^^ 1) % 2 = 1 - N % 2 := fun N => by
    have := Nat.xor_mod_two_eq_one (a := N) (b := 1)
    omega
  have h3 := h2 (x % 18446744073709551616).toNat
  generalize (x % 18446744073709551616).toNat ^^^ 1 = k at h h3
  omega
end Go.Proofs.Ytidonelhapmceaa
