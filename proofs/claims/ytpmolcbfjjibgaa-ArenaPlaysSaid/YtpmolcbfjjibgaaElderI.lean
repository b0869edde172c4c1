/- An arena, two lists of handles and a list of numbers beside it, all apart; the steps of ArenaElder. -/
import Derived.Test.YtpmolcbfjjibgaaElder
namespace Go.Proofs.Ytpmolcbfjjibgaa
open Go.RowKit

def ints (l : List Int) : List Value := l.map fun z : Int => Value.int .i64 z
theorem ints_length (l : List Int) : (ints l).length = l.length := by simp [ints]

structure Inv3 (T : AS → Prop) (w wr : World) (b : Nat) (lv : Value) (live : List (Nat × Int)) (dv : Value) (dead : List (Nat × Int)) (hv : Value) (hold : List Int) (l : List Nat) (s : AS) : Prop where
  inv : Inv T w wr b lv (hp live) dv (hp dead) l s
  hw : Win wr w.heap.size 2 1 hv hold.length (ints hold)
  ha : ∀ k, hv.ownBlock = some k → k ∉ l
  hl : ∀ k, hv.ownBlock = some k → lv.ownBlock ≠ some k
  hd : ∀ k, hv.ownBlock = some k → dv.ownBlock ≠ some k

variable {T T' : AS → Prop} {w wr w' : World} {b n i : Nat} {lv dv hv : Value} {live dead : List (Nat × Int)} {hold : List Int} {l : List Nat} {s : AS}

theorem Inv3.step (h : Inv3 T w wr b lv live dv dead hv hold l s) {l' : List Nat} {s' : AS} (ha : Ar w' w.heap.size b l' s') (hn : Fresh wr l l') (hf : Frm l wr w') (ht : T' s') : Inv3 T' w w' b lv live dv dead hv hold l' s' :=
  ⟨h.inv.step ha hn hf ht, h.hw.frm hf (fun k hk e => h.ha k e hk), fun k hk => hn.out (h.ha k hk) (h.hw.lt k hk).2, h.hl, h.hd⟩
theorem Inv3.below (h : Inv3 T w wr b lv live dv dead hv hold l s) (hb : Below wr.heap.size wr w') : Inv3 T w w' b lv live dv dead hv hold l s :=
  ⟨h.inv.below hb, h.hw.below hb, h.ha, h.hl, h.hd⟩
theorem Inv3.alloc (h : Inv3 T w wr b lv live dv dead hv hold l s) (o : Obj) : Inv3 T w (wr.alloc o) b lv live dv dead hv hold l s := h.below ((Below.refl _ _).alloc (Nat.le_refl _) o)
theorem Inv3.turn (h : Inv3 T w wr b lv live dv dead hv hold l s) (ht : T s → T' s) : Inv3 T' w wr b lv live dv dead hv hold l s := ⟨h.inv.turn ht, h.hw, h.ha, h.hl, h.hd⟩

theorem Inv3.push_live (h : Inv3 T w wr b lv live dv dead hv hold l s) {f o cap : Nat} {p : Nat × Int} (hg : wr.grownBy w' lv.ownBlock)
    (hw : Win w' w.heap.size 30 2 (.slice (some ⟨f, o, none⟩) (live.length + 1) cap) (live.length + 1) (prs (hp live) ++ prs [((p.1 : Int), p.2)])) (hat : lv.ownBlock = some f ∨ wr.heap.size ≤ f) :
    Inv3 T w w' b (.slice (some ⟨f, o, none⟩) (live.length + 1) cap) (live ++ [p]) dv dead hv hold l s := by
  have F : Frm lv.ownBlock.toList wr w' := Frm.of_grown hg (fun k hk _ => by simp [hk])
  rw [← hp_length live] at hw ⊢
  have := h.inv.push_live hg hw hat
  rw [hp_snoc] at this
  refine ⟨this, h.hw.frm F (fun k hk e => h.hl k e (by simpa using hk)), h.ha, fun k hk e => ?_, h.hd⟩
  obtain rfl : f = k := by simpa [Value.ownBlock] using e
  rcases hat with e | e
  · exact h.hl _ hk e
  · have := (h.hw.lt _ hk).2; omega
theorem Inv3.push_dead (h : Inv3 T w wr b lv live dv dead hv hold l s) {f o cap : Nat} {p : Nat × Int} (hg : wr.grownBy w' dv.ownBlock)
    (hw : Win w' w.heap.size 30 2 (.slice (some ⟨f, o, none⟩) (dead.length + 1) cap) (dead.length + 1) (prs (hp dead) ++ prs [((p.1 : Int), p.2)])) (hat : dv.ownBlock = some f ∨ wr.heap.size ≤ f) :
    Inv3 T w w' b lv live (.slice (some ⟨f, o, none⟩) (dead.length + 1) cap) (dead ++ [p]) hv hold l s := by
  have F : Frm dv.ownBlock.toList wr w' := Frm.of_grown hg (fun k hk _ => by simp [hk])
  rw [← hp_length dead] at hw ⊢
  have := h.inv.push_freed hg hw hat
  rw [hp_snoc] at this
  refine ⟨this, h.hw.frm F (fun k hk e => h.hd k e (by simpa using hk)), h.ha, h.hl, fun k hk e => ?_⟩
  obtain rfl : f = k := by simpa [Value.ownBlock] using e
  rcases hat with e | e
  · exact h.hd _ hk e
  · have := (h.hw.lt _ hk).2; omega
theorem Inv3.push_hold (h : Inv3 T w wr b lv live dv dead hv hold l s) {f o cap : Nat} {z : Int} (hg : wr.grownBy w' hv.ownBlock)
    (hw : Win w' w.heap.size 2 1 (.slice (some ⟨f, o, none⟩) (hold.length + 1) cap) (hold.length + 1) (ints hold ++ [.int .i64 z])) (hat : hv.ownBlock = some f ∨ wr.heap.size ≤ f) :
    Inv3 T w w' b lv live dv dead (.slice (some ⟨f, o, none⟩) (hold.length + 1) cap) (hold ++ [z]) l s := by
  have F : Frm hv.ownBlock.toList wr w' := Frm.of_grown hg (fun k hk _ => by simp [hk])
  have I := h.inv
  refine ⟨⟨I.ar.frm F (fun k hk => h.ha k (by simpa using hk)), I.law, I.lw.frm F (fun k hk e => h.hl k (by simpa using hk) e), I.fw.frm F (fun k hk e => h.hd k (by simpa using hk) e), I.la, I.fa, I.lf, ?_⟩, by simpa [ints] using hw, ?_, ?_, ?_⟩
  · exact I.bel.trans (F.below I.bel.size (fun k hk => (h.hw.lt k (by simpa using hk)).1))
  · intro k hk hm
    obtain rfl : f = k := by simpa [Value.ownBlock] using hk
    rcases hat with e | e
    · exact h.ha _ e hm
    · have := (I.ar.foot_lt _ hm).2; omega
  · intro k hk e'
    obtain rfl : f = k := by simpa [Value.ownBlock] using hk
    rcases hat with e | e
    · exact h.hl _ e e'
    · have := (I.lw.lt _ e').2; omega
  · intro k hk e'
    obtain rfl : f = k := by simpa [Value.ownBlock] using hk
    rcases hat with e | e
    · exact h.hd _ e e'
    · have := (I.fw.lt _ e').2; omega

theorem Inv3.lw (h : Inv3 T w wr b lv live dv dead hv hold l s) : Win wr w.heap.size 30 2 lv live.length (prs (hp live)) := by have := h.inv.lw; rwa [hp_length] at this
theorem Inv3.fw (h : Inv3 T w wr b lv live dv dead hv hold l s) : Win wr w.heap.size 30 2 dv dead.length (prs (hp dead)) := by have := h.inv.fw; rwa [hp_length] at this
/-- The first is dropped: of the live handles; of the numbers. -/
theorem Inv3.cut_live {p : Nat × Int} (h : Inv3 T w wr b lv (p :: live) dv dead hv hold l s) {lv' : Value} (hw : Win wr w.heap.size 30 2 lv' live.length (prs (hp live))) (ho : lv'.ownBlock = lv.ownBlock) : Inv3 T w wr b lv' live dv dead hv hold l s :=
  have I := h.inv
  ⟨⟨I.ar, I.law, by rw [hp_length]; exact hw, I.fw, by rw [ho]; exact I.la, I.fa, by rw [ho]; exact I.lf, I.bel⟩, h.hw, h.ha, by rw [ho]; exact h.hl, h.hd⟩
theorem Inv3.cut_hold {z : Int} (h : Inv3 T w wr b lv live dv dead hv (z :: hold) l s) {hv' : Value} (hw : Win wr w.heap.size 2 1 hv' hold.length (ints hold)) (ho : hv'.ownBlock = hv.ownBlock) : Inv3 T w wr b lv live dv dead hv' hold l s :=
  ⟨h.inv, hw, by rw [ho]; exact h.ha, by rw [ho]; exact h.hl, by rw [ho]; exact h.hd⟩

theorem w64 {x : Int} (h0 : 0 ≤ x) (h1 : x ≤ 1000) : wrap64 (x + 1) = x + 1 := by unfold wrap64; omega

theorem inv3_new (n : Nat) (w : World) (h1 : 1 ≤ n) (h2 : n ≤ 64) :
    Calls Try.prog 9 #[.int .i64 n] w fun e w' => e = .returned (.tuple #[.pointer (some ⟨w.heap.size + 1, 0, none⟩), .int .i64 0]) ∧ ∃ l s, Inv3 (El n 0 [] [] []) w w' (w.heap.size + 1) (.slice none 0 0) [] (.slice none 0 0) [] (.slice none 0 0) [] l s := by
  refine (ar_new n w h1 h2).mono ?_
  rintro e w' ⟨rfl, ⟨l, ha⟩, B⟩
  exact ⟨rfl, l, _, ⟨ha, El.new n, Win.nil _ _ _ _, Win.nil _ _ _ _, by simp [Value.ownBlock], by simp [Value.ownBlock], by simp [Value.ownBlock], B⟩, Win.nil _ _ _ _, by simp [Value.ownBlock], by simp [Value.ownBlock], by simp [Value.ownBlock]⟩

theorem inv3_take (h : Inv3 (El n i live dead hold) w wr b lv live dv dead hv hold l s) (hi : i ≤ 1000) (hlt : live.length < n) (v : Int) :
    Calls Try.prog 10 #[.pointer (some ⟨b, 0, none⟩), .int .i64 v] wr fun e w' => ∃ (k : Nat) (g : Int), e = .returned (.tuple #[.agg #[.int .i64 k, .int .i64 g], .int .i64 0]) ∧
      ∃ s', Inv3 (El n (i + 1) (live ++ [(k, g)]) dead (hold ++ [v])) w w' b lv live dv dead hv hold l s' := by
  have E := h.inv.law
  have hc := E.count
  obtain ⟨k, r, hf⟩ : ∃ k r, s.free = k :: r := by
    cases e : s.free with
    | nil => rw [e] at hc; simp at hc; omega
    | cons k r => exact ⟨k, r, rfl⟩
  have hk := E.lt_free (j := k) (by simp [hf])
  have hg := E.gens k hk
  refine (ar_take h.inv.ar v k r hf (by rw [E.len]; exact hk)).mono ?_
  rintro e w' ⟨rfl, ha, hF⟩
  have hw : wrap64 ((s.sl.getD k (0, 0)).1 + 1) = gen s k + 1 := w64 (x := gen s k) hg.1 (by omega)
  rw [hw] at ha ⊢
  exact ⟨k, _, rfl, _, h.step ha (Fresh.same _ _) hF (E.take hf v)⟩
theorem inv3_full (h : Inv3 (El n i live dead hold) w wr b lv live dv dead hv hold l s) (hlt : ¬ live.length < n) (v : Int) :
    Calls Try.prog 10 #[.pointer (some ⟨b, 0, none⟩), .int .i64 v] wr fun e w' => e = .returned (.tuple #[.agg #[.int .i64 0, .int .i64 0], .int .i64 13]) ∧ Inv3 (El n i live dead hold) w w' b lv live dv dead hv hold l s := by
  have E := h.inv.law
  have hc := E.count
  refine (ar_full h.inv.ar v (List.eq_nil_of_length_eq_zero (by omega))).mono ?_
  rintro e w' ⟨rfl, B⟩
  exact ⟨rfl, h.below B⟩
theorem inv3_free {k : Nat} {g v0 : Int} (h : Inv3 (El n i ((k, g) :: live) dead (v0 :: hold)) w wr b lv ((k, g) :: live) dv dead hv (v0 :: hold) l s) (hi : i ≤ 1000) (hn : n ≤ 64) :
    Calls Try.prog 11 #[.pointer (some ⟨b, 0, none⟩), .agg #[.int .i64 k, .int .i64 g]] wr fun e w' => e = .returned (.int .i64 0) ∧
      ∃ l' s', Inv3 (El n (i + 1) live (dead ++ [(k, g)]) hold) w w' b lv ((k, g) :: live) dv dead hv (v0 :: hold) l' s' := by
  have E := h.inv.law
  have hk := E.lt_live (p := (k, g)) (by simp)
  obtain ⟨ha, hodd⟩ := E.alive (k, g) (by simp)
  have hg := E.gens k hk
  have hc := E.count
  refine (ar_free h.inv.ar k g (by rw [E.len]; exact hk) ha hodd (by omega)).mono ?_
  rintro e w' ⟨rfl, ⟨l', a', hfr⟩, hF⟩
  simp only at ha
  rw [w64 (by omega) (by omega)] at a'
  exact ⟨rfl, l', _, h.step a' hfr hF E.free⟩
theorem inv3_gone (h : Inv3 (El n i live dead hold) w wr b lv live dv dead hv hold l s) (q : Nat) (hq : q < dead.length) (k : Nat) (g : Int) (hd : dead.getD q (0, 0) = (k, g)) :
    Calls Try.prog 14 #[.pointer (some ⟨b, 0, none⟩), .agg #[.int .i64 k, .int .i64 g]] wr fun e w' => e = .returned (.tuple #[.int .i64 0, .int .i64 14]) ∧ ∃ s', Inv3 (El n i live dead hold) w w' b lv live dv dead hv hold l s' := by
  have E := h.inv.law
  have hm : (k, g) ∈ dead := by rw [← hd]; simp [hq]
  obtain ⟨h1, h2⟩ := E.gone _ hm
  refine (ar_get_gone h.inv.ar k g (by rw [E.len]; exact h1) (.inl (by show gen s k ≠ g; simp only at h2; omega))).mono ?_
  rintro e w' ⟨rfl, ha, hF⟩
  exact ⟨rfl, _, h.step ha (Fresh.same _ _) hF (E.stale _)⟩
theorem inv3_get (h : Inv3 (El n i live dead hold) w wr b lv live dv dead hv hold l s) (q : Nat) (hq : q < live.length) (k : Nat) (g : Int) (hd : live.getD q (0, 0) = (k, g)) :
    Calls Try.prog 14 #[.pointer (some ⟨b, 0, none⟩), .agg #[.int .i64 k, .int .i64 g]] wr fun e w' => e = .returned (.tuple #[.int .i64 (hold.getD q 0), .int .i64 0]) ∧ Inv3 (El n i live dead hold) w w' b lv live dv dead hv hold l s := by
  have E := h.inv.law
  have hm : (k, g) ∈ live := by rw [← hd]; simp [hq]
  have h1 := E.lt_live hm
  obtain ⟨h2, h3⟩ := E.alive _ hm
  refine (ar_get h.inv.ar k g (by rw [E.len]; exact h1) h2 h3).mono ?_
  rintro e w' ⟨rfl, B⟩
  refine ⟨?_, h.below B⟩
  have : hold.getD q 0 = val s k := by
    rw [E.holds]
    have e2 : live[q]? = some (k, g) := by
      rw [List.getElem?_eq_getElem hq, ← hd]; simp [hq]
    simp [List.getD_eq_getElem?_getD, e2]
  rw [this]; rfl
theorem El.hold_len (h : El n i live dead hold s) : hold.length = live.length := by rw [h.holds]; simp
end Go.Proofs.Ytpmolcbfjjibgaa
