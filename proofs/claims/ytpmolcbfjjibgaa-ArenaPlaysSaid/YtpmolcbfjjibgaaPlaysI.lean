/- An arena, the document's own beside it, the handles that were answered, and variables, all apart; the steps of ArenaPlays. -/
import Derived.Test.YtpmolcbfjjibgaaRef4
import Derived.Test.YtpmolcbfjjibgaaElderI
namespace Go.Proofs.Ytpmolcbfjjibgaa
open Go.RowKit

/-- What each call answers, and what it leaves. -/
def opTake (s : AS) (v : Int) : (Int × Int × Int) × AS := match s.free with
  | [] => ((0, 0, 13), s)
  | k :: r => (((k : Int), gen s k + 1, 0), { s with sl := s.sl.set k (gen s k + 1, v), free := r })
def opFree (s : AS) (k g : Int) : Int × AS :=
  if k < 0 ∨ (s.sl.length : Int) ≤ k then (1, s) else if gen s k.toNat = g ∧ g % 2 = 1 then (0, { s with sl := s.sl.set k.toNat (g + 1, 0), free := s.free ++ [k.toNat] }) else (14, { s with stale := wrap64 (s.stale + 1) })
def opGet (s : AS) (k g : Int) : (Int × Int) × AS :=
  if k < 0 ∨ (s.sl.length : Int) ≤ k then ((0, 1), s) else if gen s k.toNat = g ∧ g % 2 = 1 then ((val s k.toNat, 0), s) else ((0, 14), { s with stale := wrap64 (s.stale + 1) })
def opSet (s : AS) (k g v : Int) : Int × AS :=
  if k < 0 ∨ (s.sl.length : Int) ≤ k then (1, s) else if gen s k.toNat = g ∧ g % 2 = 1 then (0, { s with sl := s.sl.set k.toNat (g, v) }) else (14, { s with stale := wrap64 (s.stale + 1) })

/-- The generations and the free list are small. -/
structure Gd (n m : Nat) (s : AS) : Prop where
  len : s.sl.length = n
  gens : ∀ j, j < n → 0 ≤ gen s j ∧ gen s j ≤ (m : Int)
  free : ∀ k ∈ s.free, k < n
  size : s.free.length ≤ m + 64

theorem gen_set' (s : AS) (k j : Nat) (g v : Int) (hk : k < s.sl.length) : gen { s with sl := s.sl.set k (g, v) } j = if j = k then g else gen s j := by
  unfold gen
  show ((s.sl.set k (g, v)).getD j (0, 0)).1 = _
  rw [getD_set _ _ _ _ hk]
  split <;> rfl

variable {n m : Nat} {s t : AS}
theorem Gd.new (n : Nat) (h : n ≤ 64) : Gd n 0 (AS.new n n) := ⟨by simp [AS.new], fun j hj => by simp [AS.new, gen, hj], fun k hk => by simpa [AS.new] using hk, by simpa [AS.new] using h⟩
theorem Gd.mono (h : Gd n m s) {m' : Nat} (hm : m ≤ m') : Gd n m' s := ⟨h.len, fun j hj => by have := h.gens j hj; omega, h.free, by have := h.size; omega⟩
theorem Gd.stale (h : Gd n m s) (z : Int) : Gd n m { s with stale := z } := ⟨h.len, h.gens, h.free, h.size⟩
theorem Gd.take (h : Gd n m s) (v : Int) : Gd n (m + 1) (opTake s v).2 := by
  unfold opTake
  split
  · exact h.mono (by omega)
  · rename_i k r hf
    have hk := h.free k (by simp [hf])
    have hg := h.gens k hk
    refine ⟨by simpa using h.len, fun j hj => ?_, fun j hj => h.free j (by rw [hf]; exact List.mem_cons_of_mem _ hj), ?_⟩
    · rw [gen_set _ _ _ _ _ _ (by rw [h.len]; exact hk)]
      have := h.gens j hj
      split <;> omega
    · have := h.size
      rw [hf] at this
      simp at this ⊢; omega
theorem Gd.freed (h : Gd n m s) (k g : Int) : Gd n (m + 1) (opFree s k g).2 := by
  unfold opFree
  split
  · exact h.mono (by omega)
  · rename_i hk
    split
    · rename_i hg
      have hk' : k.toNat < n := by rw [← h.len]; omega
      have hb := h.gens k.toNat hk'
      refine ⟨by simpa using h.len, fun j hj => ?_, fun j hj => ?_, ?_⟩
      · rw [gen_set _ _ _ _ _ _ (by rw [h.len]; exact hk')]
        have := h.gens j hj
        split <;> omega
      · rcases List.mem_append.1 hj with hj | hj
        · exact h.free j hj
        · have : j = k.toNat := by simpa using hj
          omega
      · have := h.size
        simp; omega
    · exact (h.stale _).mono (by omega)
theorem Gd.got (h : Gd n m s) (k g : Int) : Gd n (m + 1) (opGet s k g).2 := by
  unfold opGet
  split
  · exact h.mono (by omega)
  · split
    · exact h.mono (by omega)
    · exact (h.stale _).mono (by omega)
theorem Gd.put (h : Gd n m s) (k g v : Int) : Gd n (m + 1) (opSet s k g v).2 := by
  unfold opSet
  split
  · exact h.mono (by omega)
  · rename_i hk
    split
    · rename_i hg
      have hk' : k.toNat < n := by rw [← h.len]; omega
      have hb := h.gens k.toNat hk'
      refine ⟨by simpa using h.len, fun j hj => ?_, h.free, by have := h.size; simp; omega⟩
      rw [gen_set' _ _ _ _ _ (by rw [h.len]; exact hk')]
      have := h.gens j hj
      split <;> omega
    · exact (h.stale _).mono (by omega)

structure Pl (w wr : World) (b r : Nat) (l lr : List Nat) (hv : Value) (had : List (Int × Int)) (vs : List (Nat × Array Value)) (s t : AS) : Prop where
  ar : Ar wr w.heap.size b l s
  rf : Rf wr w.heap.size r lr t
  hw : Win wr w.heap.size 30 2 hv had.length (prs had)
  vars : ∀ p ∈ vs, Holds wr p.1 p.2 ∧ p.1 ∉ l ∧ p.1 ∉ lr ∧ hv.ownBlock ≠ some p.1
  dis : ∀ k ∈ l, k ∉ lr
  ha : ∀ k, hv.ownBlock = some k → k ∉ l
  hr : ∀ k, hv.ownBlock = some k → k ∉ lr
  bel : Below w.heap.size w wr

variable {w wr w' : World} {b r : Nat} {l lr : List Nat} {hv : Value} {had : List (Int × Int)} {vs : List (Nat × Array Value)}
theorem Fresh.mem {w : World} {l l' : List Nat} (h : Fresh w l l') {q : Nat} (hq : q ∈ l') (hl : q < w.heap.size) : q ∈ l := by
  rcases h q hq with h | h
  · exact h
  · omega
theorem Pl.stepA (h : Pl w wr b r l lr hv had vs s t) {l' : List Nat} {s' : AS} (ha : Ar w' w.heap.size b l' s') (hn : Fresh wr l l') (hf : Frm l wr w') : Pl w w' b r l' lr hv had vs s' t :=
  ⟨ha, h.rf.frm hf h.dis, h.hw.frm hf (fun k hk e => h.ha k e hk), fun p hp => have v := h.vars p hp; ⟨v.1.frm hf v.2.1, hn.out v.2.1 v.1.lt, v.2.2.1, v.2.2.2⟩,
    fun k hk hm => h.dis k (hn.mem hk (h.rf.foot_lt k hm).2) hm, fun k hk => hn.out (h.ha k hk) (h.hw.lt k hk).2, h.hr, below_ar h.bel h.ar hf (Nat.le_refl _)⟩
theorem Pl.stepR (h : Pl w wr b r l lr hv had vs s t) {lr' : List Nat} {t' : AS} (ha : Rf w' w.heap.size r lr' t') (hn : Fresh wr lr lr') (hf : Frm lr wr w') : Pl w w' b r l lr' hv had vs s t' :=
  ⟨h.ar.frm hf (fun k hk hm => h.dis k hm hk), ha, h.hw.frm hf (fun k hk e => h.hr k e hk), fun p hp => have v := h.vars p hp; ⟨v.1.frm hf v.2.2.1, v.2.1, hn.out v.2.2.1 v.1.lt, v.2.2.2⟩,
    fun k hk hm => h.dis k hk (hn.mem hm (h.ar.foot_lt k hk).2), h.ha, fun k hk => hn.out (h.hr k hk) (h.hw.lt k hk).2, below_frm h.bel hf h.bel.size (fun k hk => (h.rf.foot_lt k hk).1)⟩
theorem Pl.below (h : Pl w wr b r l lr hv had vs s t) (hb : Below wr.heap.size wr w') : Pl w w' b r l lr hv had vs s t :=
  ⟨h.ar.below hb, h.rf.below hb, h.hw.below hb, fun p hp => have v := h.vars p hp; ⟨v.1.below hb, v.2⟩, h.dis, h.ha, h.hr, h.bel.trans (hb.mono h.bel.size)⟩
theorem Pl.alloc (h : Pl w wr b r l lr hv had vs s t) (o : Obj) : Pl w (wr.alloc o) b r l lr hv had vs s t := h.below ((Below.refl _ _).alloc (Nat.le_refl _) o)
theorem Pl.drew (h : Pl w wr b r l lr hv had vs s t) : Pl w wr.drew b r l lr hv had vs s t := h.below (Below.refl _ _).drew
theorem Pl.bind (h : Pl w wr b r l lr hv had vs s t) (cs : Array Value) (ty : TypeId) : Pl w (wr.alloc (.cells cs ty)) b r l lr hv had ((wr.heap.size, cs) :: vs) s t := by
  have h' := h.alloc (.cells cs ty)
  refine ⟨h'.ar, h'.rf, h'.hw, fun p hp => ?_, h.dis, h.ha, h.hr, h'.bel⟩
  rcases List.mem_cons.1 hp with rfl | hp
  · exact ⟨Holds.new _ _ _, fun hm => by have := (h.ar.foot_lt _ hm).2; simp at this, fun hm => by have := (h.rf.foot_lt _ hm).2; simp at this, fun e => by have := (h.hw.lt _ e).2; simp at this⟩
  · exact h'.vars p hp
theorem Pl.unbind {q : List (Nat × Array Value)} (h : Pl w wr b r l lr hv had vs s t) (hq : ∀ p ∈ q, p ∈ vs) : Pl w wr b r l lr hv had q s t := ⟨h.ar, h.rf, h.hw, fun p hp => h.vars p (hq p hp), h.dis, h.ha, h.hr, h.bel⟩
theorem Pl.push (h : Pl w wr b r l lr hv had vs s t) {f o cap : Nat} {p : Int × Int} (hg : wr.grownBy w' hv.ownBlock)
    (hw : Win w' w.heap.size 30 2 (.slice (some ⟨f, o, none⟩) (had.length + 1) cap) (had.length + 1) (prs had ++ prs [p])) (hat : hv.ownBlock = some f ∨ wr.heap.size ≤ f) :
    Pl w w' b r l lr (.slice (some ⟨f, o, none⟩) (had.length + 1) cap) (had ++ [p]) vs s t := by
  have F : Frm hv.ownBlock.toList wr w' := Frm.of_grown hg (fun k hk _ => by simp [hk])
  have ne : ∀ k, k < wr.heap.size → hv.ownBlock ≠ some k → f ≠ k := by
    rintro k h1 h2 rfl
    rcases hat with e | e
    · exact h2 e
    · omega
  refine ⟨h.ar.frm F (fun k hk => h.ha k (by simpa using hk)), h.rf.frm F (fun k hk => h.hr k (by simpa using hk)), by simpa [prs_append] using hw, fun p hp => ?_, h.dis, ?_, ?_, ?_⟩
  · have v := h.vars p hp
    exact ⟨v.1.frm F (by simpa using v.2.2.2), v.2.1, v.2.2.1, fun e => ne _ v.1.lt v.2.2.2 (by simpa [Value.ownBlock] using e)⟩
  · intro k hk hm
    obtain rfl : f = k := by simpa [Value.ownBlock] using hk
    exact ne f (h.ar.foot_lt f hm).2 (fun e => h.ha f e hm) rfl
  · intro k hk hm
    obtain rfl : f = k := by simpa [Value.ownBlock] using hk
    exact ne f (h.rf.foot_lt f hm).2 (fun e => h.hr f e hm) rfl
  · exact h.bel.trans (F.below h.bel.size (fun k hk => (h.hw.lt k (by simpa using hk)).1))

theorem wgen {x : Int} (hs : Gd n m s) (hm : m ≤ 1000) {k : Nat} (hk : k < n) (hx : gen s k = x) : wrap64 (x + 1) = x + 1 := by
  have := hs.gens k hk
  unfold wrap64; omega

theorem pl_take (h : Pl w wr b r l lr hv had vs s t) (hs : Gd n m s) (hm : m ≤ 1000) (v : Int) {a c e : Int} {s' : AS} (ho : opTake s v = ((a, c, e), s')) :
    Calls Try.prog 10 #[.pointer (some ⟨b, 0, none⟩), .int .i64 v] wr fun x w' => x = .returned (.tuple #[.agg #[.int .i64 a, .int .i64 c], .int .i64 e]) ∧ Pl w w' b r l lr hv had vs s' t := by
  unfold opTake at ho
  split at ho
  · rename_i hf
    cases ho
    refine (ar_full h.ar v hf).mono ?_
    rintro x w' ⟨rfl, B⟩
    exact ⟨rfl, h.below B⟩
  · rename_i k q hf
    have hk := hs.free k (by simp [hf])
    cases ho
    refine (ar_take h.ar v k q hf (by rw [hs.len]; exact hk)).mono ?_
    rintro x w' ⟨rfl, ha, hF⟩
    have hw : wrap64 ((s.sl.getD k (0, 0)).1 + 1) = gen s k + 1 := wgen hs hm hk rfl
    rw [hw] at ha ⊢
    exact ⟨rfl, h.stepA ha (Fresh.same _ _) hF⟩
theorem pl_rtake (h : Pl w wr b r l lr hv had vs s t) (hs : Gd n m t) (hm : m ≤ 1000) (v : Int) {a c e : Int} {t' : AS} (ho : opTake t v = ((a, c, e), t')) :
    Calls Try.prog 20 #[.pointer (some ⟨r, 0, none⟩), .int .i64 v] wr fun x w' => x = .returned (.tuple #[.agg #[.int .i64 a, .int .i64 c], .int .i64 e]) ∧ Pl w w' b r l lr hv had vs s t' := by
  obtain ⟨gc, vc, tv, hR, hl⟩ := h.rf
  unfold opTake at ho
  split at ho
  · rename_i hf
    cases ho
    refine (rtake_full _ _ _ _ _ _ v _ hR hf).mono ?_
    rintro x w' ⟨rfl, B⟩
    exact ⟨rfl, h.below B⟩
  · rename_i k q hf
    have hk := hs.free k (by simp [hf])
    cases ho
    refine (rtake_one _ _ _ _ _ _ v _ hR k q hf (by rw [hs.len]; exact hk)).mono ?_
    rintro x w' ⟨rfl, ⟨tv', ha, ho'⟩, hF⟩
    have hw : wrap64 ((t.sl.getD k (0, 0)).1 + 1) = gen t k + 1 := wgen hs hm hk rfl
    rw [hw] at ha ⊢
    exact ⟨rfl, h.stepR ⟨gc, vc, tv', ha, by rw [hl, rfoot, rfoot, ho']⟩ (Fresh.same _ _) (hF.mono (by rw [hl]; simp [rfoot]))⟩

theorem not_good {k g : Int} (_hk : ¬ (k < 0 ∨ (s.sl.length : Int) ≤ k)) (hg : ¬ (gen s k.toNat = g ∧ g % 2 = 1)) : (s.sl.getD k.toNat (0, 0)).1 ≠ g ∨ g % 2 = 0 := by
  by_cases h : gen s k.toNat = g
  · right
    have : g % 2 ≠ 1 := fun e => hg ⟨h, e⟩
    omega
  · exact .inl h

theorem pl_free (h : Pl w wr b r l lr hv had vs s t) (hs : Gd n m s) (hm : m ≤ 1000) {k g e : Int} {s' : AS} (ho : opFree s k g = (e, s')) :
    Calls Try.prog 11 #[.pointer (some ⟨b, 0, none⟩), .agg #[.int .i64 k, .int .i64 g]] wr fun x w' => x = .returned (.int .i64 e) ∧ ∃ l', Pl w w' b r l' lr hv had vs s' t := by
  unfold opFree at ho
  split at ho
  · rename_i hk
    cases ho
    exact (ar_free_arg h.ar k g hk).mono fun x w' ⟨e, B⟩ => ⟨e, l, h.below B⟩
  · rename_i hk
    obtain ⟨q, rfl⟩ : ∃ q : Nat, k = q := ⟨k.toNat, by omega⟩
    rw [Int.toNat_natCast] at ho
    have hq : q < s.sl.length := by omega
    split at ho
    · rename_i hg
      cases ho
      refine (ar_free h.ar q g hq hg.1 hg.2 (by have := hs.size; omega)).mono ?_
      rintro x w' ⟨rfl, ⟨l', ha, hfr⟩, hF⟩
      rw [wgen hs hm (k := q) (by rw [← hs.len]; exact hq) hg.1] at ha
      exact ⟨rfl, l', h.stepA ha hfr hF⟩
    · rename_i hg
      cases ho
      refine (ar_free_gone h.ar q g hq (by have := not_good hk (by rw [Int.toNat_natCast]; exact hg); rwa [Int.toNat_natCast] at this)).mono ?_
      rintro x w' ⟨rfl, ha, hF⟩
      exact ⟨rfl, l, h.stepA ha (Fresh.same _ _) hF⟩
theorem pl_rfree (h : Pl w wr b r l lr hv had vs s t) (hs : Gd n m t) (hm : m ≤ 1000) {k g e : Int} {t' : AS} (ho : opFree t k g = (e, t')) :
    Calls Try.prog 22 #[.pointer (some ⟨r, 0, none⟩), .agg #[.int .i64 k, .int .i64 g]] wr fun x w' => x = .returned (.int .i64 e) ∧ ∃ lr', Pl w w' b r l lr' hv had vs s t' := by
  obtain ⟨gc, vc, tv, hR, hl⟩ := h.rf
  unfold opFree at ho
  split at ho
  · rename_i hk
    cases ho
    exact (rfree_arg _ _ _ _ _ _ k g _ hR hk).mono fun x w' ⟨e, B⟩ => ⟨e, lr, h.below B⟩
  · rename_i hk
    obtain ⟨q, rfl⟩ : ∃ q : Nat, k = q := ⟨k.toNat, by omega⟩
    rw [Int.toNat_natCast] at ho
    have hq : q < t.sl.length := by omega
    split at ho
    · rename_i hg
      cases ho
      have hg0 := hs.gens q (by rw [← hs.len]; exact hq)
      refine (rfree_ok _ _ _ _ _ _ q g _ hR hq hg.1 hg.2 (by omega) (by have := hs.size; omega) h.bel.size).mono ?_
      rintro x w' ⟨rfl, ⟨tv', ha, hfr⟩, hF⟩
      rw [wgen hs hm (k := q) (by rw [← hs.len]; exact hq) hg.1] at ha
      refine ⟨rfl, _, h.stepR ⟨gc, vc, tv', ha, rfl⟩ ?_ (by rw [hl]; exact hF)⟩
      intro j hj
      rw [hl]
      simp only [rfoot, List.mem_cons, Option.mem_toList] at hj ⊢
      rcases hj with rfl | rfl | rfl | hj
      · simp
      · simp
      · simp
      · rcases hfr j hj with h | h
        · exact .inl (.inr (.inr (.inr h)))
        · exact .inr h
    · rename_i hg
      cases ho
      refine (rfree_gone _ _ _ _ _ _ q g _ hR hq (by have := not_good hk (by rw [Int.toNat_natCast]; exact hg); rwa [Int.toNat_natCast] at this)).mono ?_
      rintro x w' ⟨rfl, ha, hF⟩
      exact ⟨rfl, lr, h.stepR ⟨gc, vc, tv, ha, hl⟩ (Fresh.same _ _) (hF.mono (by rw [hl]; simp [rfoot]))⟩

theorem pl_get (h : Pl w wr b r l lr hv had vs s t) {k g v e : Int} {s' : AS} (ho : opGet s k g = ((v, e), s')) :
    Calls Try.prog 14 #[.pointer (some ⟨b, 0, none⟩), .agg #[.int .i64 k, .int .i64 g]] wr fun x w' => x = .returned (.tuple #[.int .i64 v, .int .i64 e]) ∧ Pl w w' b r l lr hv had vs s' t := by
  unfold opGet at ho
  split at ho
  · rename_i hk
    cases ho
    exact (ar_get_arg h.ar k g hk).mono fun x w' ⟨e, B⟩ => ⟨e, h.below B⟩
  · rename_i hk
    obtain ⟨q, rfl⟩ : ∃ q : Nat, k = q := ⟨k.toNat, by omega⟩
    rw [Int.toNat_natCast] at ho
    have hq : q < s.sl.length := by omega
    split at ho
    · rename_i hg
      cases ho
      exact (ar_get h.ar q g hq hg.1 hg.2).mono fun x w' ⟨e, B⟩ => ⟨e, h.below B⟩
    · rename_i hg
      cases ho
      refine (ar_get_gone h.ar q g hq (by have := not_good hk (by rw [Int.toNat_natCast]; exact hg); rwa [Int.toNat_natCast] at this)).mono ?_
      rintro x w' ⟨rfl, ha, hF⟩
      exact ⟨rfl, h.stepA ha (Fresh.same _ _) hF⟩
theorem pl_rget (h : Pl w wr b r l lr hv had vs s t) (hs : Gd n m t) {k g v e : Int} {t' : AS} (ho : opGet t k g = ((v, e), t')) :
    Calls Try.prog 23 #[.pointer (some ⟨r, 0, none⟩), .agg #[.int .i64 k, .int .i64 g]] wr fun x w' => x = .returned (.tuple #[.int .i64 v, .int .i64 e]) ∧ Pl w w' b r l lr hv had vs s t' := by
  obtain ⟨gc, vc, tv, hR, hl⟩ := h.rf
  unfold opGet at ho
  split at ho
  · rename_i hk
    cases ho
    exact (rget_arg _ _ _ _ _ _ k g _ hR hk).mono fun x w' ⟨e, B⟩ => ⟨e, h.below B⟩
  · rename_i hk
    obtain ⟨q, rfl⟩ : ∃ q : Nat, k = q := ⟨k.toNat, by omega⟩
    rw [Int.toNat_natCast] at ho
    have hq : q < t.sl.length := by omega
    split at ho
    · rename_i hg
      cases ho
      have hg0 := hs.gens q (by rw [← hs.len]; exact hq)
      exact (rget_ok _ _ _ _ _ _ q g _ hR hq hg.1 hg.2 (by omega)).mono fun x w' ⟨e, B⟩ => ⟨e, h.below B⟩
    · rename_i hg
      cases ho
      refine (rget_gone _ _ _ _ _ _ q g _ hR hq (by have := not_good hk (by rw [Int.toNat_natCast]; exact hg); rwa [Int.toNat_natCast] at this)).mono ?_
      rintro x w' ⟨rfl, ha, hF⟩
      exact ⟨rfl, h.stepR ⟨gc, vc, tv, ha, hl⟩ (Fresh.same _ _) (hF.mono (by rw [hl]; simp [rfoot]))⟩

theorem pl_set (h : Pl w wr b r l lr hv had vs s t) {k g v e : Int} {s' : AS} (ho : opSet s k g v = (e, s')) :
    Calls Try.prog 16 #[.pointer (some ⟨b, 0, none⟩), .agg #[.int .i64 k, .int .i64 g], .int .i64 v] wr fun x w' => x = .returned (.int .i64 e) ∧ Pl w w' b r l lr hv had vs s' t := by
  unfold opSet at ho
  split at ho
  · rename_i hk
    cases ho
    exact (ar_set_arg h.ar k g v hk).mono fun x w' ⟨e, B⟩ => ⟨e, h.below B⟩
  · rename_i hk
    obtain ⟨q, rfl⟩ : ∃ q : Nat, k = q := ⟨k.toNat, by omega⟩
    rw [Int.toNat_natCast] at ho
    have hq : q < s.sl.length := by omega
    split at ho
    · rename_i hg
      cases ho
      refine (ar_set h.ar q g v hq hg.1 hg.2).mono ?_
      rintro x w' ⟨rfl, ha, hF⟩
      exact ⟨rfl, h.stepA ha (Fresh.same _ _) hF⟩
    · rename_i hg
      cases ho
      refine (ar_set_gone h.ar q g v hq (by have := not_good hk (by rw [Int.toNat_natCast]; exact hg); rwa [Int.toNat_natCast] at this)).mono ?_
      rintro x w' ⟨rfl, ha, hF⟩
      exact ⟨rfl, h.stepA ha (Fresh.same _ _) hF⟩
theorem pl_rset (h : Pl w wr b r l lr hv had vs s t) (hs : Gd n m t) {k g v e : Int} {t' : AS} (ho : opSet t k g v = (e, t')) :
    Calls Try.prog 24 #[.pointer (some ⟨r, 0, none⟩), .agg #[.int .i64 k, .int .i64 g], .int .i64 v] wr fun x w' => x = .returned (.int .i64 e) ∧ Pl w w' b r l lr hv had vs s t' := by
  obtain ⟨gc, vc, tv, hR, hl⟩ := h.rf
  unfold opSet at ho
  split at ho
  · rename_i hk
    cases ho
    exact (rset_arg _ _ _ _ _ _ k g v _ hR hk).mono fun x w' ⟨e, B⟩ => ⟨e, h.below B⟩
  · rename_i hk
    obtain ⟨q, rfl⟩ : ∃ q : Nat, k = q := ⟨k.toNat, by omega⟩
    rw [Int.toNat_natCast] at ho
    have hq : q < t.sl.length := by omega
    split at ho
    · rename_i hg
      cases ho
      have hg0 := hs.gens q (by rw [← hs.len]; exact hq)
      refine (rset_ok _ _ _ _ _ _ q g v _ hR hq hg.1 hg.2 (by omega)).mono ?_
      rintro x w' ⟨rfl, ha, hF⟩
      exact ⟨rfl, h.stepR ⟨gc, vc, tv, ha, hl⟩ (Fresh.same _ _) (hF.mono (by rw [hl]; simp [rfoot]))⟩
    · rename_i hg
      cases ho
      refine (rset_gone _ _ _ _ _ _ q g v _ hR hq (by have := not_good hk (by rw [Int.toNat_natCast]; exact hg); rwa [Int.toNat_natCast] at this)).mono ?_
      rintro x w' ⟨rfl, ha, hF⟩
      exact ⟨rfl, h.stepR ⟨gc, vc, tv, ha, hl⟩ (Fresh.same _ _) (hF.mono (by rw [hl]; simp [rfoot]))⟩
end Go.Proofs.Ytpmolcbfjjibgaa
