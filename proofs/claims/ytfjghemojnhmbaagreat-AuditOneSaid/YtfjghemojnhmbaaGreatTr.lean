/- The tree of nodes: what it is in memory. -/
import Derived.Test.YtfjghemojnhmbaaGreatPool
namespace Go.Proofs.YtfjghemojnhmbaaGreat
open Go.RowKit

/-- A node. -/
structure Nd where
  kind : Int
  mode : Int
  uid : Int
  gid : Int
  text : ByteArray
  es : List (ByteArray × Nat)
  up : Nat
  named : Nat
  held : Nat
  file : Int
def Nd.cells (x : Nd) (k : Nat) (v : Value) : Array Value := #[.int .i64 k, .int .i64 x.kind, .int .i64 x.mode, .int .i64 x.uid, .int .i64 x.gid, .int .i64 0, .int .i64 0, .string x.text, v, .int .i64 x.up, .int .i64 x.named, .int .i64 x.held, .int .i64 x.file]
def erows (l : List (ByteArray × Nat)) : List Value := (l.map fun e => [.string e.1, .int .i64 (e.2 : Int)]).flatten
theorem erows_len : ∀ l : List (ByteArray × Nat), (erows l).length = l.length * 2
  | [] => rfl
  | x :: l => by
    have := erows_len l
    simp only [erows, List.map_cons, List.flatten_cons, List.length_append, List.length_cons] at this ⊢
    rw [this]; simp; omega
theorem erows_app (l r : List (ByteArray × Nat)) : erows (l ++ r) = erows l ++ erows r := by simp [erows]
theorem erows_at : ∀ (l : List (ByteArray × Nat)) (i : Nat) (e : ByteArray × Nat), l[i]? = some e → (erows l)[i * 2]? = some (.string e.1) ∧ (erows l)[i * 2 + 1]? = some (.int .i64 (e.2 : Int))
  | [], i, e, h => by simp at h
  | y :: l, 0, e, h => by
    simp at h; subst h
    simp [erows]
  | y :: l, i + 1, e, h => by
    have := erows_at l i e (by simpa using h)
    simp only [erows, List.map_cons, List.flatten_cons] at this ⊢
    rw [List.getElem?_append_right (by simp; omega), List.getElem?_append_right (by simp; omega)]
    rw [show (i + 1) * 2 - [Value.string y.1, Value.int .i64 (y.2 : Int)].length = i * 2 from by simp; omega, show (i + 1) * 2 + 1 - [Value.string y.1, Value.int .i64 (y.2 : Int)].length = i * 2 + 1 from by simp; omega]
    exact this
/-- A node in a block of the owner's; its entries' row. -/
structure NdAt (S : Nat → Prop) (w : World) (b k : Nat) (x : Nd) (v : Value) : Prop where
  blk : Blk w b 110 (x.cells k v)
  own : S b
  row : Win w 0 188 2 v x.es.length (erows x.es)
/-- What a node's numbers may be. -/
structure NdOk (c : Nat) (x : Nd) : Prop where
  k0 : 1 ≤ x.kind
  k1 : x.kind ≤ 3
  m0 : 0 ≤ x.mode
  m1 : x.mode ≤ 4095
  tx : x.text.size ≤ 5000
  el : x.es.length ≤ c
  eo : ∀ e ∈ x.es, e.1.size ≤ 5000 ∧ e.2 ≤ c
  up : x.up ≤ c
  na : x.named ≤ c
  he : x.held ≤ c
  f0 : 0 ≤ x.file
  f1 : x.file ≤ 1000002
theorem NdOk.mono {c c' : Nat} {x : Nd} (h : NdOk c x) (hc : c ≤ c') : NdOk c' x :=
  ⟨h.k0, h.k1, h.m0, h.m1, h.tx, Nat.le_trans h.el hc, fun e he => ⟨(h.eo e he).1, Nat.le_trans (h.eo e he).2 hc⟩, Nat.le_trans h.up hc, Nat.le_trans h.na hc, Nat.le_trans h.he hc, h.f0, h.f1⟩
def nptr (b : Nat) (o : Option Nd) : Value := match o with
  | none => .pointer none
  | some _ => .pointer (some ⟨b, 0, none⟩)
def ptrs (bs : List Nat) (T : List (Option Nd)) : List Value := List.zipWith nptr bs T
theorem ptrs_at {bs : List Nat} {T : List (Option Nd)} {i b : Nat} {o : Option Nd} (hb : bs[i]? = some b) (ho : T[i]? = some o) : (ptrs bs T)[i]? = some (nptr b o) := by
  unfold ptrs; rw [List.getElem?_zipWith, hb, ho]
/-- The tree, in memory of the owner's. -/
structure TreeAt (S : Nat → Prop) (w : World) (t c : Nat) (M : Int) (p : Nat) (v : Value) (bs : List Nat) (T : List (Option Nd)) : Prop where
  blk : Blk w t 106 #[.int .i64 M, .pointer (some ⟨p, 0, none⟩), v]
  own : S t
  pool : PoolOk S w p c
  row : Win w 0 107 1 v T.length (ptrs bs T)
  rowS : ∀ k, v.ownBlock = some k → S k
  len : bs.length = T.length
  tl : T.length ≤ c
  nd : ∀ (i : Nat) (x : Nd) (b : Nat), T[i]? = some (some x) → bs[i]? = some b → ∃ u, NdAt S w b (i + 1) x u
  inj : ∀ (i j : Nat) (x y : Nd) (b : Nat), T[i]? = some (some x) → T[j]? = some (some y) → bs[i]? = some b → bs[j]? = some b → i = j
  ok : ∀ (i : Nat) (x : Nd), T[i]? = some (some x) → NdOk c x
  m0 : 0 ≤ M
  m1 : M ≤ 1000000
theorem PoolOk.mono {S : Nat → Prop} {w : World} {p c c' : Nat} (h : PoolOk S w p c) (hc : c ≤ c') : PoolOk S w p c' := by
  obtain ⟨B, v, n, xs, h⟩ := h
  exact ⟨B, v, n, xs, h.blk, h.own, h.b0, h.b1, h.row, h.rowS, Nat.le_trans h.le hc, h.ok⟩
theorem TreeAt.mono {S : Nat → Prop} {w : World} {t c c' : Nat} {M : Int} {p : Nat} {v : Value} {bs : List Nat} {T : List (Option Nd)} (h : TreeAt S w t c M p v bs T) (hc : c ≤ c') : TreeAt S w t c' M p v bs T :=
  ⟨h.blk, h.own, h.pool.mono hc, h.row, h.rowS, h.len, Nat.le_trans h.tl hc, h.nd, h.inj, fun i x hx => (h.ok i x hx).mono hc, h.m0, h.m1⟩
/-- The types that the tree turns. -/
abbrev TT : List TypeId := [5, 189, 195, 142, 106, 107, 110]
theorem Win.frT {S0 : Nat → Prop} {T : List TypeId} {w w' : World} {base : Nat} {e : TypeId} {size n : Nat} {v : Value} {xs : List Value} (h : Win w base e size v n xs) (hf : Fr S0 T w w') (he : e ∉ T) : Win w' base e size v n xs := by
  refine h.kept fun i hi => ?_
  obtain ⟨cur, hb⟩ := h.blkOf hi
  exact (hf.keepT hb he).trans hb.symm
theorem NdAt.fr {S S' S0 : Nat → Prop} {T : List TypeId} {w w' : World} {b k : Nat} {x : Nd} {v : Value} (h : NdAt S w b k x v) (hs : ∀ k, S k → S' k) (hf : Fr S0 T w w') (h1 : 110 ∉ T) (h2 : 188 ∉ T) : NdAt S' w' b k x v :=
  ⟨h.blk.fr hf h1, hs b h.own, h.row.frT hf h2⟩
theorem KF.of_fr0 {S S' S0 : Nat → Prop} {T : List TypeId} {w w' : World} (h : Fr S0 T w w') (h5 : 5 ∉ T) (h195 : 195 ∉ T) (hs : ∀ k, S k → S' k) : KF S S' w w' :=
  ⟨KB.of_fr h h5, fun _ hf => hf.kb (KB.of_fr h h5) hs fun _ hb => hb.fr h h195⟩
/-- The tree stays where others turn. -/
theorem TreeAt.fr {S S' S0 : Nat → Prop} {Ts : List TypeId} {w w' : World} {t c : Nat} {M : Int} {p : Nat} {v : Value} {bs : List Nat} {T : List (Option Nd)} (h : TreeAt S w t c M p v bs T) (hs : ∀ k, S k → S' k) (hf : Fr S0 Ts w w') (h0 : ∀ e ∈ TT, e ∉ Ts) (h8 : 188 ∉ Ts) : TreeAt S' w' t c M p v bs T :=
  ⟨h.blk.fr hf (h0 _ (by simp)), hs t h.own, h.pool.kf (KF.of_fr0 hf (h0 _ (by simp)) (h0 _ (by simp)) hs) hs hf (h0 _ (by simp)) (h0 _ (by simp)), h.row.frT hf (h0 _ (by simp)), fun k hk => hs k (h.rowS k hk), h.len, h.tl,
    fun i x b hx hb => by obtain ⟨u, hu⟩ := h.nd i x b hx hb; exact ⟨u, hu.fr hs hf (h0 _ (by simp)) h8⟩, h.inj, h.ok, h.m0, h.m1⟩
theorem TreeAt.below {S : Nat → Prop} {w w' : World} {t c : Nat} {M : Int} {p : Nat} {v : Value} {bs : List Nat} {T : List (Option Nd)} (h : TreeAt S w t c M p v bs T) (b : Below w.heap.size w w') : TreeAt S w' t c M p v bs T :=
  h.fr (Ts := []) (fun _ h => h) (Fr.of_below (S := S) b) (by simp) (by simp)
theorem TreeAt.cells {S : Nat → Prop} {w : World} {t c : Nat} {M : Int} {p : Nat} {v : Value} {bs : List Nat} {T : List (Option Nd)} (h : TreeAt S w t c M p v bs T) : w.cell? ⟨t, 0, none⟩ = some (.int .i64 M) ∧ w.cell? ⟨t, 1, none⟩ = some (.pointer (some ⟨p, 0, none⟩)) ∧ w.cell? ⟨t, 2, none⟩ = some v := ⟨h.blk.cell 0, h.blk.cell 1, h.blk.cell 2⟩
/-- A place of the row. -/
theorem TreeAt.entry {S : Nat → Prop} {w : World} {t c : Nat} {M : Int} {p : Nat} {v : Value} {bs : List Nat} {T : List (Option Nd)} (h : TreeAt S w t c M p v bs T) {i : Nat} (hi : i < T.length) :
    ∃ f o cap b y, v = .slice (some ⟨f, o, none⟩) T.length cap ∧ S f ∧ bs[i]? = some b ∧ T[i]? = some y ∧ w.cell? ⟨f, o + i, none⟩ = some (nptr b y) := by
  obtain ⟨f, o, cap, rfl⟩ := h.row.form (by omega)
  obtain ⟨b, hb⟩ : ∃ b, bs[i]? = some b := ⟨_, List.getElem?_eq_getElem (by rw [h.len]; exact hi)⟩
  obtain ⟨y, hy⟩ : ∃ y, T[i]? = some y := ⟨_, List.getElem?_eq_getElem hi⟩
  refine ⟨f, o, cap, b, y, rfl, h.rowS f rfl, hb, hy, ?_⟩
  rw [h.row.cells i (by omega), ptrs_at hb hy]
/-- A live node by its number. -/
def lv (T : List (Option Nd)) (n : Int) : Option Nd := if n < 1 then none else (T[(n - 1).toNat]?).join
theorem lv_some {T : List (Option Nd)} {n : Int} {x : Nd} (h : lv T n = some x) : ∃ i : Nat, n = (i : Int) + 1 ∧ T[i]? = some (some x) := by
  unfold lv at h
  split at h
  · cases h
  · rename_i hn
    refine ⟨(n - 1).toNat, by omega, ?_⟩
    rcases hx : T[(n - 1).toNat]? with _ | y
    · rw [hx] at h; cases h
    · rw [hx] at h; simp at h; rw [h]
theorem lv_at (T : List (Option Nd)) (i : Nat) : lv T ((i : Int) + 1) = (T[i]?).join := by
  unfold lv
  rw [if_neg (by omega)]
  congr 2
  omega
theorem lv_of {T : List (Option Nd)} {i : Nat} {x : Nd} (h : T[i]? = some (some x)) : lv T ((i : Int) + 1) = some x := by rw [lv_at, h]; rfl
end Go.Proofs.YtfjghemojnhmbaaGreat
/- The tree: a node by its number; what is read off it. -/
namespace Go.Proofs.YtfjghemojnhmbaaGreat
open Go.RowKit

/-- A 64-bit integer. -/
def R64 (n : Int) : Prop := -9223372036854775808 ≤ n ∧ n ≤ 9223372036854775807
/-- What 'at' answers. -/
def AtP (bs : List Nat) (T : List (Option Nd)) (n : Int) (w : World) (e : Ending) (w' : World) : Prop := w' = w ∧ ((lv T n = none ∧ e = .returned (.pointer none)) ∨
  ∃ (i : Nat) (x : Nd) (b : Nat), n = (i : Int) + 1 ∧ T[i]? = some (some x) ∧ bs[i]? = some b ∧ e = .returned (.pointer (some ⟨b, 0, none⟩)))
set_option maxRecDepth 100000 in
theorem nat_any {S : Nat → Prop} {w : World} {t c : Nat} {M : Int} {p : Nat} {v : Value} {bs : List Nat} {T : List (Option Nd)} (h : TreeAt S w t c M p v bs T) (_hc : c ≤ 100000) (n : Int) (hn : R64 n) : Calls Tryz.prog 37 #[.pointer (some ⟨t, 0, none⟩), .int .i64 n] w (AtP bs T n w) := by
  obtain ⟨_, _, p2⟩ := h.cells
  obtain ⟨va, vc, hv⟩ := h.row.value
  have hle := h.tl
  have f0 := hn.1
  have f1 := hn.2
  go_enter Tryz.func37, Tryz.ntmps37
  by_cases h1 : n < 1
  · have HF : Hid (AtP bs T n w (.returned (.pointer none)) w) := Lib.hid ⟨rfl, .inl ⟨by simp [lv, h1], rfl⟩⟩
    subst hv
    go_wp2_with fail
    go_ret
    exact HF.out
  obtain ⟨i, hi⟩ : ∃ i : Nat, n = (i : Int) + 1 := ⟨(n - 1).toNat, by omega⟩
  subst hi
  by_cases hin : i < T.length
  · obtain ⟨g, o, cap, b, y, hs, _, hb, hy, hx⟩ := h.entry hin
    subst hs
    cases hv
    have k1 : ¬ (i : Int) + 1 < 1 := by omega
    have k2 : (i : Int) < (T.length : Int) := by omega
    have k3 : (0 : Int) ≤ (i : Int) := by omega
    have k4 : ¬ (T.length : Int) < (i : Int) + 1 := by omega
    rcases y with _ | y
    · have HF : Hid (AtP bs T ((i : Int) + 1) w (.returned (.pointer none)) w) := Lib.hid ⟨rfl, .inl ⟨by rw [lv_at, hy]; rfl, rfl⟩⟩
      clear hb hy
      dsimp only [nptr] at hx
      go_wp2_with fail
      go_ret
      exact HF.out
    · have HF : Hid (AtP bs T ((i : Int) + 1) w (.returned (.pointer (some ⟨b, 0, none⟩))) w) := Lib.hid ⟨rfl, .inr ⟨i, y, b, rfl, hy, hb, rfl⟩⟩
      clear hb hy
      dsimp only [nptr] at hx
      go_wp2_with fail
      go_ret
      exact HF.out
  · have HF : Hid (AtP bs T ((i : Int) + 1) w (.returned (.pointer none)) w) := Lib.hid ⟨rfl, .inl ⟨by rw [lv_at, List.getElem?_eq_none (by omega)]; rfl, rfl⟩⟩
    have k2 : ¬ (i : Int) < (T.length : Int) := by omega
    have k4 : (T.length : Int) < (i : Int) + 1 := by omega
    subst hv
    go_wp2_with fail
    go_ret
    exact HF.out

/-- A node's cells. -/
structure NdC (w : World) (b k : Nat) (x : Nd) (u : Value) : Prop where
  c0 : w.cell? ⟨b, 0, none⟩ = some (.int .i64 k)
  c1 : w.cell? ⟨b, 1, none⟩ = some (.int .i64 x.kind)
  c2 : w.cell? ⟨b, 2, none⟩ = some (.int .i64 x.mode)
  c3 : w.cell? ⟨b, 3, none⟩ = some (.int .i64 x.uid)
  c4 : w.cell? ⟨b, 4, none⟩ = some (.int .i64 x.gid)
  c5 : w.cell? ⟨b, 5, none⟩ = some (.int .i64 0)
  c6 : w.cell? ⟨b, 6, none⟩ = some (.int .i64 0)
  c7 : w.cell? ⟨b, 7, none⟩ = some (.string x.text)
  c8 : w.cell? ⟨b, 8, none⟩ = some u
  c9 : w.cell? ⟨b, 9, none⟩ = some (.int .i64 x.up)
  c10 : w.cell? ⟨b, 10, none⟩ = some (.int .i64 x.named)
  c11 : w.cell? ⟨b, 11, none⟩ = some (.int .i64 x.held)
  c12 : w.cell? ⟨b, 12, none⟩ = some (.int .i64 x.file)
theorem NdAt.cs {S : Nat → Prop} {w : World} {b k : Nat} {x : Nd} {u : Value} (h : NdAt S w b k x u) : NdC w b k x u :=
  ⟨h.blk.cell 0, h.blk.cell 1, h.blk.cell 2, h.blk.cell 3, h.blk.cell 4, h.blk.cell 5, h.blk.cell 6, h.blk.cell 7, h.blk.cell 8, h.blk.cell 9, h.blk.cell 10, h.blk.cell 11, h.blk.cell 12⟩
/-- What 'dir' answers. -/
def DirP (bs : List Nat) (T : List (Option Nd)) (n : Int) (w : World) (e : Ending) (w' : World) : Prop := w' = w ∧ (((∀ x, lv T n = some x → x.kind ≠ 1) ∧ e = .returned (.pointer none)) ∨
  ∃ (i : Nat) (x : Nd) (b : Nat), n = (i : Int) + 1 ∧ T[i]? = some (some x) ∧ bs[i]? = some b ∧ x.kind = 1 ∧ e = .returned (.pointer (some ⟨b, 0, none⟩)))
set_option maxRecDepth 100000 in
theorem dir_any {S : Nat → Prop} {w : World} {t c : Nat} {M : Int} {p : Nat} {v : Value} {bs : List Nat} {T : List (Option Nd)} (h : TreeAt S w t c M p v bs T) (hc : c ≤ 100000) (n : Int) (hn : R64 n) : Calls Tryz.prog 90 #[.pointer (some ⟨t, 0, none⟩), .int .i64 n] w (DirP bs T n w) := by
  have C1 := nat_any h hc n hn
  have HT := Lib.hid h
  clear h
  go_enter Tryz.func90, Tryz.ntmps90
  go_wp2_with fail
  refine C1.mono ?_
  rintro e w' ⟨rfl, ⟨hl, rfl⟩ | ⟨i, x, b, rfl, hx, hb, rfl⟩⟩
  · have HF : Hid (DirP bs T n w' (.returned (.pointer none)) w') := Lib.hid ⟨rfl, .inl ⟨fun x hx => by rw [hl] at hx; (cases hx), rfl⟩⟩
    clear hl
    go_wp2_with fail
    go_ret
    exact HF.out
  · obtain ⟨u, hu⟩ := HT.out.nd i x b hx hb
    have c1 := hu.cs.c1
    have HX := Lib.hid (And.intro hx hb)
    clear hu hx hb
    by_cases hk : x.kind = 1
    · go_wp2_with fail
      go_ret
      exact ⟨rfl, .inr ⟨i, x, b, rfl, HX.out.1, HX.out.2, hk, rfl⟩⟩
    · go_wp2_with fail
      go_ret
      exact ⟨rfl, .inl ⟨fun y hy => by rw [lv_of HX.out.1] at hy; cases hy; exact hk, rfl⟩⟩

theorem nat_live {S : Nat → Prop} {w : World} {t c : Nat} {M : Int} {p : Nat} {v : Value} {bs : List Nat} {T : List (Option Nd)} (h : TreeAt S w t c M p v bs T) (hc : c ≤ 100000) {i b : Nat} {x : Nd} (hx : T[i]? = some (some x)) (hb : bs[i]? = some b) : Calls Tryz.prog 37 #[.pointer (some ⟨t, 0, none⟩), .int .i64 ((i : Int) + 1)] w fun e w' => e = .returned (.pointer (some ⟨b, 0, none⟩)) ∧ w' = w := by
  have hil := (List.getElem?_eq_some_iff.1 hx).1
  have hle := h.tl
  refine (nat_any h hc ((i : Int) + 1) ⟨by omega, by omega⟩).mono ?_
  rintro e w' ⟨hw, ⟨hl, rfl⟩ | ⟨i', x', b', hi, hx', hb', rfl⟩⟩
  · rw [lv_of hx] at hl; cases hl
  · obtain rfl : i = i' := by omega
    rw [hb] at hb'; cases hb'
    exact ⟨rfl, hw⟩
theorem TreeAt.block {S : Nat → Prop} {w : World} {t c : Nat} {M : Int} {p : Nat} {v : Value} {bs : List Nat} {T : List (Option Nd)} (h : TreeAt S w t c M p v bs T) {i : Nat} {x : Nd} (hx : T[i]? = some (some x)) : ∃ b u, bs[i]? = some b ∧ NdAt S w b (i + 1) x u := by
  have hil := (List.getElem?_eq_some_iff.1 hx).1
  have hb : bs[i]? = some _ := List.getElem?_eq_getElem (by rw [h.len]; exact hil)
  obtain ⟨u, hu⟩ := h.nd i x _ hx hb
  exact ⟨_, u, hb, hu⟩
def GoneP (i : Nat) (x : Nd) (w : World) (e : Ending) (w' : World) : Prop := w' = w ∧ ∃ r : Bool, e = .returned (.bool r) ∧ (r = false → i = 0 ∨ 1 ≤ x.named)
set_option maxRecDepth 100000 in
theorem gone_any {S : Nat → Prop} {w : World} {t c : Nat} {M : Int} {p : Nat} {v : Value} {bs : List Nat} {T : List (Option Nd)} (h : TreeAt S w t c M p v bs T) (hc : c ≤ 100000) {i : Nat} {x : Nd} (hx : T[i]? = some (some x)) : Calls Tryz.prog 93 #[.pointer (some ⟨t, 0, none⟩), .int .i64 ((i : Int) + 1)] w (GoneP i x w) := by
  obtain ⟨b, u, hb, hn⟩ := h.block hx
  have C1 := nat_live h hc hx hb
  have c10 := hn.cs.c10
  clear h hx hn hb
  go_enter Tryz.func93, Tryz.ntmps93
  by_cases h0 : i = 0
  · subst h0
    have k1 : (((0 : Nat) : Int) + 1 != 1) = false := by decide
    go_wp2_with fail
    go_ret
    exact ⟨rfl, _, rfl, fun _ => .inl rfl⟩
  · have k1 : ((i : Int) + 1 != 1) = true := by simp; omega
    by_cases hz : x.named = 0
    · have k2 : ((x.named : Int) == 0) = true := by simp [hz]
      go_wp2_with (first | (go_at_call 37; refine C1.mono ?_; rintro e w' ⟨rfl, rfl⟩))
      go_ret
      exact ⟨rfl, _, rfl, fun h => by cases h⟩
    · have k2 : ((x.named : Int) == 0) = false := by simp; omega
      go_wp2_with (first | (go_at_call 37; refine C1.mono ?_; rintro e w' ⟨rfl, rfl⟩))
      go_ret
      exact ⟨rfl, _, rfl, fun _ => .inr (by omega)⟩
/-- What 'Up' answers. -/
def UpTP (T : List (Option Nd)) (n : Int) (w : World) (e : Ending) (w' : World) : Prop := w' = w ∧ (((∀ x, lv T n = some x → x.kind ≠ 1) ∧ e = .returned (.int .i64 0)) ∨ ∃ x, lv T n = some x ∧ x.kind = 1 ∧ e = .returned (.int .i64 x.up))
set_option maxRecDepth 100000 in
theorem upt_any {S : Nat → Prop} {w : World} {t c : Nat} {M : Int} {p : Nat} {v : Value} {bs : List Nat} {T : List (Option Nd)} (h : TreeAt S w t c M p v bs T) (hc : c ≤ 100000) (n : Int) (hn : R64 n) : Calls Tryz.prog 122 #[.pointer (some ⟨t, 0, none⟩), .int .i64 n] w (UpTP T n w) := by
  have C1 := dir_any h hc n hn
  have HT := Lib.hid h
  clear h
  go_enter Tryz.func122, Tryz.ntmps122
  go_wp2_with fail
  refine C1.mono ?_
  rintro e w' ⟨rfl, ⟨hl, rfl⟩ | ⟨i, x, b, rfl, hx, hb, hk, rfl⟩⟩
  · have HL := Lib.hid hl
    clear hl
    go_wp2_with fail
    go_ret
    exact ⟨rfl, .inl ⟨HL.out, rfl⟩⟩
  · obtain ⟨u, hu⟩ := HT.out.nd i x b hx hb
    have c9 := hu.cs.c9
    have HX := Lib.hid (And.intro hx hk)
    clear hu hx hb hk
    go_wp2_with fail
    go_ret
    exact ⟨rfl, .inr ⟨x, lv_of HX.out.1, HX.out.2, rfl⟩⟩
set_option maxRecDepth 100000 in
theorem text_any {S : Nat → Prop} {w : World} {t c : Nat} {M : Int} {p : Nat} {v : Value} {bs : List Nat} {T : List (Option Nd)} (h : TreeAt S w t c M p v bs T) (hc : c ≤ 100000) (n : Int) (hn : R64 n) : Calls Tryz.prog 71 #[.pointer (some ⟨t, 0, none⟩), .int .i64 n] w fun e w' => w' = w ∧ ∃ s : ByteArray, e = .returned (.string s) ∧ s.size ≤ 5000 := by
  have C1 := nat_any h hc n hn
  have HT := Lib.hid h
  clear h
  go_enter Tryz.func71, Tryz.ntmps71
  go_wp2_with fail
  refine C1.mono ?_
  rintro e w' ⟨rfl, ⟨hl, rfl⟩ | ⟨i, x, b, rfl, hx, hb, rfl⟩⟩
  · clear hl
    go_wp2_with fail
    go_ret
    exact ⟨rfl, _, rfl, by decide⟩
  · obtain ⟨u, hu⟩ := HT.out.nd i x b hx hb
    have c7 := hu.cs.c7
    have HX := Lib.hid (HT.out.ok i x hx).tx
    clear hu hx hb
    go_wp2_with fail
    go_ret
    exact ⟨rfl, _, rfl, HX.out⟩
set_option maxRecDepth 100000 in
theorem filen_any {S : Nat → Prop} {w : World} {t c : Nat} {M : Int} {p : Nat} {v : Value} {bs : List Nat} {T : List (Option Nd)} (h : TreeAt S w t c M p v bs T) (hc : c ≤ 100000) (n : Int) (hn : R64 n) : Calls Tryz.prog 88 #[.pointer (some ⟨t, 0, none⟩), .int .i64 n] w (IntP 0 1000002 w) := by
  have C1 := nat_any h hc n hn
  have HT := Lib.hid h
  clear h
  go_enter Tryz.func88, Tryz.ntmps88
  go_wp2_with fail
  refine C1.mono ?_
  rintro e w' ⟨rfl, ⟨hl, rfl⟩ | ⟨i, x, b, rfl, hx, hb, rfl⟩⟩
  · clear hl
    go_wp2_with fail
    go_ret
    exact .mk (by omega) (by omega)
  · obtain ⟨u, hu⟩ := HT.out.nd i x b hx hb
    have c1 := hu.cs.c1
    have c12 := hu.cs.c12
    have HX := Lib.hid (HT.out.ok i x hx)
    clear hu hx hb
    by_cases hk : x.kind = 2
    · go_wp2_with fail
      go_ret
      exact .mk HX.out.f0 HX.out.f1
    · go_wp2_with fail
      go_ret
      exact .mk (by omega) (by omega)
end Go.Proofs.YtfjghemojnhmbaaGreat
/- The tree: how many links a node has; names are found. -/
namespace Go.Proofs.YtfjghemojnhmbaaGreat
open Go.RowKit

/-- Entries of live nodes are live. -/
def EL (T : List (Option Nd)) : Prop := ∀ (i : Nat) (x : Nd) (e : ByteArray × Nat), T[i]? = some (some x) → e ∈ x.es → ∃ (j : Nat) (y : Nd), e.2 = j + 1 ∧ T[j]? = some (some y)
theorem NdAt.entry {S : Nat → Prop} {w : World} {b k : Nat} {x : Nd} {u : Value} (h : NdAt S w b k x u) {j : Nat} {e : ByteArray × Nat} (he : x.es[j]? = some e) :
    ∃ f o cap, u = .slice (some ⟨f, o, none⟩) x.es.length cap ∧ w.cell? ⟨f, o + j * 2, none⟩ = some (.string e.1) ∧ w.cell? ⟨f, o + j * 2 + 1, none⟩ = some (.int .i64 (e.2 : Int)) := by
  have hl := (List.getElem?_eq_some_iff.1 he).1
  obtain ⟨f, o, cap, rfl⟩ := h.row.form (by omega)
  obtain ⟨q1, q2⟩ := erows_at x.es j e he
  refine ⟨f, o, cap, rfl, (h.row.cells (j * 2) (by omega)).trans q1, ?_⟩
  have := h.row.cells (j * 2 + 1) (by omega)
  rw [← Nat.add_assoc] at this
  exact this.trans q2
set_option maxRecDepth 100000 in
theorem links_any {S : Nat → Prop} {w : World} {t c : Nat} {M : Int} {p : Nat} {v : Value} {bs : List Nat} {T : List (Option Nd)} (h : TreeAt S w t c M p v bs T) (hc : c ≤ 100000) (he : EL T) {i : Nat} {x : Nd} (hx : T[i]? = some (some x)) :
    Calls Tryz.prog 95 #[.pointer (some ⟨t, 0, none⟩), .int .i64 ((i : Int) + 1)] w (IntP 0 200000 w) := by
  obtain ⟨b, u, hb, hn⟩ := h.block hx
  have C1 := nat_live h hc hx hb
  have cc := hn.cs
  have c1 := cc.c1
  have c10 := cc.c10
  have c8 := cc.c8
  have ho := h.ok i x hx
  have hna := ho.na
  have hel := ho.el
  have HH := Lib.hid (And.intro h (And.intro he (And.intro hn hx)))
  obtain ⟨ua, uc, rfl⟩ := hn.row.value
  clear h hx hn hb cc ho he
  go_enter Tryz.func95, Tryz.ntmps95
  go_wp2_with fail
  refine C1.mono ?_
  rintro e w' ⟨rfl, rfl⟩
  clear C1
  by_cases hk : x.kind = 1
  case neg =>
    go_wp2_with fail
    go_ret
    exact .mk (by omega) (by omega)
  have tail : Hid (∀ k : Nat, k ≤ 100002 → IntP 0 200000 w' (.returned (.int .i64 k)) w') := Lib.hid fun k hk => .mk (by omega) (by omega)
  have k0 : ((x.kind) != 1) = false := by simp [hk]
  by_cases h0 : ((i : Int) + 1 != 1) = true ∧ ((x.named : Int) == 0) = true
  · obtain ⟨h1, h2⟩ := h0
    go_wp2_with fail
    go_ret
    exact .mk (by omega) (by omega)
  have h1 : ((i : Int) + 1 != 1) = false ∨ (((i : Int) + 1 != 1) = true ∧ ((x.named : Int) == 0) = false) := by
    rcases h1 : ((i : Int) + 1 != 1) with _ | _
    · exact .inl rfl
    · rcases h2 : ((x.named : Int) == 0) with _ | _
      · exact .inr ⟨rfl, rfl⟩
      · exact absurd ⟨h1, h2⟩ h0
  clear h0
  have body : Hid (∀ j : Nat, j < x.es.length → ∃ (f o cap : Nat) (e : ByteArray × Nat) (i' : Nat) (y : Nd) (b' : Nat), Value.slice ua x.es.length uc = .slice (some ⟨f, o, none⟩) x.es.length cap ∧ w'.cell? ⟨f, o + j * 2 + 1, none⟩ = some (.int .i64 ((i' : Int) + 1)) ∧ x.es[j]? = some e ∧ T[i']? = some (some y) ∧ bs[i']? = some b' ∧ w'.cell? ⟨b', 1, none⟩ = some (.int .i64 y.kind) ∧ Calls Tryz.prog 37 #[.pointer (some ⟨t, 0, none⟩), .int .i64 ((i' : Int) + 1)] w' fun e w'' => e = .returned (.pointer (some ⟨b', 0, none⟩)) ∧ w'' = w') := Lib.hid (by
    intro j hj
    obtain ⟨h, he, hn, hx⟩ := HH.out
    have hee : x.es[j]? = some _ := List.getElem?_eq_getElem hj
    obtain ⟨f, o, cap, q1, q2, q3⟩ := hn.entry hee
    obtain ⟨i', y, q4, q5⟩ := he i x _ hx (List.getElem_mem hj)
    obtain ⟨b', u', q6, q7⟩ := h.block q5
    refine ⟨f, o, cap, _, i', y, b', q1, ?_, hee, q5, q6, q7.cs.c1, nat_live h hc q5 q6⟩
    rw [q3, q4]; rfl)
  rcases h1 with h1 | ⟨h1, h2⟩
  all_goals
    go_wp2_with fail
    go_loopw [7, 6] (fun iv kv wr => ∃ j k : Nat, j ≤ x.es.length ∧ k ≤ j + 2 ∧ iv = .int .i64 j ∧ kv = .int .i64 k ∧ wr = w') (fun iv _ _ => x.es.length - (intOf iv).toNat)
    case atStart => exact ⟨0, 2, by omega, by omega, rfl, rfl, rfl⟩
    case round =>
      obtain ⟨j, k, hj, hkj, rfl, rfl, rfl⟩ := hrel
      by_cases hlt : j < x.es.length
      · obtain ⟨f, o, cap, e, i', y, b', q1, q2, q3, q4, q5, q6, q7⟩ := body.out j hlt
        cases q1
        have k0 : (0 : Int) ≤ (j : Int) := by omega
        have k1 : (j : Int) < (x.es.length : Int) := by omega
        clear q3 q4 q5
        by_cases hy : y.kind = 1
        · have hy2 : (y.kind == 1) = true := by simp [hy]
          go_wp2_with fail
          refine q7.mono ?_
          rintro e w'' ⟨rfl, rfl⟩
          go_wp2_with fail
          go_roundw
          case rel => exact ⟨j + 1, k + 1, by omega, by omega, by go_num, by go_num, by first | trivial | rfl⟩
          case measure => simp [intOf]; omega
        · have hy2 : (y.kind == 1) = false := by simp [hy]
          go_wp2_with fail
          refine q7.mono ?_
          rintro e w'' ⟨rfl, rfl⟩
          go_wp2_with fail
          go_roundw
          case rel => exact ⟨j + 1, k, by omega, by omega, by go_num, rfl, by first | trivial | rfl⟩
          case measure => simp [intOf]; omega
      · have k1 : ¬ (j : Int) < (x.es.length : Int) := by omega
        go_wp2_with fail
        go_ret
        exact tail.out k (by omega)
end Go.Proofs.YtfjghemojnhmbaaGreat
