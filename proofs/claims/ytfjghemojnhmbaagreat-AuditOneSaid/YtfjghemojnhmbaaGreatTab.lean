/- The table of mounts: what it is; is it one? -/
import Derived.Test.YtfjghemojnhmbaaGreatPool
namespace Go.Proofs.YtfjghemojnhmbaaGreat
open Go.RowKit

/-- A mount: where it lies, its node, whether it is live. -/
structure Mt where
  am : Int
  an : Int
  node : Int
  live : Bool
def Mt.cells (x : Mt) : List Value := [.int .i64 x.am, .int .i64 x.an, .int .i64 x.node, .bool x.live]
def mrows (l : List Mt) : List Value := (l.map Mt.cells).flatten
theorem mrows_at : ∀ (l : List Mt) (i : Nat) (x : Mt) (j : Nat), l[i]? = some x → j < 4 → (mrows l)[i * 4 + j]? = x.cells[j]?
  | [], i, x, j, h, _ => by simp at h
  | y :: l, 0, x, j, h, hj => by
    simp at h; subst h
    simp only [mrows, List.map_cons, List.flatten_cons]
    rw [List.getElem?_append_left (by simp [Mt.cells]; omega), show 0 * 4 + j = j from by omega]
  | y :: l, i + 1, x, j, h, hj => by
    have := mrows_at l i x j (by simpa using h) hj
    simp only [mrows, List.map_cons, List.flatten_cons] at this ⊢
    rw [List.getElem?_append_right (by simp [Mt.cells]; omega)]
    have e : (i + 1) * 4 + j - y.cells.length = i * 4 + j := by simp [Mt.cells]; omega
    rw [e]; exact this
/-- The table, in memory of the owner's. -/
structure TabAt (S : Nat → Prop) (w : World) (tb : Nat) (v : Value) (l : List Mt) : Prop where
  blk : Blk w tb 115 #[v]
  own : S tb
  row : Win w 0 112 4 v l.length (mrows l)
  rowS : ∀ k, v.ownBlock = some k → S k
  le : l.length ≤ 1000000
theorem TabAt.entry {S : Nat → Prop} {w : World} {tb : Nat} {v : Value} {l : List Mt} (h : TabAt S w tb v l) {i : Nat} {x : Mt} (hi : l[i]? = some x) :
    ∃ f o cap, v = .slice (some ⟨f, o, none⟩) l.length cap ∧ S f ∧ w.cell? ⟨f, o + i * 4, none⟩ = some (.int .i64 x.am) ∧ w.cell? ⟨f, o + i * 4 + 1, none⟩ = some (.int .i64 x.an) ∧ w.cell? ⟨f, o + i * 4 + 2, none⟩ = some (.int .i64 x.node) ∧ w.cell? ⟨f, o + i * 4 + 3, none⟩ = some (.bool x.live) := by
  have hl := (List.getElem?_eq_some_iff.1 hi).1
  obtain ⟨f, o, cap, rfl⟩ := h.row.form (by omega)
  have q : ∀ j, j < 4 → w.cell? ⟨f, o + i * 4 + j, none⟩ = x.cells[j]? := fun j hj => by
    have := h.row.cells (i * 4 + j) (by omega)
    rw [mrows_at l i x j hi hj] at this
    rw [Nat.add_assoc]; exact this
  exact ⟨f, o, cap, rfl, h.rowS f rfl, q 0 (by omega), q 1 (by omega), q 2 (by omega), q 3 (by omega)⟩
theorem TabAt.fr {S S' S0 : Nat → Prop} {T : List TypeId} {w w' : World} {tb : Nat} {v : Value} {l : List Mt} (h : TabAt S w tb v l) (hs : ∀ k, S k → S' k) (hf : Fr S0 T w w') (h1 : 115 ∉ T) (h2 : 112 ∉ T) : TabAt S' w' tb v l := by
  refine ⟨h.blk.fr hf h1, hs tb h.own, h.row.kept ?_, fun i hi => hs i (h.rowS i hi), h.le⟩
  intro i hi
  obtain ⟨cur, hb⟩ := h.row.blkOf hi
  exact (hf.keepT hb h2).trans hb.symm
/-- Is it a live one? -/
def isM (l : List Mt) (k : Int) : Bool := if 0 ≤ k then (match l[k.toNat]? with | some x => x.live | none => false) else false
set_option maxRecDepth 100000 in
theorem is_any (S : Nat → Prop) (w : World) (tb : Nat) (v : Value) (l : List Mt) (h : TabAt S w tb v l) (k : Int) : Calls Tryz.prog 105 #[.pointer (some ⟨tb, 0, none⟩), .int .i64 k] w fun e w' => e = .returned (.bool (isM l k)) ∧ w' = w := by
  have p0 : w.cell? ⟨tb, 0, none⟩ = some v := h.blk.cell 0
  obtain ⟨va, vc, hv⟩ := h.row.value
  have hle := h.le
  go_enter Tryz.func105, Tryz.ntmps105
  by_cases h0 : 0 ≤ k
  · obtain ⟨i, rfl⟩ : ∃ i : Nat, k = i := ⟨k.toNat, by omega⟩
    rcases hx : l[i]? with _ | x
    · have hi : l.length ≤ i := List.getElem?_eq_none_iff.1 hx
      have k1 : ¬ (i : Int) < (l.length : Int) := by omega
      subst hv
      have e : isM l i = false := by simp [isM, hx]
      rw [e]
      clear hx e
      go_wp2_with fail
      go_ret
      exact ⟨rfl, rfl⟩
    · have hi := (List.getElem?_eq_some_iff.1 hx).1
      have k1 : (i : Int) < (l.length : Int) := by omega
      obtain ⟨f, o, cap, rfl, _, c0, c1, c2, c3⟩ := h.entry hx
      have e : isM l i = x.live := by simp [isM, hx]
      rw [e]
      clear hx e c0 c1 c2
      go_wp2_with fail
      go_ret
      exact ⟨rfl, rfl⟩
  · have e : isM l k = false := by simp [isM, h0]
    subst hv
    rw [e]
    clear e
    go_wp2_with fail
    go_ret
    exact ⟨rfl, rfl⟩
end Go.Proofs.YtfjghemojnhmbaaGreat
/- The table of mounts: which one lies at a place. -/
namespace Go.Proofs.YtfjghemojnhmbaaGreat
open Go.RowKit

/-- What 'over' answers. -/
def OverP (l : List Mt) (pm pn : Int) (w : World) (e : Ending) (w' : World) : Prop := ∃ r : Int, e = .returned (.int .i64 r) ∧ Below w.heap.size w w' ∧ (r = -1 ∨ ∃ (i : Nat) (x : Mt), r = i ∧ 1 ≤ i ∧ l[i]? = some x ∧ x.live = true ∧ x.am = pm ∧ x.an = pn)
structure OvI (S : Nat → Prop) (w wr : World) (tb : Nat) (v : Value) (l : List Mt) (P : Nat) (pm pn : Int) : Prop where
  tab : TabAt S wr tb v l
  c0 : wr.cell? ⟨P, 0, none⟩ = some (.int .i64 pm)
  c1 : wr.cell? ⟨P, 1, none⟩ = some (.int .i64 pn)
  bel : Below w.heap.size w wr
theorem OvI.drew {S : Nat → Prop} {w wr : World} {tb : Nat} {v : Value} {l : List Mt} {P : Nat} {pm pn : Int} (h : OvI S w wr tb v l P pm pn) : OvI S w wr.drew tb v l P pm pn :=
  ⟨h.tab.fr (T := []) (fun _ h => h) (Fr.of_below (S := S) (Below.refl _ _).drew) (by simp) (by simp), h.c0, h.c1, h.bel.drew⟩
set_option maxRecDepth 100000 in
set_option maxHeartbeats 1000000 in
theorem over_any (S : Nat → Prop) (w : World) (tb : Nat) (v : Value) (l : List Mt) (h : TabAt S w tb v l) (pm pn : Int) : Calls Tryz.prog 106 #[.pointer (some ⟨tb, 0, none⟩), .agg #[.int .i64 pm, .int .i64 pn]] w (OverP l pm pn w) := by
  have hle := h.le
  have HO : Hid (OvI S w (w.alloc (.cells #[.int .i64 pm, .int .i64 pn] 75)) tb v l w.heap.size pm pn) := Lib.hid ⟨h.fr (T := []) (fun _ h => h) (Fr.of_below (S := S) ((Below.refl _ _).alloc (Nat.le_refl _) _)) (by simp) (by simp), by simp, by simp, (Below.refl _ _).alloc (Nat.le_refl _) _⟩
  obtain ⟨va, vc, rfl⟩ := h.row.value
  clear h
  go_enter Tryz.func106, Tryz.ntmps106
  go_wp2_with fail
  generalize w.alloc (.cells #[.int .i64 pm, .int .i64 pn] 75) = W at HO ⊢
  obtain ⟨P, hP⟩ : ∃ P, w.heap.size = P := ⟨_, rfl⟩
  rw [hP] at HO ⊢
  clear hP
  go_loopw [5] (fun iv wr => ∃ i : Nat, 1 ≤ i ∧ iv = .int .i64 i ∧ i ≤ l.length + 1 ∧ Hid (OvI S w wr tb (.slice va l.length vc) l P pm pn)) (fun iv _ => l.length + 1 - (intOf iv).toNat)
  case atStart => exact ⟨1, by omega, rfl, by omega, HO⟩
  case round =>
    obtain ⟨i, hi, rfl, hi2, HI⟩ := hrel
    have p0 := HI.out.tab.blk.cell 0
    have q0 := HI.out.c0
    have q1 := HI.out.c1
    by_cases hlt : i < l.length
    · have k0 : (0 : Int) ≤ (i : Int) := by omega
      have k1 : (i : Int) < (l.length : Int) := by omega
      obtain ⟨x, hx⟩ : ∃ x, l[i]? = some x := ⟨_, List.getElem?_eq_getElem hlt⟩
      obtain ⟨f, o, cap, hv, _, c0, c1, c2, c3⟩ := HI.out.tab.entry hx
      cases hv
      clear c2
      go_upto_region 4 with fail
      have HD := Lib.hid HI.out.drew
      obtain ⟨am, an, nd, lv⟩ := x
      dsimp only at c0 c1 c3
      cases lv
      · go_region
        go_wp2_with fail
        go_roundw
        case rel => exact ⟨i + 1, by omega, by go_num, by omega, HD⟩
        case measure => simp [intOf]; omega
      · by_cases e1 : am = pm ∧ an = pn
        · obtain ⟨rfl, rfl⟩ := e1
          have HF : Hid (OverP l am an w (.returned (.int .i64 i)) wr.drew) := Lib.hid ⟨_, rfl, HD.out.bel, .inr ⟨i, _, rfl, hi, hx, rfl, rfl, rfl⟩⟩
          clear hx
          go_region
          go_wp2_with fail
          go_ret
          exact HF.out
        · by_cases ea : am = pm
          · have eb : ¬ an = pn := fun b => e1 ⟨ea, b⟩
            subst ea
            go_region
            go_wp2_with fail
            go_roundw
            case rel => exact ⟨i + 1, by omega, by go_num, by omega, HD⟩
            case measure => simp [intOf]; omega
          · go_region
            go_wp2_with fail
            go_roundw
            case rel => exact ⟨i + 1, by omega, by go_num, by omega, HD⟩
            case measure => simp [intOf]; omega
    · have k1 : ¬ (i : Int) < (l.length : Int) := by omega
      go_wp2_with fail
      go_ret
      exact ⟨-1, rfl, HI.out.bel, .inl rfl⟩
end Go.Proofs.YtfjghemojnhmbaaGreat
/- The table of mounts: a mount's root. -/
namespace Go.Proofs.YtfjghemojnhmbaaGreat
open Go.RowKit

/-- What Root answers. -/
def RootP (l : List Mt) (k : Int) (w : World) (e : Ending) (w' : World) : Prop := w' = w ∧ ((isM l k = false ∧ e = .returned (.tuple #[.int .i64 0, .bool false])) ∨ ∃ (i : Nat) (x : Mt), k = i ∧ l[i]? = some x ∧ x.live = true ∧ e = .returned (.tuple #[.int .i64 x.node, .bool true]))
theorem isM_true {l : List Mt} {k : Int} (h : isM l k = true) : ∃ (i : Nat) (x : Mt), k = i ∧ l[i]? = some x ∧ x.live = true := by
  unfold isM at h
  split at h
  · rename_i h0
    split at h
    · rename_i x hx
      exact ⟨k.toNat, x, by omega, hx, h⟩
    · cases h
  · cases h
set_option maxRecDepth 100000 in
theorem root_any (S : Nat → Prop) (w : World) (tb : Nat) (v : Value) (l : List Mt) (h : TabAt S w tb v l) (k : Int) : Calls Tryz.prog 100 #[.pointer (some ⟨tb, 0, none⟩), .int .i64 k] w (RootP l k w) := by
  have p0 : w.cell? ⟨tb, 0, none⟩ = some v := h.blk.cell 0
  have C1 := is_any S w tb v l h k
  have hle := h.le
  go_enter Tryz.func100, Tryz.ntmps100
  go_wp2_with fail
  refine C1.mono ?_
  rintro e w' ⟨rfl, rfl⟩
  rcases hk : isM l k with _ | _
  · have HK := Lib.hid hk
    clear hk
    go_wp2_with fail
    go_ret2
    exact ⟨rfl, .inl ⟨HK.out, rfl⟩⟩
  · obtain ⟨i, x, rfl, hx, hl⟩ := isM_true hk
    have hi := (List.getElem?_eq_some_iff.1 hx).1
    obtain ⟨f, o, cap, rfl, _, c0, c1, c2, c3⟩ := h.entry hx
    have k0 : (0 : Int) ≤ (i : Int) := by omega
    have k1 : (i : Int) < (l.length : Int) := by omega
    have HX := Lib.hid (And.intro hx hl)
    clear hk hx hl c0 c1 c3
    go_wp2_with fail
    go_ret2
    exact ⟨rfl, .inr ⟨i, x, rfl, HX.out.1, HX.out.2, rfl⟩⟩
end Go.Proofs.YtfjghemojnhmbaaGreat
/- The table of mounts: down to what lies on top. -/
namespace Go.Proofs.YtfjghemojnhmbaaGreat
open Go.RowKit

/-- Live mounts lie below their own number. -/
def MInv (l : List Mt) : Prop := ∀ (i : Nat) (x : Mt), 1 ≤ i → l[i]? = some x → x.live = true → 0 ≤ x.am ∧ x.am < i
/-- What Down answers. -/
def DownQ (l : List Mt) (pm pn qm qn : Int) : Prop := (qm = pm ∧ qn = pn) ∨ ∃ (i : Nat) (x : Mt), qm = i ∧ 1 ≤ i ∧ l[i]? = some x ∧ x.live = true ∧ qn = x.node
def DownP (l : List Mt) (pm pn : Int) (w : World) (e : Ending) (w' : World) : Prop := ∃ qm qn : Int, e = .returned (.agg #[.int .i64 qm, .int .i64 qn]) ∧ Below w.heap.size w w' ∧ DownQ l pm pn qm qn
structure DnI (S : Nat → Prop) (w wr : World) (tb : Nat) (v : Value) (l : List Mt) (P Z : Nat) (pm pn cm cn : Int) : Prop where
  tab : TabAt S wr tb v l
  hp : Holds wr P #[.int .i64 cm, .int .i64 cn]
  hz : Holds wr Z #[.int .i64 0, .int .i64 0]
  bel : Below w.heap.size w wr
  pe : w.heap.size = P
  ze : P < Z
  q : DownQ l pm pn cm cn
theorem DnI.below {S : Nat → Prop} {w wr w' : World} {tb : Nat} {v : Value} {l : List Mt} {P Z : Nat} {pm pn cm cn : Int} (h : DnI S w wr tb v l P Z pm pn cm cn) (b : Below wr.heap.size wr w') : DnI S w w' tb v l P Z pm pn cm cn :=
  ⟨h.tab.fr (T := []) (fun _ h => h) (Fr.of_below (S := S) b) (by simp) (by simp), h.hp.below b, h.hz.below b, h.bel.trans (b.mono h.bel.size), h.pe, h.ze, h.q⟩
theorem TabAt.otherF {S : Nat → Prop} {w : World} {tb : Nat} {v : Value} {l : List Mt} (h : TabAt S w tb v l) {k i : Nat} (hk : ¬ S k) (x : Value) : TabAt S (w.setCell ⟨k, i, none⟩ x) tb v l := by
  refine ⟨h.blk.other (fun e => hk (by rw [show k = tb from e]; exact h.own)) _, h.own, h.row.kept ?_, h.rowS, h.le⟩
  intro j hj
  exact Below.heap_setCell _ _ _ _ (fun e => hk (by rw [show k = j from e.symm]; exact h.rowS j hj))
theorem DnI.next {S : Nat → Prop} {w wr : World} {tb : Nat} {v : Value} {l : List Mt} {P Z : Nat} {pm pn cm cn : Int} (h : DnI S w wr tb v l P Z pm pn cm cn) (hS : ∀ k, S k → k < w.heap.size) {i : Nat} {x : Mt} (h1 : 1 ≤ i) (hx : l[i]? = some x) (hl : x.live = true) :
    DnI S w ((wr.setCell ⟨P, 0, none⟩ (.int .i64 i)).setCell ⟨P, 1, none⟩ (.int .i64 x.node)) tb v l P Z pm pn i x.node := by
  have hP : ¬ S P := fun q => by have := hS P q; have := h.pe; omega
  have hze := h.ze
  refine ⟨(h.tab.otherF hP _).otherF hP _, ?_, (h.hz.other (by simp; omega) _).other (by simp; omega) _, (h.bel.setCell (by rw [h.pe]; exact Nat.le_refl _) _).setCell (by rw [h.pe]; exact Nat.le_refl _) _, h.pe, h.ze, .inr ⟨i, x, rfl, h1, hx, hl, rfl⟩⟩
  simpa using (h.hp.set 0 (.int .i64 i) (by simp)).set 1 (.int .i64 x.node) (by simp)
def intAt (w : World) (p : Nat) : Int := match w.cell? ⟨p, 0, none⟩ with
  | some (.int _ n) => n
  | _ => 0
theorem intAt_of {w : World} {p : Nat} {k : IntKind} {n : Int} (h : w.cell? ⟨p, 0, none⟩ = some (.int k n)) : intAt w p = n := by simp [intAt, h]
theorem TabAt.lts {S : Nat → Prop} {w : World} {tb : Nat} {v : Value} {l : List Mt} (h : TabAt S w tb v l) : TabAt (fun k => S k ∧ k < w.heap.size) w tb v l :=
  ⟨h.blk, ⟨h.own, h.blk.lt⟩, h.row, fun k hk => ⟨h.rowS k hk, (h.row.lt k hk).2⟩, h.le⟩
theorem place_out {fn : Func} {tmps : Array Value} {w : World} {Z a : Nat} {p q : Value} (hr : fn.results = #[.cell a 75]) (h4 : tmps.getD a undef = .pointer (some ⟨Z, 0, none⟩))
    (v0 : w.cell? ⟨Z, 0, none⟩ = some p) (v1 : w.cell? ⟨Z, 1, none⟩ = some q) : (results fn tmps).run Tryz.prog w = .ok (.agg #[p, q]) w := by
  unfold results
  rw [hr]
  have h4' : tmps[a]?.getD undef = .pointer (some ⟨Z, 0, none⟩) := by rw [← h4]; simp
  simp [asAddr, h4', go_sem, v0, v1]
theorem place_ret {fn : Func} {tmps : Array Value} {w : World} {Z a : Nat} {p q : Value} {K : Ending → World → Prop} (hr : fn.results = #[.cell a 75]) (h4 : tmps.getD a undef = .pointer (some ⟨Z, 0, none⟩))
    (hz : Holds w Z #[p, q]) (hk : K (.returned (.agg #[p, q])) w) : bodyPost Tryz.prog fn K .ret ⟨tmps, []⟩ w :=
  bodyPost_ret (place_out hr h4 (hz.cell 0) (hz.cell 1)) rfl hk
/-- The place is given back. -/
theorem DnI.ret {S : Nat → Prop} {w wr : World} {tb : Nat} {v : Value} {l : List Mt} {P Z : Nat} {pm pn cm cn : Int} (h : DnI S w wr tb v l P Z pm pn cm cn) {tmps : Array Value} (h4 : tmps.getD 4 undef = .pointer (some ⟨Z, 0, none⟩)) :
    bodyPost Tryz.prog Tryz.f84 (DownP l pm pn w) .ret ⟨tmps, []⟩ ((wr.setCell ⟨Z, 0, none⟩ (.int .i64 cm)).setCell ⟨Z, 1, none⟩ (.int .i64 cn)) := by
  have := h.pe
  have := h.ze
  refine place_ret rfl h4 (p := .int .i64 cm) (q := .int .i64 cn) (by simpa using (h.hz.set 0 (.int .i64 cm) (by simp)).set 1 (.int .i64 cn) (by simp)) ⟨cm, cn, rfl, (h.bel.setCell (by simp; omega) _).setCell (by simp; omega) _, h.q⟩
set_option maxRecDepth 100000 in
set_option maxHeartbeats 1000000 in
theorem down_any (S : Nat → Prop) (w : World) (tb : Nat) (v : Value) (l : List Mt) (h : TabAt S w tb v l) (hm : MInv l) (pm pn : Int) : Calls Tryz.prog 84 #[.pointer (some ⟨tb, 0, none⟩), .agg #[.int .i64 pm, .int .i64 pn]] w (DownP l pm pn w) := by
  replace h := h.lts
  generalize hS' : (fun k => S k ∧ k < w.heap.size) = S' at h
  have hS : Hid (∀ k, S' k → k < w.heap.size) := Lib.hid (by rw [← hS']; exact fun k hk => hk.2)
  have hle := h.le
  clear hS'
  have HO : Hid (DnI S' w ((w.alloc (.cells #[.int .i64 pm, .int .i64 pn] 75)).alloc (.cells #[.int .i64 0, .int .i64 0] 75)) tb v l w.heap.size (w.heap.size + 1) pm pn pm pn) := Lib.hid
    ⟨h.fr (T := []) (fun _ h => h) (Fr.of_below (S := S') (((Below.refl _ _).alloc (Nat.le_refl _) _).alloc (by simp) _)) (by simp) (by simp), (Holds.new _ _ _).alloc _, by simpa using Holds.new (w.alloc (.cells #[.int .i64 pm, .int .i64 pn] 75)) #[.int .i64 0, .int .i64 0] 75, ((Below.refl _ _).alloc (Nat.le_refl _) _).alloc (by simp) _, rfl, by omega, .inl ⟨rfl, rfl⟩⟩
  have HM := Lib.hid hm
  obtain ⟨va, vc, rfl⟩ := h.row.value
  clear h hm
  go_enter Tryz.func84, Tryz.ntmps84
  go_upto_region 1 with fail
  generalize (w.alloc (.cells #[.int .i64 pm, .int .i64 pn] 75)).alloc (.cells #[.int .i64 0, .int .i64 0] 75) = W at HO ⊢
  obtain ⟨P, hP⟩ : ∃ P, w.heap.size = P := ⟨_, rfl⟩
  obtain ⟨Z, hZ⟩ : ∃ Z, P + 1 = Z := ⟨_, rfl⟩
  rw [hP] at HO ⊢
  rw [hZ] at HO ⊢
  clear hP hZ
  have p0 := HO.out.hp.cell 0
  have C1 := is_any S' W tb _ l HO.out.tab pm
  go_wp2_with fail
  refine C1.mono ?_
  rintro e w' ⟨rfl, rfl⟩
  rcases hk : isM l pm with _ | _
  · have p1 := HO.out.hp.cell 1
    have z0 := HO.out.hz.cell 0
    have z1 := HO.out.hz.cell 1
    have zf := HO.out.hz.free
    go_wp2_with fail
    exact HO.out.ret rfl
  · obtain ⟨k, x, rfl, hx, hlv⟩ := isM_true hk
    have hkl := (List.getElem?_eq_some_iff.1 hx).1
    clear hk hx hlv p0
    go_wp2_with fail
    go_loopw [] (fun wr => ∃ (cm : Nat) (cn : Int), cm < l.length ∧ Hid (DnI S' w wr tb (.slice va l.length vc) l P Z k pn cm cn)) (fun wr => l.length - (intAt wr P).toNat)
    case atStart => exact ⟨k, pn, hkl, HO⟩
    case round =>
      obtain ⟨cm, cn, hcl, HI⟩ := hrel
      have C2 := over_any S' wr tb _ l HI.out.tab cm cn
      have p0 := HI.out.hp.cell 0
      have p1 := HI.out.hp.cell 1
      go_wp2_with fail
      refine C2.mono ?_
      rintro e w1 ⟨r, rfl, hb, hr⟩
      have HJ := Lib.hid (HI.out.below hb)
      have hi := intAt_of p0
      clear hb p0 p1
      have q0 := HJ.out.hp.cell 0
      have q1 := HJ.out.hp.cell 1
      have qf := HJ.out.hp.free
      rcases hr with rfl | ⟨i, x, rfl, hi1, hx, hlv, ha1, ha2⟩
      · have z0 := HJ.out.hz.cell 0
        have z1 := HJ.out.hz.cell 1
        have zf := HJ.out.hz.free
        go_wp2_with fail
        exact HJ.out.ret rfl
      · have hil := (List.getElem?_eq_some_iff.1 hx).1
        have hmi := HM.out i x hi1 hx hlv
        have k0 : ¬ (i : Int) < 0 := by omega
        have k1 : (0 : Int) ≤ (i : Int) := by omega
        have k2 : (i : Int) < (l.length : Int) := by omega
        have p0 := HJ.out.tab.blk.cell 0
        obtain ⟨f, o, cap, hv, _, c0, c1, c2, c3⟩ := HJ.out.tab.entry hx
        cases hv
        have HN := Lib.hid (HJ.out.next hS.out hi1 hx hlv)
        clear hx hlv c0 c1 c3
        go_wp2_with fail
        go_roundw
        case rel => exact ⟨i, x.node, hil, HN⟩
        case measure => rw [intAt_of (HN.out.hp.cell 0), hi]; simp; omega
end Go.Proofs.YtfjghemojnhmbaaGreat
/- The table of mounts: up; is a node covered; lists of mounts. -/
namespace Go.Proofs.YtfjghemojnhmbaaGreat
open Go.RowKit

/-- A truth, in the very same world. -/
def TruthP (w : World) (e : Ending) (w' : World) : Prop := ∃ r : Bool, e = .returned (.bool r) ∧ w' = w
set_option maxRecDepth 100000 in
theorem covered_any (S : Nat → Prop) (w : World) (tb : Nat) (v : Value) (l : List Mt) (h : TabAt S w tb v l) (k : Int) : Calls Tryz.prog 107 #[.pointer (some ⟨tb, 0, none⟩), .int .i64 k] w (TruthP w) := by
  have hle := h.le
  have p0 := h.blk.cell 0
  have HO := Lib.hid h
  obtain ⟨va, vc, rfl⟩ := h.row.value
  clear h
  go_enter Tryz.func107, Tryz.ntmps107
  go_wp2_with fail
  go_loopw [5] (fun iv wr => ∃ i : Nat, 1 ≤ i ∧ iv = .int .i64 i ∧ i ≤ l.length + 1 ∧ wr = w) (fun iv _ => l.length + 1 - (intOf iv).toNat)
  case atStart => exact ⟨1, by omega, rfl, by omega, rfl⟩
  case round =>
    obtain ⟨i, hi, rfl, hi2, rfl⟩ := hrel
    by_cases hlt : i < l.length
    · have k0 : (0 : Int) ≤ (i : Int) := by omega
      have k1 : (i : Int) < (l.length : Int) := by omega
      obtain ⟨x, hx⟩ : ∃ x, l[i]? = some x := ⟨_, List.getElem?_eq_getElem hlt⟩
      obtain ⟨f, o, cap, hv, _, c0, c1, c2, c3⟩ := HO.out.entry hx
      cases hv
      clear c0 c2 hx
      obtain ⟨am, an, nd, lv⟩ := x
      dsimp only at c1 c3
      cases lv
      · go_wp2_with fail
        go_roundw
        case rel => exact ⟨i + 1, by omega, by go_num, by omega, by first | trivial | rfl⟩
        case measure => simp [intOf]; omega
      · by_cases ea : an = k
        · subst ea
          go_wp2_with fail
          go_ret
          exact ⟨_, rfl, rfl⟩
        · go_wp2_with fail
          go_roundw
          case rel => exact ⟨i + 1, by omega, by go_num, by omega, by first | trivial | rfl⟩
          case measure => simp [intOf]; omega
    · have k1 : ¬ (i : Int) < (l.length : Int) := by omega
      go_wp2_with fail
      go_ret
      exact ⟨_, rfl, rfl⟩

theorem info3 : (Tryz.prog.info? 3).map (fun i => (i.zero, i.size, i.bytes)) = some (some (.int .i64 0), 1, 8) := by kernel_rfl
/-- Numbers in memory of their own. -/
def Ints (w : World) (base : Nat) (v : Value) (xs : List Int) : Prop := Win w base 3 1 v xs.length (xs.map (.int .i64)) ∧ (∀ x ∈ xs, 0 ≤ x ∧ x ≤ 1000000) ∧ xs.length ≤ 1000001
theorem Ints.below {w w' : World} {base : Nat} {v : Value} {xs : List Int} (h : Ints w base v xs) (hb : Below w.heap.size w w') : Ints w' base v xs := ⟨h.1.below hb, h.2⟩
def IntsP (w : World) (e : Ending) (w' : World) : Prop := ∃ (v : Value) (xs : List Int), e = .returned v ∧ Ints w' w.heap.size v xs ∧ Below w.heap.size w w'
structure InI (w wr : World) (v : Value) (n : Nat) (xs : List Int) : Prop where
  len : xs.length = n
  win : Win wr w.heap.size 3 1 v n (xs.map (.int .i64))
  rg : ∀ x ∈ xs, 0 ≤ x ∧ x ≤ 1000000
  bel : Below w.heap.size w wr
theorem InI.alloc {w wr : World} {v : Value} {n : Nat} {xs : List Int} (h : InI w wr v n xs) (o : Obj) : InI w (wr.alloc o) v n xs := ⟨h.len, h.win.alloc o, h.rg, h.bel.alloc h.bel.size o⟩
theorem InI.drew {w wr : World} {v : Value} {n : Nat} {xs : List Int} (h : InI w wr v n xs) : InI w wr.drew v n xs := ⟨h.len, h.win.drew, h.rg, h.bel.drew⟩
theorem InI.push {w wr w4 : World} {v v' : Value} {n : Nat} {b : Int} {xs : List Int} (h : InI w wr v n xs) (hw : Win w4 w.heap.size 3 1 v' (n + 1) (xs.map (.int .i64) ++ [.int .i64 b])) (hg : wr.grownBy w4 v.ownBlock) (h0 : 0 ≤ b) (h1 : b ≤ 1000000) : InI w w4 v' (n + 1) (xs ++ [b]) := by
  refine ⟨by simp [h.len], by simpa using hw, fun x hx => ?_, h.bel.trans (Frm.below (l := v.ownBlock.toList) (Frm.of_grown hg fun k hk _ => by rw [hk]; simp) h.bel.size fun k hk => (h.win.lt k (by simpa using hk)).1)⟩
  rcases List.mem_append.1 hx with h' | h'
  · exact h.rg x h'
  · simp at h'; subst h'; exact ⟨h0, h1⟩
theorem InI.done {w wr : World} {v : Value} {n : Nat} {xs : List Int} (h : InI w wr v n xs) (hn : n ≤ 1000001) : IntsP w (.returned v) wr := ⟨v, xs, rfl, ⟨by rw [h.len]; exact h.win, h.rg, by rw [h.len]; exact hn⟩, h.bel⟩
set_option maxRecDepth 100000 in
theorem list_any (S : Nat → Prop) (w : World) (tb : Nat) (v : Value) (l : List Mt) (h : TabAt S w tb v l) : Calls Tryz.prog 43 #[.pointer (some ⟨tb, 0, none⟩)] w (IntsP w) := by
  have hle := h.le
  obtain ⟨i3, h31, h32, h33, h34⟩ := info_parts info3
  have HO := Lib.hid h
  obtain ⟨va, vc, rfl⟩ := h.row.value
  clear h
  go_enter Tryz.func43, Tryz.ntmps43
  go_wp2_with fail
  go_loopw [4, 3] (fun iv v wr => ∃ i n : Nat, i ≤ l.length ∧ n ≤ i ∧ iv = .int .i64 i ∧ Hid (∃ xs, InI w wr v n xs)) (fun iv _ _ => l.length - (intOf iv).toNat)
  case atStart => exact ⟨0, 0, by omega, by omega, rfl, Lib.hid ⟨[], rfl, Win.nil _ _ _ _, by simp, Below.refl _ _⟩⟩
  case round =>
    obtain ⟨i, n, hi, hn, rfl, HI⟩ := hrel
    rename_i u wr
    obtain ⟨xs, hx⟩ := HI.out
    have HX := Lib.hid hx
    obtain ⟨ua, uc, rfl⟩ := hx.win.value
    have HT := Lib.hid (HO.out.fr (T := []) (fun _ h => h) (Fr.of_below (S := S) hx.bel) (by simp) (by simp))
    clear hx
    have wsz := HX.out.bel.size
    have p0 := HT.out.blk.cell 0
    by_cases hlt : i < l.length
    · have k0 : (0 : Int) ≤ (i : Int) := by omega
      have k1 : (i : Int) < (l.length : Int) := by omega
      obtain ⟨x, hx⟩ : ∃ x, l[i]? = some x := ⟨_, List.getElem?_eq_getElem hlt⟩
      obtain ⟨f, o, cap, hv, _, c0, c1, c2, c3⟩ := HT.out.entry hx
      cases hv
      clear c0 c1 c2 hx
      obtain ⟨am, an, nd, lv⟩ := x
      dsimp only at c3
      cases lv
      · go_wp2_with fail
        go_roundw
        case rel => exact ⟨i + 1, n, by omega, by omega, by go_num, _, HX.out⟩
        case measure => simp [intOf]; omega
      · go_upto_region 6 with fail
        go_wp2_with (first | (at_builtin; go_must (refine wpList_append_win _ rfl (.tmp 22) (.tmp 24) 81 rfl w.heap.size 3 i3 _ 1 8 Tryz.underlying81 h31 h32 h33 h34 rfl (by decide) (.slice ua n uc) n (xs.map (.int .i64)) rfl (HX.out.win.alloc _) ⟨wr.heap.size, 0, none⟩ 1 1 [.int .i64 i] rfl rfl (new_cells wr [.int .i64 i] 3) (by simp [Value.oneCell']) (by decide) (by unfold maxLen; omega) (by omega) (by simp; omega) ?_; intro f' o' cap' w4 hown hgrow hat; have HP := Lib.hid ((HX.out.alloc _).push hown hgrow k0 (by omega)); clear hown hgrow hat)))
        go_roundw
        case rel => exact ⟨i + 1, n + 1, by omega, by omega, by go_num, _, HP.out⟩
        case measure => simp [intOf]; omega
    · have k1 : ¬ (i : Int) < (l.length : Int) := by omega
      go_wp2_with fail
      go_ret
      exact HX.out.done (by omega)
end Go.Proofs.YtfjghemojnhmbaaGreat
