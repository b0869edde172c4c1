/- Events of a serial run: in memory. -/
import Derived.Test.YtfjghemojnhmbaaGreatYe
import Derived.Test.YtfjghemojnhmbaaGreatYj
import Derived.Test.YtfjghemojnhmbaaGreatYl
import Derived.Test.YtfjghemojnhmbaaGreatZa
namespace Go.Proofs.YtfjghemojnhmbaaGreat
open Go.RowKit

theorem OutS.keep {by_ : Nat} {S : Nat → Prop} {T : List TypeId} {w w' : World} {v : Value} {vs : List Value} (h : Den by_ w v vs) (ho : OutS S w v) (hf : Fr S T w w') : Den by_ w' v vs := by
  obtain ⟨p, n, c, rfl, h1, h2, h3, h4, h5, h6⟩ := h
  refine ⟨p, n, c, rfl, h1, h2, h3, h4, h5, fun hn => ?_⟩
  obtain ⟨b, o, rfl, hb, hc⟩ := h6 hn
  obtain ⟨m, rfl⟩ : ∃ m, n = m + 1 := ⟨n - 1, by omega⟩
  have hs := (ho _ m c rfl).2
  have e := hf.keepS hb hs
  exact ⟨b, o, rfl, Nat.lt_of_lt_of_le hb hf.size, fun i hi => by rw [← hc i hi]; simp only [World.cell?, e]⟩
theorem OutS.step {S S' : Nat → Prop} {w w' : World} {v : Value} (h : OutS S w v) (hw : w.heap.size ≤ w'.heap.size) (hs : ∀ k, S' k → S k ∨ w.heap.size ≤ k) : OutS S' w' v := fun a n c e => by
  obtain ⟨h1, h2⟩ := h a n c e
  exact ⟨Nat.lt_of_lt_of_le h1 hw, fun q => (hs _ q).elim h2 (fun q => by omega)⟩
theorem OutS.nil (S : Nat → Prop) (w : World) : OutS S w (.slice none 0 0) := fun a n c e => (by cases e)
abbrev EX := Ev × Value × Value × Value
def EX.cells (X : EX) : List Value := X.1.cells X.2.1 X.2.2.1 X.2.2.2
def flat (XS : List EX) : List Value := (XS.map EX.cells).flatten
theorem flat_len (XS : List EX) : (flat XS).length = XS.length * 22 := by
  induction XS with
  | nil => rfl
  | cons x l ih =>
    show (x.cells ++ flat l).length = _
    rw [List.length_append, ih, List.length_cons]
    show 22 + _ = _
    omega
theorem flat_app (A B : List EX) : flat (A ++ B) = flat A ++ flat B := by simp [flat]
/-- Events, in a row of their own. -/
structure EvR (S : Nat → Prop) (w : World) (base : Nat) (v : Value) (n : Nat) (XS : List EX) : Prop where
  len : XS.length = n
  win : Win w base 44 22 v n (flat XS)
  tri : ∀ X ∈ XS, Tri w X.1.c X.1.r X.2.1 X.2.2.1 X.2.2.2
  off : ∀ X ∈ XS, ∀ f, v.ownBlock = some f → Off X.2.1 f ∧ Off X.2.2.1 f ∧ Off X.2.2.2 f
  out : ∀ X ∈ XS, OutS S w X.2.1 ∧ OutS S w X.2.2.1 ∧ OutS S w X.2.2.2
theorem EvR.nil (S : Nat → Prop) (w : World) (base : Nat) : EvR S w base (.slice none 0 0) 0 [] := ⟨rfl, Win.nil _ _ _ _, by simp, by simp, by simp⟩
theorem EvR.fr {S S' : Nat → Prop} {T : List TypeId} {w w' : World} {base n : Nat} {v : Value} {XS : List EX} (h : EvR S w base v n XS) (hf : Fr S T w w') (h44 : 44 ∉ T) (hs : ∀ k, S' k → S k ∨ w.heap.size ≤ k) : EvR S' w' base v n XS :=
  ⟨h.len, h.win.frT hf h44, fun X hX => ⟨(h.out X hX).1.keep (h.tri X hX).1 hf, (h.out X hX).2.1.keep (h.tri X hX).2.1 hf, (h.out X hX).2.2.keep (h.tri X hX).2.2 hf⟩, h.off, fun X hX => ⟨(h.out X hX).1.step hf.size hs, (h.out X hX).2.1.step hf.size hs, (h.out X hX).2.2.step hf.size hs⟩⟩
theorem EvR.below {S : Nat → Prop} {w w' : World} {base n : Nat} {v : Value} {XS : List EX} (h : EvR S w base v n XS) (hb : Below w.heap.size w w') : EvR S w' base v n XS := h.fr (T := []) (Fr.of_below hb) (by simp) (fun _ h => .inl h)
theorem row_cell {w : World} {base n c f o : Nat} {XS : List EX} (h : Win w base 44 22 (.slice (some ⟨f, o, none⟩) n c) n (flat XS)) (hl : XS.length = n) {i q : Nat} {X : EX} (hX : XS[i]? = some X) (hq : q < 22) : w.cell? ⟨f, o + i * 22 + q, none⟩ = X.cells[q]? := by
  have hi : i < n := by rw [← hl]; exact (List.getElem?_eq_some_iff.1 hX).1
  have e1 := h.cells (i * 22 + q) (by omega)
  rw [← Nat.add_assoc] at e1
  rw [e1]
  exact flatten_get 22 (XS.map EX.cells) i q X.cells (fun r hr => by obtain ⟨Y, _, rfl⟩ := List.mem_map.1 hr; rfl) (by rw [List.getElem?_map, hX]; rfl) hq
theorem evs_of {w : World} {base n c : Nat} {a : Option Addr} {XS : List EX} (hl : XS.length = n) (h : Win w base 44 22 (.slice a n c) n (flat XS)) (ht : ∀ X ∈ XS, Tri w X.1.c X.1.r X.2.1 X.2.2.1 X.2.2.2) : Evs w a (XS.map (·.1)) := by
  by_cases h0 : 0 < n
  · obtain ⟨f, o, cap, e⟩ := h.form h0
    cases e
    refine .inr ⟨f, o, rfl, (h.lt f rfl).2, fun i e he => ?_⟩
    rw [List.getElem?_map] at he
    obtain ⟨X, hX, rfl⟩ : ∃ X, XS[i]? = some X ∧ X.1 = e := by
      rcases hx : XS[i]? with _ | X
      · rw [hx] at he; cases he
      · rw [hx] at he; cases he; exact ⟨X, rfl, rfl⟩
    exact ⟨X.2.1, X.2.2.1, X.2.2.2, ht X (List.mem_of_getElem? hX), fun j v hj => (row_cell h hl hX (List.getElem?_eq_some_iff.1 hj).1).trans hj⟩
  · refine .inl ?_
    rw [List.length_map, hl]
    omega
theorem EvR.evs {S : Nat → Prop} {w : World} {base n c : Nat} {a : Option Addr} {XS : List EX} (h : EvR S w base (.slice a n c) n XS) : Evs w a (XS.map (·.1)) := evs_of h.len h.win h.tri
/-- Two events more. -/
theorem EvR.push {S : Nat → Prop} {w w4 : World} {base n f o cap : Nat} {v : Value} {XS : List EX} {e1 e2 : Ev} {x y z : Value} (h : EvR S w base v n XS) (ha : AppTo w w4 v f (EX.cells (e1, x, .slice none 0 0, .slice none 0 0) ++ EX.cells (e2, x, y, z)))
    (hw : Win w4 base 44 22 (.slice (some ⟨f, o, none⟩) (n + 2) cap) (n + 2) (flat XS ++ (EX.cells (e1, x, .slice none 0 0, .slice none 0 0) ++ EX.cells (e2, x, y, z))))
    (t1 : Tri w e1.c e1.r x (.slice none 0 0) (.slice none 0 0)) (t2 : Tri w e2.c e2.r x y z) (hx : OutS S w x) (hy : OutS S w y) (hz : OutS S w z) (ho : ∀ f, v.ownBlock = some f → Off x f ∧ Off y f ∧ Off z f) : EvR S w4 base (.slice (some ⟨f, o, none⟩) (n + 2) cap) (n + 2) (XS ++ [(e1, x, .slice none 0 0, .slice none 0 0), (e2, x, y, z)]) ∧ w.heap.size ≤ w4.heap.size := by
  have hfm : (∀ {u : Value} {k : Nat} {vs : List Value}, Den k w u vs → OutS S w u → (∀ g, v.ownBlock = some g → Off u g) → Den k w4 u vs ∧ OutS S w4 u ∧ Off u f) ∧ w.heap.size ≤ w4.heap.size := by
    rcases ha with ⟨hf, p, rfl⟩ | ⟨hf, hb⟩
    · have hfr : Frm [f] w (w.setCells f p (EX.cells (e1, x, .slice none 0 0, .slice none 0 0) ++ EX.cells (e2, x, y, z))) := Frm.setCells (by simp) _ _ (Frm.refl _ _)
      refine ⟨fun hd ho hof => ⟨hd.frm hfr (fun k hk => by rw [List.mem_singleton.1 hk]; exact hof f hf), fun a n c e => ⟨Nat.lt_of_lt_of_le (ho a n c e).1 hfr.size, (ho a n c e).2⟩, hof f hf⟩, hfr.size⟩
    · exact ⟨fun hd ho hof => ⟨hd.below hb, fun a n c e => ⟨Nat.lt_of_lt_of_le (ho a n c e).1 hb.size, (ho a n c e).2⟩, fun a n c e => by have := (ho a n c e).1; omega⟩, hb.size⟩
  obtain ⟨hfm, hsz⟩ := hfm
  have on : ∀ g, v.ownBlock = some g → Off (.slice none 0 0) g := fun g _ => off_nil g
  have a1 := hfm t1.1 hx (fun g hg => (ho g hg).1)
  have a2 := hfm t1.2.1 (OutS.nil S w) on
  have a3 := hfm t1.2.2 (OutS.nil S w) on
  have b1 := hfm t2.1 hx (fun g hg => (ho g hg).1)
  have b2 := hfm t2.2.1 hy (fun g hg => (ho g hg).2.1)
  have b3 := hfm t2.2.2 hz (fun g hg => (ho g hg).2.2)
  have old : ∀ X ∈ XS, _ := fun X hX => And.intro (hfm (h.tri X hX).1 (h.out X hX).1 (fun g hg => (h.off X hX g hg).1)) (And.intro (hfm (h.tri X hX).2.1 (h.out X hX).2.1 (fun g hg => (h.off X hX g hg).2.1)) (hfm (h.tri X hX).2.2 (h.out X hX).2.2 (fun g hg => (h.off X hX g hg).2.2)))
  refine ⟨⟨by simp [h.len], ?_, ?_, ?_, ?_⟩, hsz⟩
  · rw [flat_app]
    simpa [flat] using hw
  · intro X hX
    rcases List.mem_append.1 hX with q | q
    · exact ⟨(old X q).1.1, (old X q).2.1.1, (old X q).2.2.1⟩
    · simp at q
      rcases q with rfl | rfl
      · exact ⟨a1.1, a2.1, a3.1⟩
      · exact ⟨b1.1, b2.1, b3.1⟩
  · intro X hX g hg
    obtain rfl : f = g := by simpa [Value.ownBlock] using hg
    rcases List.mem_append.1 hX with q | q
    · exact ⟨(old X q).1.2.2, (old X q).2.1.2.2, (old X q).2.2.2.2⟩
    · simp at q
      rcases q with rfl | rfl
      · exact ⟨a1.2.2, a2.2.2, a3.2.2⟩
      · exact ⟨b1.2.2, b2.2.2, b3.2.2⟩
  · intro X hX
    rcases List.mem_append.1 hX with q | q
    · exact ⟨(old X q).1.2.1, (old X q).2.1.2.1, (old X q).2.2.2.1⟩
    · simp at q
      rcases q with rfl | rfl
      · exact ⟨a1.2.1, a2.2.1, a3.2.1⟩
      · exact ⟨b1.2.1, b2.2.1, b3.2.1⟩
/-- A call's fields as an event has them. -/
def Cl.cal (q : Cl) (ds : List Int) : Cal := ⟨q.op, q.fd, q.flags, q.mode, q.n, q.m, q.path, q.dest, ds⟩
/-- A step that came in. -/
structure Stp where
  p : Int
  q : Cl
  ds : List Int
def Stp.cells (x : Stp) : List Value := .int .i64 x.p :: x.q.cells
structure Stp.okAt (w : World) (x : Stp) : Prop where
  p64 : R64 x.p
  n64 : R64 x.q.n
  den : Den 1 w (.slice x.q.da x.q.dl x.q.dc) (byts x.ds)
  by_ : ∀ d ∈ x.ds, 0 ≤ d ∧ d < 256
def Stps (w : World) (a : Option Addr) (L : List Stp) : Prop := (∀ x ∈ L, x.okAt w) ∧ (L.length = 0 ∨ ∃ b off, a = some ⟨b, off, none⟩ ∧ b < w.heap.size ∧ ∀ (i : Nat) (x : Stp), L[i]? = some x → w.rangeAt b (off + i * 10) x.cells)
theorem Stps.below {w w' : World} {a : Option Addr} {L : List Stp} (h : Stps w a L) (hb : Below w.heap.size w w') : Stps w' a L := by
  refine ⟨fun x hx => ⟨(h.1 x hx).p64, (h.1 x hx).n64, (h.1 x hx).den.below hb, (h.1 x hx).by_⟩, ?_⟩
  rcases h.2 with h0 | ⟨b, off, rfl, hlt, hat⟩
  · exact .inl h0
  · exact .inr ⟨b, off, rfl, Nat.lt_of_lt_of_le hlt hb.size, fun i x hx j v hj => (hb.cell (p := ⟨b, off + i * 10 + j, none⟩) hlt).trans (hat i x hx j v hj)⟩
/-- What 'events' does. -/
def EventsP (w : World) (e : Ending) (w' : World) : Prop := ∃ (a : Option Addr) (n c : Nat) (XS : List EX) (L : List Dn), e = .returned (.slice a n c) ∧ Below w.heap.size w w' ∧ EvR (fun _ => False) w' w.heap.size (.slice a n c) n XS ∧ XS.map (·.1) = pairs L ∧ (∀ x ∈ L, x.ok) ∧ L.length ≤ 12
structure EvI (w wr : World) (i : Nat) (g : MG) (out : Value) (L : List Dn) : Prop where
  ex : ∃ S XS, (∃ bs T tv l fl cw, MA S wr g (3 + 4 * i) bs T tv l fl cw) ∧ (∀ k, S k → w.heap.size ≤ k ∧ k < wr.heap.size) ∧ EvR S wr w.heap.size out (2 * i) XS ∧ XS.map (·.1) = pairs L
  bel : Below w.heap.size w wr
  len : L.length = i
  ok : ∀ x ∈ L, x.ok
theorem EvI.done {w wr : World} {i : Nat} {g : MG} {a : Option Addr} {n c : Nat} {L : List Dn} (h : EvI w wr i g (.slice a n c) L) (hi : i ≤ 12) : EventsP w (.returned (.slice a n c)) wr := by
  obtain ⟨S, XS, _, _, hr, hx⟩ := h.ex
  obtain ⟨a', c', e⟩ := hr.win.value
  cases e
  exact ⟨a, _, c, XS, L, rfl, h.bel, ⟨hr.len, hr.win, hr.tri, hr.off, fun X hX => ⟨fun a n c e => ⟨((hr.out X hX).1 a n c e).1, id⟩, fun a n c e => ⟨((hr.out X hX).2.1 a n c e).1, id⟩, fun a n c e => ⟨((hr.out X hX).2.2 a n c e).1, id⟩⟩⟩, hx, h.ok, by rw [h.len]; exact hi⟩
theorem below_fr {B : Nat} {S : Nat → Prop} {T : List TypeId} {a w w' : World} (h : Below B a w) (hf : Fr S T w w') (hS : ∀ k, S k → B ≤ k) (hB : B ≤ w.heap.size) : Below B a w' :=
  ⟨hf.os.trans h.os, hf.tape.trans h.tape, hf.output.trans h.output, Nat.le_trans h.size hf.size, fun k hk => (hf.keepS (Nat.lt_of_lt_of_le hk hB) (fun q => by have := hS k q; omega)).trans (h.block k hk)⟩
/-- One step more was done, its two events appended. -/
theorem EvI.next {w W2 w5 X w7 : World} {i : Nat} {g : MG} {ua : Option Addr} {uc f o cap : Nat} {L : List Dn} {p : Nat} {q : Cl} {ds : List Int} {r : Res} {y z : Value} {S S' : Nat → Prop} {XS : List EX} (hlen : L.length = i) (hok : ∀ x ∈ L, x.ok) (hb2 : Below w.heap.size w W2) (hr : EvR S W2 w.heap.size (.slice ua (2 * i) uc) (2 * i) XS) (hx : XS.map (·.1) = pairs L) (hS : ∀ k, S k → w.heap.size ≤ k)
    (hms : MS S S' g (3 + 4 * i + 4) W2 w5) (hdm : DMem W2 w5 S' r y z) (hfl : fldI q.op r = true) (hden : Den 1 w (.slice q.da q.dl q.dc) (byts ds)) (hp : p < 2) (hX : Below w5.heap.size w5 X)
    (ha : AppTo X w7 (.slice ua (2 * i) uc) f (EX.cells (⟨1, p, q.cal ds, Res.zero⟩, .slice q.da q.dl q.dc, .slice none 0 0, .slice none 0 0) ++ EX.cells (⟨2, p, q.cal ds, r⟩, .slice q.da q.dl q.dc, y, z)))
    (hw : Win w7 w.heap.size 44 22 (.slice (some ⟨f, o, none⟩) (2 * i + 2) cap) (2 * i + 2) (flat XS ++ (EX.cells (⟨1, p, q.cal ds, Res.zero⟩, .slice q.da q.dl q.dc, .slice none 0 0, .slice none 0 0) ++ EX.cells (⟨2, p, q.cal ds, r⟩, .slice q.da q.dl q.dc, y, z)))) :
    EvI w w7 (i + 1) g (.slice (some ⟨f, o, none⟩) (2 * i + 2) cap) (L ++ [⟨p, q.cal ds, r⟩]) := by
  have hrX := (hr.fr hms.fr (by decide) hms.sup).below hX
  have hrL : EvR (LtS S' w5) X w.heap.size (.slice ua (2 * i) uc) (2 * i) XS := hrX.fr (T := []) (Fr.refl S' [] X) (by simp) (fun k h => .inl h.1)
  have hb5 := below_fr hb2 hms.fr hS hb2.size
  have hbX := hb5.trans (hX.mono hb5.size)
  have hS' : ∀ k, S' k → w.heap.size ≤ k := fun k hk => (hms.sup k hk).elim (hS k) (fun h => Nat.le_trans hb2.size h)
  have rb : ∀ k, (Value.slice ua (2 * i) uc).ownBlock = some k → w.heap.size ≤ k ∧ k < W2.heap.size := fun k hk => hr.win.lt k hk
  have hf7 : Fr (fun _ => True) [44] X w7 := ha.fr hrX.win (fun _ _ => trivial) (by simp)
  obtain ⟨hd, ⟨hy1, hz1⟩, hy2, hz2⟩ := hdm
  have hin := hden.inside
  obtain ⟨hpush, hsz⟩ := hrL.push ha hw ⟨hden.below hbX, Den.nil _ _, Den.nil _ _⟩ ⟨hden.below hbX, hd.1.below hX, hd.2.below hX⟩
    (fun a n c e => ⟨Nat.lt_of_lt_of_le (hin a n c e) hbX.size, fun q => by have := hS' _ q.1; have := hin a n c e; omega⟩)
    (fun a n c e => ⟨Nat.lt_of_lt_of_le (hy2 a n c e).1 hX.size, fun q => (hy2 a n c e).2 q.1⟩)
    (fun a n c e => ⟨Nat.lt_of_lt_of_le (hz2 a n c e).1 hX.size, fun q => (hz2 a n c e).2 q.1⟩)
    (fun k hk => ⟨fun a n c e => by have := hin a n c e; have := (rb k hk).1; omega, hy1.off (rb k hk).2, hz1.off (rb k hk).2⟩)
  obtain ⟨bs, T, tv, l, fl, cw, hma⟩ := hms.at_
  refine ⟨⟨LtS S' w5, _, ⟨bs, T, tv, l, fl, cw, (hma.lts.below hX).frT hf7 (by decide) (by decide) (by decide) (by decide)⟩, fun k hk => ⟨hS' k hk.1, Nat.lt_of_lt_of_le hk.2 (Nat.le_trans hX.size hsz)⟩, hpush, ?_⟩, hbX.trans (ha.fresh (fun k hk => (rb k hk).1) hbX.size).1, by simp [hlen], fun x hx => ?_⟩
  · rw [List.map_append, hx, pairs_app]
    rfl
  · rcases List.mem_append.1 hx with h | h
    · exact hok x h
    · rw [List.mem_singleton.1 h]
      exact ⟨by show (0 : Int) ≤ (p : Int); omega, by show (p : Int) < 8; omega, hfl⟩
/-- The cells of Few's only call. -/
theorem few_cells {w : World} {base ob oo oc : Nat} {q : Cl} (h : Win w base 42 9 (.slice (some ⟨ob, oo, none⟩) 1 oc) 1 q.cells) : w.cell? ⟨ob, oo, none⟩ = some (.int .i64 q.op) ∧ w.cell? ⟨ob, oo + 1, none⟩ = some (.string q.path) ∧ w.cell? ⟨ob, oo + 2, none⟩ = some (.string q.dest) ∧ w.cell? ⟨ob, oo + 3, none⟩ = some (.int .i64 q.fd) ∧ w.cell? ⟨ob, oo + 4, none⟩ = some (.int .i64 q.flags) ∧ w.cell? ⟨ob, oo + 5, none⟩ = some (.int .i64 q.mode) ∧ w.cell? ⟨ob, oo + 6, none⟩ = some (.int .i64 q.n) ∧ w.cell? ⟨ob, oo + 7, none⟩ = some (.int .i64 q.m) ∧ w.cell? ⟨ob, oo + 8, none⟩ = some (.slice q.da q.dl q.dc) :=
  ⟨h.cells 0 (by omega), h.cells 1 (by omega), h.cells 2 (by omega), h.cells 3 (by omega), h.cells 4 (by omega), h.cells 5 (by omega), h.cells 6 (by omega), h.cells 7 (by omega), h.cells 8 (by omega)⟩
/-- A step's cells. -/
theorem stp_cells {w : World} {a : Option Addr} {L : List Stp} (h : Stps w a L) {i : Nat} {x : Stp} (hx : L[i]? = some x) : x.okAt w ∧ ∃ b off, a = some ⟨b, off, none⟩ ∧ w.cell? ⟨b, off + i * 10, none⟩ = some (.int .i64 x.p) ∧ w.cell? ⟨b, off + i * 10 + 1, none⟩ = some (.int .i64 x.q.op) ∧ w.cell? ⟨b, off + i * 10 + 2, none⟩ = some (.string x.q.path) ∧ w.cell? ⟨b, off + i * 10 + 3, none⟩ = some (.string x.q.dest) ∧ w.cell? ⟨b, off + i * 10 + 4, none⟩ = some (.int .i64 x.q.fd) ∧ w.cell? ⟨b, off + i * 10 + 5, none⟩ = some (.int .i64 x.q.flags) ∧ w.cell? ⟨b, off + i * 10 + 6, none⟩ = some (.int .i64 x.q.mode) ∧ w.cell? ⟨b, off + i * 10 + 7, none⟩ = some (.int .i64 x.q.n) ∧ w.cell? ⟨b, off + i * 10 + 8, none⟩ = some (.int .i64 x.q.m) ∧ w.cell? ⟨b, off + i * 10 + 9, none⟩ = some (.slice x.q.da x.q.dl x.q.dc) := by
  refine ⟨h.1 x (List.mem_of_getElem? hx), ?_⟩
  rcases h.2 with h0 | ⟨b, off, rfl, _, hat⟩
  · have := (List.getElem?_eq_some_iff.1 hx).1
    omega
  · have q := hat i x hx
    exact ⟨b, off, rfl, q 0 _ rfl, q 1 _ rfl, q 2 _ rfl, q 3 _ rfl, q 4 _ rfl, q 5 _ rfl, q 6 _ rfl, q 7 _ rfl, q 8 _ rfl, q 9 _ rfl⟩
theorem cut_den {w : World} {q : Cl} {ds : List Int} (h : Den 1 w (.slice q.da q.dl q.dc) (byts ds)) : Den 1 w (.slice q.cut.da q.cut.dl q.cut.dc) (byts (ds.take 2000)) := by
  obtain ⟨p, n, c, e, h1, h2, h3, h4, h5, h6⟩ := h
  cases e
  have hl : (byts (ds.take 2000)).length = if 2000 < q.dl then 2000 else q.dl := by
    have : ds.length = q.dl := by simpa [byts] using h1
    simp only [byts, List.length_map, List.length_take]
    split <;> omega
  refine ⟨q.da, q.cut.dl, q.dc, rfl, hl, ?_, h3, ?_, fun hp => ?_, fun hn => ?_⟩
  · show (if 2000 < q.dl then 2000 else q.dl) ≤ q.dc
    split <;> omega
  · show (if 2000 < q.dl then 2000 else q.dl) * 1 ≤ _
    split <;> omega
  · obtain ⟨h7, h8⟩ := h5 hp
    refine ⟨?_, h8⟩
    show (if 2000 < q.dl then 2000 else q.dl) = 0
    rw [if_neg (by omega)]
    exact h7
  · have hn' : 0 < q.dl := by
      have : 0 < if 2000 < q.dl then 2000 else q.dl := hn
      split at this <;> omega
    obtain ⟨b, o, hb, hlt, hc⟩ := h6 hn'
    refine ⟨b, o, hb, hlt, fun i hi => ?_⟩
    have hi' : i < if 2000 < q.dl then 2000 else q.dl := hi
    have hi2 : i < q.dl ∧ i < 2000 := by split at hi' <;> omega
    rw [hc i hi2.1]
    simp only [byts, List.getElem?_map, List.getElem?_take_of_lt hi2.2]
theorem cut_dat {S : Nat → Prop} {w : World} {q : Cl} {ds : List Int} (h : Den 1 w (.slice q.da q.dl q.dc) (byts ds)) (hS : ∀ k, S k → w.heap.size ≤ k) : DatW S w q.da q.dl q.dc (byts ds) := by
  obtain ⟨p, n, c, e, h1, h2, h3, h4, h5, h6⟩ := h
  cases e
  exact ⟨h1, h2, h3, fun hn => by
    obtain ⟨b, o, hb, hlt, hc⟩ := h6 hn
    exact ⟨b, o, hb, hlt, fun q => by have := hS b q; omega, hc⟩⟩
theorem byts_isByte {ds : List Int} (h : ∀ d ∈ ds, 0 ≤ d ∧ d < 256) : ∀ x ∈ byts ds, IsByte x := fun x hx => by
  obtain ⟨d, hd, rfl⟩ := List.mem_map.1 hx
  exact ⟨d, rfl, h d hd⟩
end Go.Proofs.YtfjghemojnhmbaaGreat
