/- A load of a whole row in a region that draws its order. -/
import Derived.Test.YtfjghemojnhmbaaGreatPut
import Derived.Test.YtfjghemojnhmbaaGreatCals
namespace Go.Proofs.YtfjghemojnhmbaaGreat
open Go.RowKit

theorem below_range {w w' : World} {b o : Nat} {cs : List Value} (h : w.rangeAt b o cs) (hb : b < w.heap.size) (hB : Below w.heap.size w w') : w'.rangeAt b o cs := fun j v hj => (hB.cell (p := ⟨b, o + j, none⟩) hb).trans (h j v hj)
theorem quiet_load_mid {P : Program} {o : Oper} {a : Act} {w : World} {K : Act → Prop} (ty : TypeId) (x : Operand) (ho : o.op = .load ty x) (b off : Nat) (hx : a.eval x = .pointer (some ⟨b, off, none⟩)) (cs : List Value) (d : TypeDesc)
    (hu : P.underlying ty = some d) (hd : d.isRow = true) (hi : (P.info? ty).map (·.size) = some cs.length) (hc : w.rangeAt b off cs) (hb : b < w.heap.size)
    (hk : K (a.put o.dst (.agg cs.toArray))) : o.quiet P a (fun w' => ∃ y, w' = graft w y) K := by
  refine ⟨_, fun w' hw => ?_, hk⟩
  obtain ⟨y, rfl⟩ := hw
  unfold Oper.quietAt execOp
  simp only [ho, hx, Instr.loadAt, Instr.sureAddr, Sem.run_bind, Sem.run_pure, Result.andThen_ok, run_loadVar_mid (graft w y) b off ty cs d (below_range hc hb (graft_below w y)) hu hd hi]
  exact ⟨rfl, rfl⟩
end Go.Proofs.YtfjghemojnhmbaaGreat
/- A table of eight calls; what a round of the two walks knows. -/
namespace Go.Proofs.YtfjghemojnhmbaaGreat
open Go.RowKit

theorem wpList_load_mid_g {P : Program} {ops : Array Oper} {rest : List Oper} {op : Oper} {a : Act} {w : World} {Q : Exit → Act → World → Prop} (hw : Region.wanted op (yielded ops a.tmps) = true) (ty : TypeId) (x : Operand) (ho : op.op = .load ty x)
    (b o : Nat) (hx : a.eval x = .pointer (some ⟨b, o, none⟩)) (cs : List Value) (d : TypeDesc) (hc : w.rangeAt b o cs)
    (hu : P.underlying ty = some d) (hd : d.isRow = true) (hi : (P.info? ty).map (·.size) = some cs.length)
    (h : wpList P ops Q rest (a.put op.dst (.agg cs.toArray)) w) : wpList P ops Q (op :: rest) a w :=
  BigFrame.wpList_want hw fun _ hK => wp_load_mid ty x ho b o hx cs d hc hu hd hi (hK _ _ h)

def zrow : List Value := Cal.zero.cells (.slice none 0 0)
def tcells : List Value := (List.replicate 8 zrow).flatten
theorem info60 : (Tryz.prog.info? 60).map (fun i => (i.zero, i.size, i.bytes)) = some (some (.agg tcells.toArray), 72, 832) := by kernel_rfl
theorem zero60 (w : World) : (zeroValue 60).run Tryz.prog w = .ok (.agg tcells.toArray) w := by
  obtain ⟨i, hi, hz, _, _⟩ := info_parts info60
  simp [zeroValue, typeInfo, hi, hz]

/-- Block B holds eight calls; their bytes lay in w0 before it was. -/
def Tabl (w0 W : World) (B : Nat) (f : Nat → Cal) : Prop :=
  B < W.heap.size ∧ W.there B 0 72 ∧ ∀ T, T < 8 → ∃ x, Den 1 w0 x (byts (f T).ds) ∧ W.rangeAt B (T * 9) ((f T).cells x)
theorem Tabl.below {w0 W W' : World} {B : Nat} {f : Nat → Cal} (h : Tabl w0 W B f) (hb : Below W.heap.size W W') : Tabl w0 W' B f := by
  obtain ⟨h1, h2, h3⟩ := h
  refine ⟨Nat.lt_of_lt_of_le h1 hb.size, fun j hj => ?_, fun T hT => ?_⟩
  · have := h2 j hj
    rw [hb.cell (p := ⟨B, 0 + j, none⟩) h1, hb.frozen (p := ⟨B, 0 + j, none⟩) h1]
    exact this
  · obtain ⟨x, d, r⟩ := h3 T hT
    exact ⟨x, d, below_range r h1 hb⟩
theorem Tabl.new (w : World) : Tabl w (w.alloc (.cells tcells.toArray 60)) w.heap.size (fun _ => Cal.zero) := by
  have H := Holds.new w tcells.toArray 60
  have ht := H.there
  refine ⟨H.lt, ht, fun T hT => ⟨.slice none 0 0, Den.nil 1 w, fun j v hj => ?_⟩⟩
  rw [H.cell]
  have hl : j < 9 := (List.getElem?_eq_some_iff.1 hj).1
  have := flatten_get 9 (List.replicate 8 zrow) T j zrow (fun r hr => by rw [List.eq_of_mem_replicate hr]; rfl) (by rw [List.getElem?_replicate, if_pos hT]) hl
  show tcells.toArray[T * 9 + j]? = _
  rw [List.getElem?_toArray]
  exact this.trans hj
theorem Tabl.set {w0 W : World} {B : Nat} {f : Nat → Cal} (h : Tabl w0 W B f) {T : Nat} (hT : T < 8) {c : Cal} {x : Value} (hx : Den 1 w0 x (byts c.ds)) : Tabl w0 (W.setCells B (T * 9) (c.cells x)) B (updC f T c) := by
  obtain ⟨h1, h2, h3⟩ := h
  have hs : ∀ (vs : List Value) (o : Nat) (w : World), (w.setCells B o vs).heap.size = w.heap.size := by
    intro vs
    induction vs with
    | nil => intro o w; rfl
    | cons v r ih => intro o w; exact (ih (o + 1) _).trans (by simp)
  refine ⟨by rw [hs]; exact h1, fun j hj => ⟨World.isSome_setCells _ _ _ _ _ (h2 j hj).1, (frozen_setCells _ _ _ _ _).trans (h2 j hj).2⟩, fun t ht => ?_⟩
  by_cases e : t = T
  · subst e
    refine ⟨x, by simpa [updC] using hx, ?_⟩
    have := World.rangeAt_setCells_same W B (t * 9) (c.cells x) (fun j hj => by
      have hj : j < 9 := hj
      have := h2 (t * 9 + j) (by omega)
      rwa [Nat.zero_add] at this)
    simpa [updC] using this
  · obtain ⟨y, d, r⟩ := h3 t ht
    refine ⟨y, by simpa [updC, e] using d, ?_⟩
    have hu : updC f T c t = f t := by simp [updC, e]
    rw [hu]
    intro j v hj
    have hl : j < 9 := (List.getElem?_eq_some_iff.1 hj).1
    rw [World.cell?_setCells_out B (c.cells x) (T * 9) W ⟨B, t * 9 + j, none⟩ (fun _ _ => by
      show t * 9 + j < T * 9 ∨ T * 9 + 9 ≤ t * 9 + j
      omega)]
    exact r j v hj
theorem Tabl.row {w0 W : World} {B : Nat} {f : Nat → Cal} (h : Tabl w0 W B f) {T : Nat} (hT : T < 8) : ∃ x, Den 1 w0 x (byts (f T).ds) ∧ W.rangeAt B (T * 9) ((f T).cells x) := h.2.2 T hT
theorem Tabl.room {w0 W : World} {B : Nat} {f : Nat → Cal} (h : Tabl w0 W B f) {T : Nat} (hT : T < 8) : W.there B (T * 9) 9 := fun j hj => by
  have := h.2.1 (T * 9 + j) (by omega)
  rwa [Nat.zero_add] at this

/-- An event in a block of its own. -/
structure Rnd (w1 W : World) (Bq : Nat) (e : Ev) (x y z : Value) : Prop where
  bel : Below w1.heap.size w1 W
  row : Holds W Bq (e.cells x y z).toArray
  tri : Tri w1 e.c e.r x y z
theorem Rnd.below {w1 W W' : World} {Bq : Nat} {e : Ev} {x y z : Value} (h : Rnd w1 W Bq e x y z) (hb : Below W.heap.size W W') : Rnd w1 W' Bq e x y z :=
  ⟨h.bel.trans (hb.mono h.bel.size), h.row.below hb, h.tri⟩
theorem Rnd.call {w1 W : World} {Bq : Nat} {e : Ev} {x y z : Value} (h : Rnd w1 W Bq e x y z) : W.rangeAt Bq 2 (e.c.cells x) := fun j v hj => by
  have hl : j < 9 := (List.getElem?_eq_some_iff.1 hj).1
  rw [h.row.cell, ← hj]
  match j, hl with
  | 0, _ | 1, _ | 2, _ | 3, _ | 4, _ | 5, _ | 6, _ | 7, _ | 8, _ => rfl
theorem Rnd.res {w1 W : World} {Bq : Nat} {e : Ev} {x y z : Value} (h : Rnd w1 W Bq e x y z) : W.rangeAt Bq 11 (e.r.cells y z) := fun j v hj => by
  have hl : j < 11 := (List.getElem?_eq_some_iff.1 hj).1
  rw [h.row.cell, ← hj]
  match j, hl with
  | 0, _ | 1, _ | 2, _ | 3, _ | 4, _ | 5, _ | 6, _ | 7, _ | 8, _ | 9, _ | 10, _ => rfl
theorem Rnd.kind {w1 W : World} {Bq : Nat} {e : Ev} {x y z : Value} (h : Rnd w1 W Bq e x y z) : W.cell? ⟨Bq, 0, none⟩ = some (.int .i64 e.k) := h.row.cell 0
theorem Rnd.thread {w1 W : World} {Bq : Nat} {e : Ev} {x y z : Value} (h : Rnd w1 W Bq e x y z) : W.cell? ⟨Bq, 1, none⟩ = some (.int .i64 e.t) := h.row.cell 1
theorem Rnd.oper {w1 W : World} {Bq : Nat} {e : Ev} {x y z : Value} (h : Rnd w1 W Bq e x y z) : W.cell? ⟨Bq, 2, none⟩ = some (.int .i64 e.c.c0) := h.row.cell 2
end Go.Proofs.YtfjghemojnhmbaaGreat
/- The walk of audit.Shapes. -/
namespace Go.Proofs.YtfjghemojnhmbaaGreat
open Go.RowKit

set_option maxRecDepth 100000 in
set_option maxHeartbeats 8000000 in
theorem shapes_any {w : World} {a : Option Addr} {n cap : Nat} {E : List Ev} (hE : E.length = n) (hr : Evs w a E) (hn : n ≤ 1000) :
    Calls Tryz.prog 7 #[.slice a n cap] w fun e w' => e = .returned (.tuple #[.int .i64 (shp E).1, .int .i64 (shp E).2]) ∧ Below w.heap.size w w' := by
  have HEV := Lib.hid hr
  have HEL := Lib.hid hE
  clear hr hE
  have hz := zero60
  go_enter Tryz.func7, Tryz.ntmps7
  go_upto_if 17 with (first | (go_at_call 13; refine (ops_any HEL.out HEV.out hn).mono ?_; rintro e w1 ⟨v, rfl, o1, b1⟩; obtain ⟨av, cv, rfl⟩ := o1.value; have HB1 := Lib.hid b1; have HE1 := Lib.hid (HEV.out.below b1); clear b1 o1))
  obtain ⟨EN, hEN⟩ : ∃ EN, EN = endOf E := ⟨_, rfl⟩
  have HEN := Lib.hid hEN
  clear hEN
  obtain ⟨Y0, hY0⟩ : ∃ Y0, whyOf (ops E) = Y0 := ⟨_, rfl⟩
  obtain ⟨T0, hT0⟩ : ∃ T0, atOf (ops E) = T0 := ⟨_, rfl⟩
  obtain ⟨L0, hL0⟩ : ∃ L0, (listOf (ops E)).length = L0 := ⟨_, rfl⟩
  rw [hY0, hT0, hL0]
  have HY := Lib.hid hY0
  have HT := Lib.hid hT0
  clear hY0 hT0 hL0
  go_cut [6] (fun v wx => v = .int .i64 EN ∧ wx = w1)
  case first =>
    cases ho : ops E with
    | ok s =>
      have e1 : EN = (n : Int) := by rw [HEN.out]; unfold endOf; rw [ho, HEL.out]
      have d1 : (Y0 == 0) = true := by rw [← HY.out, ho]; rfl
      clear HY HT HEN ho
      go_wp2_with fail
      go_meet
      exact ⟨by rw [e1], rfl⟩
    | error j =>
      have e1 : EN = T0 := by rw [HEN.out, ← HT.out]; unfold endOf; rw [ho]; rfl
      have d1 : (Y0 == 0) = false := by rw [← HY.out, ho]; rfl
      clear HY HT HEN ho
      go_wp2_with fail
      go_meet
      exact ⟨by rw [e1], rfl⟩
  case rest =>
    obtain ⟨rfl, rfl⟩ := hcut
    clear HY HT
    go_wp2_with fail
    have HT0 : Hid (Tabl wc (wc.alloc (.cells tcells.toArray 60)) wc.heap.size (fun _ => Cal.zero)) := Lib.hid (Tabl.new wc)
    have HB0 : Hid (Below wc.heap.size wc (wc.alloc (.cells tcells.toArray 60))) := Lib.hid ((Below.refl _ _).alloc (Nat.le_refl _) _)
    clear hz
    go_loopw [22] (fun iv wr => ∃ i s, i ≤ n ∧ iv = .int .i64 i ∧ Hid (At E i s ∧ Tabl wc wr wc.heap.size (tab E i) ∧ Below wc.heap.size wc wr)) (fun iv _ => n - (intOf iv).toNat)
    case atStart => exact ⟨0, St.new, by omega, rfl, At.new E, HT0.out, HB0.out⟩
    case round =>
      obtain ⟨i, s, hin, rfl, HS⟩ := hrel
      clear HT0 HB0
      by_cases hi : i < n
      · have h0 : (0 : Int) ≤ (i : Int) := by omega
        have h1 : (i : Int) < (n : Int) := by omega
        obtain ⟨e, he⟩ : ∃ e, E[i]? = some e := ⟨_, List.getElem?_eq_getElem (by have := HEL.out; omega)⟩
        rcases HE1.out with hr | ⟨b, off, rfl, hb, hev⟩
        · have := HEL.out
          omega
        obtain ⟨x, y, z, ht, hR⟩ := hev i e he
        have R1 : wr.rangeAt b (off + i * 22) (e.cells x y z) := fun j v hj => (HS.out.2.2.cell (p := ⟨b, off + i * 22 + j, none⟩) hb).trans (hR j v hj)
        have ZA : Hid (∀ C : Array Value, C.size = 22 → (wr.alloc (.cells C 44)).there wr.heap.size 0 (e.cells x y z).toArray.size) := Lib.hid (fun C hC => by
          have := (Holds.new wr C 44).there
          rw [hC] at this
          exact this)
        have EO := Ev.one ht
        go_upto_region 8 with (first | (refine wpList_load_mid rfl 44 (.tmp 25) rfl b (off + i * 22) rfl (e.cells x y z) _ R1 Tryz.underlying44 rfl size35 ?_) | (refine wpList_store_mid rfl 44 (.tmp 9) (.tmp 26) rfl wr.heap.size 0 (e.cells x y z).toArray rfl rfl (ZA.out _ rfl) size35 EO ?_))
        obtain ⟨n1, n2⟩ := new_set (w := wr) (C := (#[.int .i64 0, .int .i64 0, .int .i64 0, .string ⟨#[]⟩, .string ⟨#[]⟩, .int .i64 0, .int .i64 0, .int .i64 0, .int .i64 0, .int .i64 0, .slice none 0 0, .int .i64 0, .int .i64 0, .slice none 0 0, .slice none 0 0, .int .i64 0, .int .i64 0, .int .i64 0, .int .i64 0, .int .i64 0, .int .i64 0, .int .i64 0] : Array Value)) (ty := 44) (vs := e.cells x y z) rfl
        have HQ := Lib.hid n1
        have HQ2 := Lib.hid n2
        clear n1 n2
        generalize ((wr.alloc (.cells (#[.int .i64 0, .int .i64 0, .int .i64 0, .string ⟨#[]⟩, .string ⟨#[]⟩, .int .i64 0, .int .i64 0, .int .i64 0, .int .i64 0, .int .i64 0, .slice none 0 0, .int .i64 0, .int .i64 0, .slice none 0 0, .slice none 0 0, .int .i64 0, .int .i64 0, .int .i64 0, .int .i64 0, .int .i64 0, .int .i64 0, .int .i64 0] : Array Value) 44)).setCells wr.heap.size 0 (e.cells x y z)) = W at *
        have HR : Hid (Rnd wc W wr.heap.size e x y z) := Lib.hid ⟨HS.out.2.2.trans (HQ2.out.mono HS.out.2.2.size), HQ.out, ht⟩
        have HTB := Lib.hid (HS.out.2.1.below HQ2.out)
        have HA := Lib.hid HS.out.1
        obtain ⟨Bq, hBq⟩ : ∃ Bq, Bq = wr.heap.size := ⟨_, rfl⟩
        rw [← hBq] at HR ⊢
        have HEE := Lib.hid he
        have hei := end_iff HA.out.ok he
        rw [← HEN.out] at hei
        have HEI := Lib.hid hei
        clear hei HS HQ HQ2 ZA EO R1 hR ht hev hBq he
        by_cases hbad : badE s e = true
        · have d1 : ((i : Int) == EN) = true := by rw [beq_iff_eq]; exact HEI.out.2 hbad
          have HV : Hid (verdE E i s e = some (1, (i : Int))) := Lib.hid (by unfold verdE; rw [if_pos hbad])
          clear hbad
          go_wp2_with fail
          go_ret2
          refine ⟨?_, ?_⟩
          · rw [shp_at (p := (1, (i : Int))) (by have := HEL.out; omega) HA.out.none (by rw [verd_of HA.out.ok HEE.out]; exact HV.out)]
            rfl
          · exact HB1.out.trans (HR.out.bel.mono HB1.out.size)
        · have d1 : ((i : Int) == EN) = false := by rw [beq_eq_false_iff_ne]; exact fun h => hbad (HEI.out.1 h)
          have hb0 : badE s e = false := by simpa using hbad
          have HBAD := Lib.hid hb0
          have HV0 : Hid (verdE E i s e = if e.k = 2 ∧ calI (callAt E (opn E i e.t.toNat)) e.c = false then some (2, (i : Int))
              else if e.k = 2 ∧ fldI e.c.c0 e.r = false then some (3, (i : Int)) else if e.k ≠ 2 ∧ sameI e.r Res.zero = false then some (4, (i : Int)) else none) := Lib.hid (by unfold verdE; rw [if_neg hbad])
          clear hbad hb0
          have HBq := HR.out.row.lt
          have HBt := HTB.out.1
          have v0 : W.cell? ⟨Bq, 0, none⟩ = some (.int .i64 e.k) := HR.out.kind
          by_cases hk : e.k = 2
          · have HK := Lib.hid hk
            rw [hk] at v0
            obtain ⟨T, hT, het, hetn, _, htab⟩ := HA.out.back HBAD.out hk
            have HET := Lib.hid het
            have HETN := Lib.hid hetn
            have HTAB := Lib.hid htab
            have v1 : W.cell? ⟨Bq, 1, none⟩ = some (.int .i64 (T : Int)) := by rw [← het]; exact HR.out.thread
            have t0 : (0 : Int) ≤ (T : Int) := by omega
            have t1 : (T : Int) < 8 := by omega
            obtain ⟨xT, dT, rT⟩ := HTB.out.row hT
            have RT := Lib.hid rT
            have RC := Lib.hid HR.out.call
            obtain ⟨V, hV⟩ : ∃ V, calI (tab E i T) e.c = V := ⟨_, rfl⟩
            have HX10 : Hid (∀ X, Below W.heap.size W X → Calls Tryz.prog 14 #[.agg ((tab E i T).cells xT).toArray, .agg (e.c.cells x).toArray] X fun e' w' => e' = .returned (.bool V) ∧ Below X.heap.size X w') := Lib.hid (fun X hX => by
              rw [← hV]
              exact sameCall_any (dT.below (HR.out.bel.trans (hX.mono HR.out.bel.size))) (HR.out.tri.1.below (HR.out.bel.trans (hX.mono HR.out.bel.size))))
            have HVV := Lib.hid hV
            clear het hetn htab dT rT hk hV
            go_upto_region 10 with fail
            cases V with
            | false =>
              have HV : Hid (verdE E i s e = some (2, (i : Int))) := Lib.hid (by
                rw [HV0.out, if_pos ⟨HK.out, by rw [HETN.out, ← HTAB.out, HVV.out]⟩])
              refine wp_region_graft (by kernel_rfl) (by kernel_rfl) ?_
              repeat (first | (go_big_quiet_want; refine quiet_load_mid 42 (.tmp 39) rfl wc.heap.size (T * 9) rfl ((tab E i T).cells xT) _ Tryz.underlying42 rfl size28 RT.out HBt ?_; simp only [Act.put, List.setIfInBounds_toArray, List.set_cons_zero, List.set_cons_succ]; go_big_quiet_on) | (go_big_quiet_want; refine quiet_load_mid 42 (.tmp 41) rfl Bq 2 rfl (e.c.cells x) _ Tryz.underlying42 rfl size28 RC.out HBq ?_; simp only [Act.put, List.setIfInBounds_toArray, List.set_cons_zero, List.set_cons_succ]; go_big_quiet_on) | go_big_quiet_step ((go_at_call 14; with_reducible exact calls_graft (HX10.out _ (graft_below _ _)))))
              refine wpQuiet_nil ?_
              intro w6 b6
              have HR := Lib.hid (HR.out.below b6)
              clear HX10 b6 v0 v1 RT RC
              go_wp2_with fail
              go_ret2
              refine ⟨?_, ?_⟩
              · rw [shp_at (p := (2, (i : Int))) (by have := HEL.out; omega) HA.out.none (by rw [verd_of HA.out.ok HEE.out]; exact HV.out)]
                rfl
              · exact HB1.out.trans (HR.out.bel.mono HB1.out.size)
            | true =>
              have HV1 : Hid (verdE E i s e = if e.k = 2 ∧ fldI e.c.c0 e.r = false then some (3, (i : Int)) else if e.k ≠ 2 ∧ sameI e.r Res.zero = false then some (4, (i : Int)) else none) := Lib.hid (by
                rw [HV0.out, if_neg (fun h => by
                  have := h.2
                  rw [HETN.out, ← HTAB.out, HVV.out] at this
                  cases this)])
              refine wp_region_graft (by kernel_rfl) (by kernel_rfl) ?_
              repeat (first | (go_big_quiet_want; refine quiet_load_mid 42 (.tmp 39) rfl wc.heap.size (T * 9) rfl ((tab E i T).cells xT) _ Tryz.underlying42 rfl size28 RT.out HBt ?_; simp only [Act.put, List.setIfInBounds_toArray, List.set_cons_zero, List.set_cons_succ]; go_big_quiet_on) | (go_big_quiet_want; refine quiet_load_mid 42 (.tmp 41) rfl Bq 2 rfl (e.c.cells x) _ Tryz.underlying42 rfl size28 RC.out HBq ?_; simp only [Act.put, List.setIfInBounds_toArray, List.set_cons_zero, List.set_cons_succ]; go_big_quiet_on) | go_big_quiet_step ((go_at_call 14; with_reducible exact calls_graft (HX10.out _ (graft_below _ _)))))
              refine wpQuiet_nil ?_
              intro w6 b6
              have HR := Lib.hid (HR.out.below b6)
              have HTB := Lib.hid (HTB.out.below b6)
              clear HX10 b6 v0 v1 RT RC HVV HTAB
              have v0 : w6.cell? ⟨Bq, 0, none⟩ = some (.int .i64 e.k) := HR.out.kind
              rw [HK.out] at v0
              have v2 : w6.cell? ⟨Bq, 2, none⟩ = some (.int .i64 e.c.c0) := HR.out.oper
              have RR := Lib.hid HR.out.res
              obtain ⟨V, hV⟩ : ∃ V, fldI e.c.c0 e.r = V := ⟨_, rfl⟩
              have HX6 : Hid (∀ X, Below w6.heap.size w6 X → Calls Tryz.prog 15 #[.int .i64 e.c.c0, .agg (e.r.cells y z).toArray] X fun e' w' => e' = .returned (.bool V) ∧ Below X.heap.size X w') := Lib.hid (fun X hX => by
                rw [← hV]
                exact fields_any e.c.c0 (HR.out.tri.2.1.below (HR.out.bel.trans (hX.mono HR.out.bel.size))) (HR.out.tri.2.2.below (HR.out.bel.trans (hX.mono HR.out.bel.size))))
              have HVV := Lib.hid hV
              clear hV
              cases V with
              | false =>
                have HV : Hid (verdE E i s e = some (3, (i : Int))) := Lib.hid (by
                  rw [HV1.out, if_pos ⟨HK.out, HVV.out⟩])
                go_wp2_with (first | (refine wpList_load_mid_g (by rfl) 40 (.tmp 55) rfl Bq 11 rfl (e.r.cells y z) _ ?_ Tryz.underlying40 rfl size33 ?_; (exact RR.out)) | (go_at_call 15; refine (HX6.out _ (Below.refl _ _)).mono ?_; rintro e6 w7 ⟨rfl, b7⟩; have HR := Lib.hid (HR.out.below b7); have HTB := Lib.hid (HTB.out.below b7); clear b7))
                go_ret2
                refine ⟨?_, ?_⟩
                · rw [shp_at (p := (3, (i : Int))) (by have := HEL.out; omega) HA.out.none (by rw [verd_of HA.out.ok HEE.out]; exact HV.out)]
                  rfl
                · exact HB1.out.trans (HR.out.bel.mono HB1.out.size)
              | true =>
                have HV : Hid (verdE E i s e = none) := Lib.hid (by
                  rw [HV1.out, if_neg (fun h => by have := h.2; rw [HVV.out] at this; cases this), if_neg (fun h => h.1 HK.out)])
                go_upto_region 14 with (first | (refine wpList_load_mid_g (by rfl) 40 (.tmp 55) rfl Bq 11 rfl (e.r.cells y z) _ ?_ Tryz.underlying40 rfl size33 ?_; (exact RR.out)) | (go_at_call 15; refine (HX6.out _ (Below.refl _ _)).mono ?_; rintro e6 w7 ⟨rfl, b7⟩; have HR := Lib.hid (HR.out.below b7); have HTB := Lib.hid (HTB.out.below b7); clear b7))
                have v0 : w7.cell? ⟨Bq, 0, none⟩ = some (.int .i64 e.k) := HR.out.kind
                rw [HK.out] at v0
                go_wp2_with fail
                go_roundw
                case rel => exact ⟨i + 1, stepX s i e, by omega, by go_num, HA.out.next HEE.out HV.out, by
                  have := tab_next HEE.out
                  rw [if_neg (by have := HK.out; omega)] at this
                  rw [this]; exact HTB.out, HR.out.bel⟩
                case measure => simp [intOf]; omega
          · have d2 : (e.k == 2) = false := by simpa using hk
            have d2' : (e.k != 2) = true := by simpa using hk
            have HK := Lib.hid hk
            have HV1 : Hid (verdE E i s e = if sameI e.r Res.zero = false then some (4, (i : Int)) else none) := Lib.hid (by
              rw [HV0.out, if_neg (fun h => hk h.1), if_neg (fun h => hk h.1)]
              simp [hk])
            clear hk
            have RR := Lib.hid HR.out.res
            obtain ⟨V, hV⟩ : ∃ V, sameI e.r Res.zero = V := ⟨_, rfl⟩
            have HVV := Lib.hid hV
            clear hV
            go_upto_region 10 with fail
            go_quiet (fail)
            have HR := Lib.hid (HR.out.below (below_drewN (Below.refl _ W) nq))
            have HTB := Lib.hid (HTB.out.below (below_drewN (Below.refl _ W) nq))
            have RR := Lib.hid HR.out.res
            clear v0
            generalize W.drewN nq = W6 at *
            have v0 : W6.cell? ⟨Bq, 0, none⟩ = some (.int .i64 e.k) := HR.out.kind
            have HX11 : Hid (∀ X, Below W6.heap.size W6 X → Calls Tryz.prog 16 #[.agg (e.r.cells y z).toArray, .agg (Res.zero.cells (.slice none 0 0) (.slice none 0 0)).toArray] X fun e' w' => e' = .returned (.bool V) ∧ Below X.heap.size X w') := Lib.hid (fun X hX => by
              rw [← HVV.out]
              exact same_any (HR.out.tri.2.1.below (HR.out.bel.trans (hX.mono HR.out.bel.size))) (HR.out.tri.2.2.below (HR.out.bel.trans (hX.mono HR.out.bel.size))) (Den.nil _ _) (Den.nil _ _))
            cases V with
            | false =>
              have HV : Hid (verdE E i s e = some (4, (i : Int))) := Lib.hid (by
                rw [HV1.out, if_pos HVV.out])
              go_wp2_with (first | (refine wpList_load_mid_g (by rfl) 40 (.tmp 66) rfl Bq 11 rfl (e.r.cells y z) _ ?_ Tryz.underlying40 rfl size33 ?_; (exact RR.out)) | (go_at_call 16; go_must (refine (HX11.out _ (Below.refl _ _)).mono ?_); rintro e6 w7 ⟨rfl, b7⟩; have HR := Lib.hid (HR.out.below b7); have HTB := Lib.hid (HTB.out.below b7); clear b7))
              go_ret2
              refine ⟨?_, ?_⟩
              · rw [shp_at (p := (4, (i : Int))) (by have := HEL.out; omega) HA.out.none (by rw [verd_of HA.out.ok HEE.out]; exact HV.out)]
                rfl
              · exact HB1.out.trans (HR.out.bel.mono HB1.out.size)
            | true =>
              have HV : Hid (verdE E i s e = none) := Lib.hid (by
                rw [HV1.out, if_neg (fun h => by rw [HVV.out] at h; cases h)])
              go_upto_region 16 with (first | (refine wpList_load_mid_g (by rfl) 40 (.tmp 66) rfl Bq 11 rfl (e.r.cells y z) _ ?_ Tryz.underlying40 rfl size33 ?_; (exact RR.out)) | (go_at_call 16; go_must (refine (HX11.out _ (Below.refl _ _)).mono ?_); rintro e6 w7 ⟨rfl, b7⟩; have HR := Lib.hid (HR.out.below b7); have HTB := Lib.hid (HTB.out.below b7); clear b7))
              have v0 : w7.cell? ⟨Bq, 0, none⟩ = some (.int .i64 e.k) := HR.out.kind
              by_cases hk1 : e.k = 1
              · rw [hk1] at v0
                obtain ⟨T, hT, het, hetn⟩ := HA.out.call HBAD.out hk1
                have HK1 := Lib.hid hk1
                have HETN := Lib.hid hetn
                have v1 : w7.cell? ⟨Bq, 1, none⟩ = some (.int .i64 (T : Int)) := by rw [← het]; exact HR.out.thread
                have t0 : (0 : Int) ≤ (T : Int) := by omega
                have t1 : (T : Int) < 8 := by omega
                have RC := HR.out.call
                have ROOM := HTB.out.room hT
                have EC := Cal.one HR.out.tri.1
                clear hk1 het hetn
                go_upto_region 18 with (first | (refine wpList_load_mid rfl 42 (.tmp 79) rfl Bq 2 rfl (e.c.cells x) _ RC Tryz.underlying42 rfl size28 ?_) | (refine wpList_store_mid rfl 42 (.tmp 81) (.tmp 80) rfl wc.heap.size (T * 9) (e.c.cells x).toArray rfl rfl ROOM size28 EC ?_))
                have HTB2 := Lib.hid (HTB.out.set hT HR.out.tri.1)
                have F8 := Lib.hid (HR.out.bel.trans ((Frm.setCells (b := wc.heap.size) (l := [wc.heap.size]) (by simp) (e.c.cells x) (T * 9) (Frm.refl _ w7)).below HR.out.bel.size (by simp)))
                clear v0 v1 RC ROOM
                generalize w7.setCells wc.heap.size (T * 9) (e.c.cells x) = w8 at *
                go_wp2_with fail
                go_roundw
                case rel => exact ⟨i + 1, stepX s i e, by omega, by go_num, HA.out.next HEE.out HV.out, by
                  have := tab_next HEE.out
                  rw [if_pos HK1.out, HETN.out] at this
                  rw [this]; exact HTB2.out, F8.out⟩
                case measure => simp [intOf]; omega
              · have d3 : (e.k == 1) = false := by simpa using hk1
                have HK1 := Lib.hid hk1
                clear hk1
                go_wp2_with fail
                go_roundw
                case rel => exact ⟨i + 1, stepX s i e, by omega, by go_num, HA.out.next HEE.out HV.out, by
                  have := tab_next HEE.out
                  rw [if_neg HK1.out] at this
                  rw [this]; exact HTB.out, HR.out.bel⟩
                case measure => simp [intOf]; omega
      · obtain rfl : i = n := by omega
        have h1 : ¬ (i : Int) < (i : Int) := by omega
        go_wp2_with fail
        go_ret2
        refine ⟨?_, HB1.out.trans (HS.out.2.2.mono HB1.out.size)⟩
        rw [shp_none (fun j hj => HS.out.1.none j (by rw [HEL.out] at hj; exact hj))]
        rfl
end Go.Proofs.YtfjghemojnhmbaaGreat
