/- Chapter 4, the document's answer: New, Defer. -/
import Derived.Test.YtedfegbafjmkgaaRef2
import Derived.StillTailTactics
namespace Go.Proofs.Ytedfegbafjmkgaa
open Go.RowKit

theorem info4 : (Try.prog.info? 4).map (fun i => (i.zero, i.size, i.bytes)) = some (some (.bool false), 1, 1) := by kernel_rfl
theorem info70 : (Try.prog.info? 70).map (fun i => (i.zero, i.size, i.bytes)) = some (some (.agg #[.int .i64 0, .slice none 0 0]), 2, 32) := by kernel_rfl
theorem made_i : ∀ n : Nat, n ≤ 8 → madeCells (Value.int .i64 0).cells (n * 1) = il (List.replicate n 0)
  | 0, _ => by kernel_rfl
  | 1, _ => by kernel_rfl
  | 2, _ => by kernel_rfl
  | 3, _ => by kernel_rfl
  | 4, _ => by kernel_rfl
  | 5, _ => by kernel_rfl
  | 6, _ => by kernel_rfl
  | 7, _ => by kernel_rfl
  | 8, _ => by kernel_rfl
  | n + 9, h => by omega
theorem made_b : ∀ n : Nat, n ≤ 8 → madeCells (Value.bool false).cells (n * 1) = bl (List.replicate n false)
  | 0, _ => by kernel_rfl
  | 1, _ => by kernel_rfl
  | 2, _ => by kernel_rfl
  | 3, _ => by kernel_rfl
  | 4, _ => by kernel_rfl
  | 5, _ => by kernel_rfl
  | 6, _ => by kernel_rfl
  | 7, _ => by kernel_rfl
  | 8, _ => by kernel_rfl
  | n + 9, h => by omega
theorem make_i (w : World) (n : Nat) (hn : n ≤ 8) : (Instr.makeSlice 28 (.int .i64 (n : Int)) (.int .i64 (n : Int))).run Try.prog w = .ok (.slice (some ⟨w.heap.size, 0, none⟩) n n) (w.alloc (.cells (il (List.replicate n 0)) 3)) := by
  obtain ⟨i, hi, hz0, hz1, hz2⟩ := info_parts info3
  have h := run_make (P := Try.prog) w 28 3 i _ Try.underlying28 hi hz0 .i64 .i64 (n : Int) (n : Int) (by omega) (by omega) (by rw [hz2]; omega) (by omega)
  rw [hz1, Int.toNat_natCast] at h
  rw [← made_i n hn]
  exact h
theorem make_b (w : World) (n : Nat) (hn : n ≤ 8) : (Instr.makeSlice 68 (.int .i64 (n : Int)) (.int .i64 (n : Int))).run Try.prog w = .ok (.slice (some ⟨w.heap.size, 0, none⟩) n n) (w.alloc (.cells (bl (List.replicate n false)) 4)) := by
  obtain ⟨i, hi, hz0, hz1, hz2⟩ := info_parts info4
  have h := run_make (P := Try.prog) w 68 4 i _ Try.underlying68 hi hz0 .i64 .i64 (n : Int) (n : Int) (by omega) (by omega) (by rw [hz2]; omega) (by omega)
  rw [hz1, Int.toNat_natCast] at h
  rw [← made_b n hn]
  exact h
def RS.new (n : Nat) : RS := ⟨List.replicate n 0, []⟩
theorem rf_new (w : World) (n : Nat) (t : TypeId) (h1 : 1 ≤ n) (h2 : n ≤ 8) :
    Rf ((w.alloc (.cells (il (List.replicate n 0)) 3)).alloc (.cells #[.slice (some ⟨w.heap.size, 0, none⟩) n n, .slice none 0 0] t)) (w.heap.size + 2) (w.heap.size + 1) w.heap.size (.slice none 0 0) (RS.new n) := by
  refine ⟨?_, ?_, Win.nil _ _ _ _, by simp [RS.new], by simp [RS.new], by simp [RS.new]; omega, by simp [RS.new]; omega, by simp [RS.new], by omega, by omega, by omega, by simp⟩
  · have := Holds.new (w.alloc (.cells (il (List.replicate n 0)) 3)) #[.slice (some ⟨w.heap.size, 0, none⟩) n n, .slice none 0 0] t
    rw [World.size_alloc] at this
    simpa [RS.new] using this
  · exact (Holds.new w (il (List.replicate n 0)) 3).alloc _
theorem rnew_yes (n : Nat) (w : World) (h1 : 1 ≤ n) (h2 : n ≤ 8) :
    Calls Try.prog 20 #[.int .i64 n] w fun e w' => e = .returned (.pointer (some ⟨w.heap.size + 1, 0, none⟩)) ∧ Rf w' (w.heap.size + 2) (w.heap.size + 1) w.heap.size (.slice none 0 0) (RS.new n) ∧ Below w.heap.size w w' := by
  have hmk := make_i w n h2
  go_enter Try.func20, Try.ntmps20
  go_wp2_with fail
  go_ret
  exact ⟨rfl, rf_new w n _ h1 h2, by go_grown⟩

def whoTo (ins : List Int) (k : Nat) : List Bool := (List.range ins.length).map fun j => decide (j < k) && decide (0 < ins.getD j 0)
def noneTo (ins : List Int) (k : Nat) : Bool := (List.range k).all fun j => ins.getD j 0 == 0
theorem whoTo_zero (ins : List Int) : whoTo ins 0 = List.replicate ins.length false := by
  simp [whoTo]
  apply List.ext_getElem
  · simp
  · intro j h1 h2; simp
theorem whoTo_succ {ins : List Int} {k : Nat} : (whoTo ins k).set k (decide (0 < ins.getD k 0)) = whoTo ins (k + 1) := by
  apply List.ext_getElem
  · simp [whoTo]
  · intro j h1 h2
    by_cases e : j = k
    · subst e; simp [whoTo]
    · rw [List.getElem_set_ne (Ne.symm e)]
      simp only [whoTo, List.getElem_map, List.getElem_range]
      congr 1
      rw [decide_eq_decide]; omega
theorem whoTo_length (ins : List Int) (k : Nat) : (whoTo ins k).length = ins.length := by simp [whoTo]
theorem noneTo_succ (ins : List Int) (k : Nat) : noneTo ins (k + 1) = (noneTo ins k && ins.getD k 0 == 0) := by
  simp [noneTo, List.range_succ, List.all_append]
section
variable {w w' : World} {base gb ib : Nat} {v : Value} {t : RS}
/-- One more waits. -/
theorem Rf.push {w4 : World} {v' sv : Value} {id : Int} {who : List Bool} {tmp : Obj} (h : Rf w base gb ib v t) (hgrow : (w.alloc tmp).grownBy w4 v.ownBlock) (hown : Win w4 base 70 2 v' (t.l.length + 1) (recells t.l ++ [.int .i64 id, sv]))
    (hsv : WhoAt w base t.ins.length ⟨id, sv, who⟩) (hnew : ∀ x ∈ t.l, x.v.ownBlock ≠ sv.ownBlock) (hm : t.l.length < 16) :
    (w4.cell? ⟨gb, 1, none⟩ = some v ∧ w4.frozen? ⟨gb, 1, none⟩ = false) ∧ Rf (w4.setCell ⟨gb, 1, none⟩ v') base gb ib v' { t with l := t.l ++ [⟨id, sv, who⟩] } ∧ TFrm [70, 4] base [gb, ib] w (w4.setCell ⟨gb, 1, none⟩ v') := by
  have f0 : Frm v.ownBlock.toList w w4 := ((Frm.refl _ _).alloc tmp).trans (Frm.of_grown hgrow (fun k hk _ => by rw [hk]; simp))
  have f1 : Frm [gb] w4 (w4.setCell ⟨gb, 1, none⟩ v') := (Frm.refl _ _).setCell (by simp) _
  have t70 : ∀ k ∈ v.ownBlock.toList, base ≤ k ∧ ∃ cs, w.heap[k]? = some (.cells cs 70 (0, 0)) := fun k hk => by
    have e : v.ownBlock = some k := by simpa using hk
    refine ⟨(h.hv.lt k e).1, ?_⟩
    rcases h.hv.2 with ⟨e', _⟩ | ⟨f', o', cap', cur, e', _, h4, _⟩
    · rw [e'] at e; cases e
    · rw [e'] at e
      obtain rfl : f' = k := by simpa [Value.ownBlock] using e
      exact ⟨_, h4⟩
  have hgb := h.gbb
  have hibb := h.ibb
  have hg4 := h.hg.frm f0 (fun hk => by have := (t70 gb hk).1; omega)
  have hr4 := h.hi.frm f0 (fun hk => by have := (t70 ib hk).1; omega)
  have sn : ∀ x, WhoAt w base t.ins.length x → WhoAt (w4.setCell ⟨gb, 1, none⟩ v') base t.ins.length x := fun x ⟨f, e, a1, a2, a3⟩ => by
    refine ⟨f, e, a1, (f1.block f ?_ (by simp; omega)).trans ((f0.block f (heapLt a2) (fun hm => ?_)).trans a2), a3⟩
    · exact Nat.lt_of_lt_of_le (heapLt a2) f0.size
    · obtain ⟨_, cs, hc⟩ := t70 f hm
      rw [a2] at hc; cases hc
  refine ⟨⟨hg4.cell 1, hg4.free 1⟩, ⟨hg4.set 1 v' (by simp), hr4.frm f1 (by simpa using h.ne.symm), ?_, ?_, ?_, h.n1, h.n8, by simp; omega, h.gbb, h.ibb, h.ne, ?_⟩, ?_⟩
  · have := hown.frm f1 (fun k hk e => by have := (hown.lt k e).1; simp at hk; omega)
    simpa [recells, RE.cells] using this
  · intro x hx
    rcases List.mem_append.1 hx with hx | hx
    · exact sn _ (h.hs x hx)
    · rw [List.mem_singleton.1 hx]; exact sn _ hsv
  · rw [List.map_append, List.nodup_append]
    refine ⟨h.nd, by simp, fun a ha b hb e => ?_⟩
    obtain ⟨x, hx, rfl⟩ := List.mem_map.1 ha
    have hb' : b = sv.ownBlock := by simpa using hb
    exact hnew x hx (e.trans hb')
  · exact Nat.le_trans h.bs (Nat.le_trans f0.size f1.size)
  · refine (TFrm.of_frm f0 (fun k hk => ?_)).trans (.of_frm f1 (by simp))
    obtain ⟨a, cs, hc⟩ := t70 k hk
    exact .inr ⟨a, cs, 70, hc, by simp⟩
structure DL (w wr : World) (J : Nat) (id : Int) (n : Nat) (who : List Bool) : Prop where
  a : wr.heap[J]? = some (.cells (bl who) 4 (0, 0))
  b : wr.heap[J + 1]? = some (.cells #[.int .i64 id, .slice (some ⟨J, 0, none⟩) n n] 70 (0, 0))
  bel : Below w.heap.size w wr
theorem DL.set {wr : World} {J n : Nat} {id : Int} {who : List Bool} (h : DL w wr J id n who) (hJ : w.heap.size ≤ J) (k : Nat) (x : Bool) : DL w (wr.setCell ⟨J, k, none⟩ (.bool x)) J id n (who.set k x) := by
  have hF : Frm [J] wr (wr.setCell ⟨J, k, none⟩ (.bool x)) := (Frm.refl _ _).setCell (by simp) _
  refine ⟨by rw [← bl_set]; exact heapSet h.a _, (hF.block (J + 1) (heapLt h.b) (by simp)).trans h.b, h.bel.setCell (p := ⟨J, k, none⟩) hJ _⟩
theorem DL.on {wr wz : World} {J n : Nat} {id : Int} {who : List Bool} (h : DL w wr J id n who) (hb : Below wr.heap.size wr wz) : DL w wz J id n who :=
  ⟨(hb.block J (heapLt h.a)).trans h.a, (hb.block (J + 1) (heapLt h.b)).trans h.b, h.bel.trans (hb.mono h.bel.size)⟩
theorem rdefer_full (h : Rf w base gb ib v t) {id : Int} (hm : 16 ≤ t.l.length) : Calls Try.prog 23 #[.pointer (some ⟨gb, 0, none⟩), .int .i64 id] w fun e w' => e = .returned (.tuple #[.bool false, .int .i64 13]) ∧ w = w' := by
  have c1 : w.cell? ⟨gb, 1, none⟩ = some v := h.hg.cell 1
  have hlg := h.hg.lt
  obtain ⟨va, vc, hva⟩ := h.hv.value
  rw [hva] at c1
  have d : (t.l.length : Int) ≥ 16 := by omega
  clear h hva
  go_enter Try.func23, Try.ntmps23
  go_wp2_with fail
  go_ret2
  exact ⟨rfl, rfl⟩
set_option maxRecDepth 100000 in
set_option maxHeartbeats 2000000 in
theorem rdefer_yes (h : Rf w base gb ib v t) {id : Int} (hm : t.l.length < 16) : Calls Try.prog 23 #[.pointer (some ⟨gb, 0, none⟩), .int .i64 id] w fun e w' => ∃ sv v', e = .returned (.tuple #[.bool (noneTo t.ins t.ins.length), .int .i64 0]) ∧
    Rf w' base gb ib v' { t with l := t.l ++ [⟨id, sv, whoTo t.ins t.ins.length⟩] } ∧ TFrm [70, 4] base [gb, ib] w w' := by
  have c0 : w.cell? ⟨gb, 0, none⟩ = some (.slice (some ⟨ib, 0, none⟩) t.ins.length t.ins.length) := h.hg.cell 0
  have c1 : w.cell? ⟨gb, 1, none⟩ = some v := h.hg.cell 1
  have hlg := h.hg.lt
  have hli := h.hi.lt
  have hn8 := h.n8
  have hn1 := h.n1
  obtain ⟨va, vc, hva⟩ := h.hv.value
  rw [hva] at c1
  have HVA := Lib.hid hva
  have H := Lib.hid h
  have hm' : ¬ (t.l.length : Int) ≥ 16 := by omega
  have hmk := make_b w t.ins.length hn8
  clear h hva
  obtain ⟨i70, hi70, hz70, hs70, hb70⟩ := info_parts info70
  go_enter Try.func23, Try.ntmps23
  go_upto_region 4 with fail
  have D0 : DL w ((w.alloc (.cells (bl (List.replicate t.ins.length false)) 4)).alloc (.cells #[.int .i64 id, .slice (some ⟨w.heap.size, 0, none⟩) t.ins.length t.ins.length] 70)) w.heap.size id t.ins.length (whoTo t.ins 0) := by
    refine ⟨?_, ?_, ((Below.refl _ _).alloc (Nat.le_refl _) _).alloc (by simp) _⟩
    · rw [whoTo_zero]
      exact (((Below.refl _ _).alloc (Nat.le_refl _) _).block w.heap.size (by simp)).trans (World.alloc_heap_new _ _)
    · have := World.alloc_heap_new (w.alloc (.cells (bl (List.replicate t.ins.length false)) 4)) (.cells #[.int .i64 id, .slice (some ⟨w.heap.size, 0, none⟩) t.ins.length t.ins.length] 70)
      rw [World.size_alloc] at this
      exact this
  obtain ⟨w3, hw3⟩ : ∃ w3, (w.alloc (.cells (bl (List.replicate t.ins.length false)) 4)).alloc (.cells #[.int .i64 id, .slice (some ⟨w.heap.size, 0, none⟩) t.ins.length t.ins.length] 70) = w3 := ⟨_, rfl⟩
  rw [hw3] at D0 ⊢
  have HD := Lib.hid D0
  have d0 : w3.cell? ⟨gb, 0, none⟩ = some (.slice (some ⟨ib, 0, none⟩) t.ins.length t.ins.length) := (D0.bel.cell (p := ⟨gb, 0, none⟩) hlg).trans c0
  clear hw3 hmk D0 c0 c1
  obtain ⟨J, hJ⟩ : ∃ J, w.heap.size = J := ⟨_, rfl⟩
  have hJle : w.heap.size ≤ J := by omega
  rw [hJ] at HD ⊢
  have HJ := Lib.hid hJ
  clear hJ
  go_wp2_with fail
  go_loopw [7, 8] (fun nv iv wr => ∃ k : Nat, k ≤ t.ins.length ∧ iv = .int .i64 k ∧ nv = .bool (noneTo t.ins k) ∧ Hid (DL w wr J id t.ins.length (whoTo t.ins k))) (fun _ iv _ => t.ins.length - (intOf iv).toNat)
  case atStart => exact ⟨0, by omega, rfl, rfl, HD⟩
  case round =>
    clear HD d0
    obtain ⟨k, hk, rfl, rfl, HD⟩ := hrel
    have c0 : wr.cell? ⟨gb, 0, none⟩ = some (.slice (some ⟨ib, 0, none⟩) t.ins.length t.ins.length) := (HD.out.bel.cell (p := ⟨gb, 0, none⟩) hlg).trans (H.out.hg.cell 0)
    have hlr := Nat.lt_of_lt_of_le hlg HD.out.bel.size
    by_cases hlt : k < t.ins.length
    · have hk0 : (0 : Int) ≤ (k : Int) := by omega
      have hk1 : (k : Int) < (t.ins.length : Int) := by omega
      obtain ⟨x, hx⟩ : ∃ x, t.ins.getD k 0 = x := ⟨_, rfl⟩
      have c1 : wr.cell? ⟨ib, k, none⟩ = some (.int .i64 x) := by rw [← hx]; exact (HD.out.bel.cell (p := ⟨ib, k, none⟩) hli).trans ((H.out.hi.cell k).trans (il_at hlt))
      have c2 : wr.cell? ⟨J + 1, 1, none⟩ = some (.slice (some ⟨J, 0, none⟩) t.ins.length t.ins.length) := by rw [heapCell HD.out.b]; rfl
      have c3 : wr.cell? ⟨J, k, none⟩ = some (.bool ((whoTo t.ins k).getD k false)) := (heapCell HD.out.a k).trans (bl_at (by rw [whoTo_length]; exact hlt))
      have f3 := heapFree HD.out.a
      have HS := Lib.hid (HD.out.set hJle k (decide (0 < x)))
      have HWT : Hid ((whoTo t.ins k).set k (decide (0 < x)) = whoTo t.ins (k + 1)) := Lib.hid (by rw [← hx]; exact whoTo_succ)
      have HNT : Hid (noneTo t.ins (k + 1) = (noneTo t.ins k && x == 0)) := Lib.hid (by rw [← hx]; exact noneTo_succ _ _)
      clear hx
      go_upto_region 8 with fail
      have HSD : Hid (DL w (wr.setCell ⟨J, k, none⟩ (.bool (decide (0 < x)))).drew J id t.ins.length (whoTo t.ins (k + 1))) := Lib.hid (by rw [← HWT.out]; exact HS.out.on (Below.refl _ _).drew)
      have CI : Hid ((wr.setCell ⟨J, k, none⟩ (.bool (decide (0 < x)))).drew.cell? ⟨ib, k, none⟩ = some (.int .i64 x)) := Lib.hid (by
        have := (HSD.out.bel.cell (p := ⟨ib, k, none⟩) hli).trans ((HD.out.bel.cell (p := ⟨ib, k, none⟩) hli).symm.trans c1)
        exact this)
      have CG : Hid ((wr.setCell ⟨J, k, none⟩ (.bool (decide (0 < x)))).drew.cell? ⟨gb, 0, none⟩ = some (.slice (some ⟨ib, 0, none⟩) t.ins.length t.ins.length)) := Lib.hid (by
        have := (HSD.out.bel.cell (p := ⟨gb, 0, none⟩) hlg).trans ((HD.out.bel.cell (p := ⟨gb, 0, none⟩) hlg).symm.trans c0)
        exact this)
      go_still_tail 12, (by kernel_rfl)
      change wpList _ _ _ _ _ (World.drew _)
      go_upto_region 9 with fail
      obtain ⟨w5, hw5⟩ : ∃ w5, (wr.setCell ⟨J, k, none⟩ (.bool (decide (0 < x)))).drew = w5 := ⟨_, rfl⟩
      rw [hw5] at HSD CI CG ⊢
      have ci := CI.out
      have cg := CG.out
      have gl5 := Nat.lt_of_lt_of_le hlg HSD.out.bel.size
      clear hw5 HS c0 c1 c2 c3 f3
      have HNT' := HNT.out
      cases hnb : noneTo t.ins k
      · rw [hnb, Bool.false_and] at HNT'
        have HN2 := Lib.hid HNT'
        clear HNT' hnb
        go_wp2_with fail
        go_roundw
        case rel => exact ⟨k + 1, by omega, by go_num, by rw [HN2.out], HSD⟩
        case measure => simp [intOf]; omega
      · rw [hnb, Bool.true_and] at HNT'
        have HN2 := Lib.hid HNT'
        clear HNT' hnb
        go_wp2_with fail
        go_roundw
        case rel => exact ⟨k + 1, by omega, by go_num, by rw [HN2.out], HSD⟩
        case measure => simp [intOf]; omega
    · obtain rfl : k = t.ins.length := by omega
      go_upto_region 10 with fail
      obtain rfl := HVA.out
      have hws := HD.out.bel.size
      have HG := Lib.hid (H.out.below HD.out.bel)
      have q1 : wr.cell? ⟨gb, 1, none⟩ = some (.slice va t.l.length vc) := HG.out.hg.cell 1
      have b0 : wr.cell? ⟨J + 1, 0, none⟩ = some (.int .i64 id) := by rw [heapCell HD.out.b]; rfl
      have b1 : wr.cell? ⟨J + 1, 1, none⟩ = some (.slice (some ⟨J, 0, none⟩) t.ins.length t.ins.length) := by rw [heapCell HD.out.b]; rfl
      have ng : ¬ gb = wr.heap.size := by omega
      have hJ1 := heapLt HD.out.b
      have nb : ¬ J + 1 = wr.heap.size := by omega
      have hbs := H.out.bs
      have q2 : ((wr.alloc (.cells #[.int .i64 id, .slice (some ⟨J, 0, none⟩) t.ins.length t.ins.length] 70)).drew).cell? ⟨gb, 1, none⟩ = some (.slice va t.l.length vc) := by
        show (wr.alloc (.cells #[.int .i64 id, .slice (some ⟨J, 0, none⟩) t.ins.length t.ins.length] 70)).cell? ⟨gb, 1, none⟩ = _
        rw [World.cell?_alloc_old _ _ _ ng]; exact q1
      have PUSH : Hid (∀ (wz : World), Below wr.heap.size wr wz → ∀ (w4 : World) (f' o' cap' : Nat) (tmp : Obj), Win w4 base 70 2 (.slice (some ⟨f', o', none⟩) (t.l.length + 1) cap') (t.l.length + 1) (recells t.l ++ [.int .i64 id, .slice (some ⟨J, 0, none⟩) t.ins.length t.ins.length]) → (wz.alloc tmp).grownBy w4 (Value.slice va t.l.length vc).ownBlock →
          (w4.cell? ⟨gb, 1, none⟩ = some (Value.slice va t.l.length vc) ∧ w4.frozen? ⟨gb, 1, none⟩ = false) ∧ Rf (w4.setCell ⟨gb, 1, none⟩ (.slice (some ⟨f', o', none⟩) (t.l.length + 1) cap')) base gb ib (.slice (some ⟨f', o', none⟩) (t.l.length + 1) cap') { t with l := t.l ++ [⟨id, .slice (some ⟨J, 0, none⟩) t.ins.length t.ins.length, whoTo t.ins t.ins.length⟩] } ∧ TFrm [70, 4] base [gb, ib] w (w4.setCell ⟨gb, 1, none⟩ (.slice (some ⟨f', o', none⟩) (t.l.length + 1) cap'))) := Lib.hid (by
        intro wz hz w4 f' o' cap' tmp hO hG
        have HDz := HD.out.on hz
        have hbs := H.out.bs
        have P := Rf.push (HG.out.below hz) hG hO ⟨J, rfl, by have := HJ.out; omega, HDz.a, whoTo_length _ _⟩ (fun x hx e => by
          obtain ⟨f, ef, _, a2, _⟩ := H.out.hs x hx
          rw [ef] at e
          obtain rfl : f = J := by simpa [Value.ownBlock] using e
          have := heapLt a2
          have := HJ.out
          omega) hm
        exact ⟨P.1, P.2.1, ((TFrm.of_below HD.out.bel).trans (TFrm.of_below hz)).trans P.2.2⟩)
      have HW := Lib.hid HG.out.hv
      clear HD
      go_region_law (first | (refine step_append_win _ rfl (.tmp 59) (.tmp 61) 65 rfl base 70 i70 _ 2 32 Try.underlying65 hi70 hz70 hs70 hb70 rfl (by decide) (.slice va t.l.length vc) t.l.length (recells t.l) (by simp [Act.eval]) (by first | exact HW.out.alloc _ | exact HW.out.drew.alloc _) ⟨wr.heap.size, 0, none⟩ 1 1 [.int .i64 id, .slice (some ⟨J, 0, none⟩) t.ins.length t.ins.length] (by simp [Act.eval]) rfl (by first | exact new_cells wr [.int .i64 id, .slice (some ⟨J, 0, none⟩) t.ins.length t.ins.length] _ | exact new_cells wr.drew [.int .i64 id, .slice (some ⟨J, 0, none⟩) t.ins.length t.ins.length] _) (by simp [Value.oneCell']) (by decide) (by unfold maxLen; omega) (by omega) (by simp; omega) ?_; intro f' o' cap' w4 hown hgrow hat; have R := Lib.hid (by first | exact PUSH.out wr (Below.refl _ _) w4 f' o' cap' _ hown hgrow | exact PUSH.out wr.drew (Below.refl _ _).drew w4 f' o' cap' _ hown hgrow); have r1 := R.out.1.1; have r2 := R.out.1.2; clear hown hgrow hat))
      all_goals (
        have R2 := Lib.hid R.out.2
        clear r1 r2 R PUSH
        obtain ⟨w5, hw5⟩ : ∃ w5, w4.setCell ⟨gb, 1, none⟩ (.slice (some ⟨f', o', none⟩) (t.l.length + 1) cap') = w5 := ⟨_, rfl⟩
        rw [hw5] at R2 ⊢
        clear hw5
        go_wp2_with fail
        go_ret2
        refine ⟨?_, ⟨_, _, R2.out.1⟩, R2.out.2⟩
        rfl)
end
end Go.Proofs.Ytedfegbafjmkgaa
