/- The reference's New walked. -/
import Derived.Test.YtmhmgenchpemkaaOrd3
namespace Go.Proofs.Ytmhmgenchpemkaa
open Go.RowKit

theorem ok_ref {n : Nat} (hn : n ≤ 64) (x : Jb) : x.ok n = decide (1 ≤ x.kind ∧ x.kind ≤ 3 ∧ 0 ≤ x.work ∧ x.work ≤ 100 ∧ 0 ≤ x.at_ ∧ x.at_ < (if x.kind = 1 then (n : Int) else (n : Int) - 2)) := by
  have w1 : 0 ≤ x.at_ → x.at_ < n → wrap64 (x.at_ + 1) = x.at_ + 1 := fun h1 h2 => by unfold wrap64; omega
  have w2 : 0 ≤ x.at_ → x.at_ < n → wrap64 (x.at_ + 2) = x.at_ + 2 := fun h1 h2 => by unfold wrap64; omega
  unfold Jb.ok hasI
  by_cases h : x.kind < 1 ∨ x.kind > 3 ∨ x.work < 0 ∨ x.work > 100 ∨ decide (0 ≤ x.at_ ∧ x.at_ < (n : Int)) = false
  · rw [if_pos h]
    symm
    rw [decide_eq_false_iff_not]
    rintro ⟨a1, a2, a3, a4, a5, a6⟩
    have : x.at_ < n := by split at a6 <;> omega
    rcases h with h | h | h | h | h
    · omega
    · omega
    · omega
    · omega
    · rw [decide_eq_false_iff_not] at h
      exact h ⟨a5, this⟩
  · rw [if_neg h]
    have h5 : 0 ≤ x.at_ ∧ x.at_ < (n : Int) := by
      by_cases e : 0 ≤ x.at_ ∧ x.at_ < (n : Int)
      · exact e
      · exact absurd (.inr (.inr (.inr (.inr (decide_eq_false e))))) h
    have h1 : ¬ x.kind < 1 := fun e => h (.inl e)
    have h2 : ¬ x.kind > 3 := fun e => h (.inr (.inl e))
    have h3 : ¬ x.work < 0 := fun e => h (.inr (.inr (.inl e)))
    have h4 : ¬ x.work > 100 := fun e => h (.inr (.inr (.inr (.inl e))))
    clear h
    by_cases k1 : x.kind = 1
    · rw [if_pos k1, if_pos k1]
      symm
      rw [decide_eq_true_iff]
      omega
    · rw [if_neg k1, if_neg k1, w1 h5.1 h5.2, w2 h5.1 h5.2, ← Bool.decide_and]
      rw [decide_eq_decide]
      omega
theorem zst_at (n k j : Nat) (hk : k < n) (hj : j < 4) : (madeCells zst (n * 4))[k * 4 + j]? = zst[j]? := by
  have h4 : zst.size = 4 := rfl
  have e : (k * 4 + j) % 4 = j := by omega
  simp only [madeCells, Array.getElem?_map, h4]
  rw [Array.getElem?_range, if_pos (by omega)]
  simp only [Option.map_some, e]
  match j, hj with
  | 0, _ | 1, _ | 2, _ | 3, _ => rfl
theorem stAt_new {w : World} {S n : Nat} (h : Holds w S (zcs n 5)) : StAt w S (List.replicate n RS.zero) := by
  refine ⟨h.lt, h.free, fun k y hy j v hv => ?_⟩
  have hk : k < n := by have := (List.getElem?_eq_some_iff.1 hy).1; simpa using this
  have hy0 : y = RS.zero := by rw [List.getElem?_replicate, if_pos hk] at hy; exact (Option.some.inj hy).symm
  subst hy0
  have hj : j < 4 := (List.getElem?_eq_some_iff.1 hv).1
  rw [h.cell]
  show (madeCells zst (n * 4))[k * 4 + j]? = some v
  rw [zst_at n k j hk hj, ← hv]
  match j, hj with
  | 0, _ | 1, _ | 2, _ | 3, _ => rfl
theorem ints_new {w : World} {A n k : Nat} (hk : k ≠ 5) (h : Holds w A (zcs n k)) (f : RS → Int) (hf : f RS.zero = 0) : Holds w A (ints ((List.replicate n RS.zero).map f)) := by
  have e : zcs n k = ints ((List.replicate n RS.zero).map f) := by
    rw [zcs, if_neg hk, Nat.mul_one, made_ints, List.map_replicate, hf]
  rw [← e]
  exact h
/-- A new run. -/
theorem rsys_new {w0 w : World} {n : Nat} {js : List Jb} {v : Nat → Value} {g : Nat → Nat} {rb c : Nat} {s : MS} (h : WI w0 n js (zcs n) (dv true true true true true true) v g w) (hn : js.length = n) (h8 : n ≤ 8) (hm : IsMem w0 rb c s) {cs : Array Value}
    (hcs : cs = #[.pointer (some ⟨rb, 0, none⟩), v 1, v 2, v 3, v 4, v 5]) :
    RSys (w.alloc (.cells cs 90)) w.heap.size rb c (g 2) (g 3) (g 4) (g 5) (v 1) js (List.replicate n RS.zero) s ∧ Below w0.heap.size w0 (w.alloc (.cells cs 90)) ∧ (∀ b ∈ [w.heap.size, g 2, g 3, g 4, g 5], w0.heap.size ≤ b) ∧ ∀ J, (v 1).ownBlock = some J → w0.heap.size ≤ J := by
  have B : Below w.heap.size w (w.alloc (.cells cs 90)) := (Below.refl _ _).alloc (Nat.le_refl _) _
  obtain ⟨a2, a3, a4, _, a6⟩ := h.em 2 (by omega) (by omega) rfl
  obtain ⟨b2, b3, b4, _, b6⟩ := h.em 3 (by omega) (by omega) rfl
  obtain ⟨c2, c3, c4, _, c6⟩ := h.em 4 (by omega) (by omega) rfl
  obtain ⟨d2, d3, d4, _, d6⟩ := h.em 5 (by omega) (by omega) rfl
  obtain ⟨e1, e2⟩ := h.e1 rfl
  have hbl := hm.hb.lt
  have hcl := hm.hc.lt
  have l2 := a3.lt
  have l3 := b3.lt
  have l4 := c3.lt
  have l5 := d3.lt
  have n32 := a6 3 (by omega) (by omega) rfl (by omega)
  have n42 := a6 4 (by omega) (by omega) rfl (by omega)
  have n52 := a6 5 (by omega) (by omega) rfl (by omega)
  have n43 := b6 4 (by omega) (by omega) rfl (by omega)
  have n53 := b6 5 (by omega) (by omega) rfl (by omega)
  have n54 := c6 5 (by omega) (by omega) rfl (by omega)
  have hs := h.bel.size
  refine ⟨⟨?_, (e1.jobs88 rfl).below B, by simp [hn], by omega, (hm.frm (l := []) (.of_below h.bel) (by simp) (by simp)).frm (l := []) (.of_below B) (by simp) (by simp), (ints_new (by omega) a3 _ rfl).below B, (ints_new (by omega) b3 _ rfl).below B, (ints_new (by omega) c3 _ rfl).below B, (stAt_new d3).frm (l := []) (.of_below B) (by simp), ?_, ?_, ?_⟩, h.bel.trans (B.mono hs), ?_, fun J hJ => (e1.lt J hJ).1⟩
  · have := Holds.new w cs 90
    rw [hn, ← a2, ← b2, ← c2, ← d2, ← hcs]
    exact this
  · simp only [List.nodup_cons, List.mem_cons, List.not_mem_nil, or_false, not_or, List.nodup_nil, and_true, not_false_eq_true]
    exact ⟨⟨by omega, by omega, by omega, by omega⟩, ⟨fun e => n32 e.symm, fun e => n42 e.symm, fun e => n52 e.symm⟩, ⟨fun e => n43 e.symm, fun e => n53 e.symm⟩, fun e => n54 e.symm⟩
  · intro k hk hm2
    simp only [List.mem_cons, List.not_mem_nil, or_false] at hk hm2
    rcases hk with rfl | rfl | rfl | rfl | rfl <;> rcases hm2 with e | e <;> omega
  · intro J hJ hm2
    have q1 := (e1.lt J hJ).1
    simp only [List.mem_cons, List.not_mem_nil, or_false] at hm2
    rcases hm2 with e | e | e | e | e | e
    · exact e2 J hJ 2 (by omega) (by omega) rfl e.symm
    · exact e2 J hJ 3 (by omega) (by omega) rfl e.symm
    · exact e2 J hJ 4 (by omega) (by omega) rfl e.symm
    · exact e2 J hJ 5 (by omega) (by omega) rfl e.symm
    · omega
    · omega
  · intro b hb
    simp only [List.mem_cons, List.not_mem_nil, or_false] at hb
    rcases hb with rfl | rfl | rfl | rfl | rfl <;> omega
/-- What New answers. -/
def NewPost (w : World) (js : List Jb) (rb c : Nat) (s : MS) (e : Ending) (w' : World) : Prop :=
  Below w.heap.size w w' ∧ if js.any (fun j => !j.ok s.ws.length) = true then e = .returned (.tuple #[.pointer none, .int .i64 1])
  else if 8 < js.length then e = .returned (.tuple #[.pointer none, .int .i64 4])
  else ∃ q A C L S vJ, e = .returned (.tuple #[.pointer (some ⟨q, 0, none⟩), .int .i64 0]) ∧ RSys w' q rb c A C L S vJ js (List.replicate js.length RS.zero) s ∧ (∀ b ∈ [q, A, C, L, S], w.heap.size ≤ b) ∧ ∀ J, vJ.ownBlock = some J → w.heap.size ≤ J
set_option maxRecDepth 100000 in
set_option maxHeartbeats 4000000 in
theorem rnew_any {w : World} {rb c b0 : Nat} {s : MS} {v : Value} {js : List Jb} (hm : IsMem w rb c s) (hj : Win w b0 88 5 v js.length (jcells js)) (hj0 : js = [] → v = .slice none 0 0) (hl : js.length ≤ 1000) :
    Calls Try.prog 18 #[.pointer (some ⟨rb, 0, none⟩), v] w (NewPost w js rb c s) := by
  have hJ := hj.jobs88 rfl
  obtain ⟨a, cap, hva⟩ := hj.value
  have h64 := hm.le
  have HM := Lib.hid hm
  have HJ := Lib.hid hj
  have HJ0 := Lib.hid hj0
  have HR : Hid (∀ k x, js[k]? = some x → ∃ f o, a = some ⟨f, o, none⟩ ∧ f < w.heap.size ∧ w.rangeAt f (o + k * 5) x.cells) := Lib.hid (by
    intro k x hx
    rcases hJ with ⟨rfl, a, cap, e⟩ | ⟨f, o, cap', e, hf, hc⟩
    · simp at hx
    · rw [hva] at e
      cases e
      exact ⟨f, o, rfl, hf, hc k x hx⟩)
  subst hva
  clear hm hj hj0 hJ
  go_enter Try.func18, Try.ntmps18
  go_wp2_with fail
  go_loopw [6] (fun iv wr => ∃ k : Nat, k ≤ js.length ∧ iv = .int .i64 k ∧ Hid (Below w.heap.size w wr ∧ ∀ x ∈ js.take k, x.ok s.ws.length = true)) (fun iv _ => js.length - (intOf iv).toNat)
  case atStart => exact ⟨0, by omega, rfl, Below.refl _ _, by simp⟩
  case round =>
    obtain ⟨k, hk, rfl, HB⟩ := hrel
    by_cases hlt : k < js.length
    · obtain ⟨x, hx⟩ : ∃ x, js[k]? = some x := ⟨_, List.getElem?_eq_getElem hlt⟩
      obtain ⟨f, o, rfl, hf, R⟩ := HR.out k x hx
      have u0 : wr.cell? ⟨f, o + k * 5, none⟩ = some (.int .i64 x.kind) := (HB.out.1.cell (p := ⟨f, o + k * 5, none⟩) hf).trans (R 0 _ rfl)
      have u1 : wr.cell? ⟨f, o + k * 5 + 1, none⟩ = some (.int .i64 x.at_) := (HB.out.1.cell (p := ⟨f, o + k * 5 + 1, none⟩) hf).trans (R 1 _ rfl)
      have u2 : wr.cell? ⟨f, o + k * 5 + 2, none⟩ = some (.int .i64 x.work) := (HB.out.1.cell (p := ⟨f, o + k * 5 + 2, none⟩) hf).trans (R 2 _ rfl)
      have u3 : wr.cell? ⟨f, o + k * 5 + 3, none⟩ = some (.int .i64 x.a) := (HB.out.1.cell (p := ⟨f, o + k * 5 + 3, none⟩) hf).trans (R 3 _ rfl)
      have u4 : wr.cell? ⟨f, o + k * 5 + 4, none⟩ = some (.int .i64 x.b) := (HB.out.1.cell (p := ⟨f, o + k * 5 + 4, none⟩) hf).trans (R 4 _ rfl)
      have HX := Lib.hid hx
      have hk0 : (0 : Int) ≤ (k : Int) := by omega
      have hk1 : (k : Int) < (js.length : Int) := by omega
      clear hx R
      go_upto_region 7 with fail
      obtain ⟨w3, hw3⟩ : ∃ w3, wr.alloc (.cells #[.int .i64 x.kind, .int .i64 x.at_, .int .i64 x.work, .int .i64 x.a, .int .i64 x.b] 88) = w3 := ⟨_, rfl⟩
      rw [hw3]
      have B3 : Below wr.heap.size wr w3 := by rw [← hw3]; exact (Below.refl _ _).alloc (Nat.le_refl _) _
      have HB3 := Lib.hid (HB.out.1.trans (B3.mono HB.out.1.size))
      have j0 : w3.cell? ⟨wr.heap.size, 0, none⟩ = some (.int .i64 x.kind) := by rw [← hw3]; simp
      have j1 : w3.cell? ⟨wr.heap.size, 1, none⟩ = some (.int .i64 x.at_) := by rw [← hw3]; simp
      have j2 : w3.cell? ⟨wr.heap.size, 2, none⟩ = some (.int .i64 x.work) := by rw [← hw3]; simp
      obtain ⟨J, hJ⟩ : ∃ J, wr.heap.size = J := ⟨_, rfl⟩
      rw [hJ] at j0 j1 j2 ⊢
      have HOK := Lib.hid HB.out.2
      clear hw3 B3 hJ HB u0 u1 u2 u3 u4
      have m0 : w3.cell? ⟨rb, 0, none⟩ = some (.slice (some ⟨c, 0, none⟩) s.ws.length s.ws.length) := (HB3.out.cell (p := ⟨rb, 0, none⟩) HM.out.hb.lt).trans (HM.out.hb.cell 0)
      have HBAD : Hid (x.ok s.ws.length = false → ∀ w', Below w.heap.size w w' → NewPost w js rb c s (.returned (.tuple #[.pointer none, .int .i64 1])) w') := Lib.hid (fun h w' hb => by
        have : js.any (fun j => !j.ok s.ws.length) = true := by
          rw [List.any_eq_true]
          exact ⟨x, List.mem_of_getElem? HX.out, by rw [h]; rfl⟩
        exact ⟨hb, by rw [if_pos this]⟩)
      have HNEXT : Hid (x.ok s.ws.length = true → ∀ y ∈ js.take (k + 1), y.ok s.ws.length = true) := Lib.hid (fun h y hy => by
        rw [List.take_add_one, HX.out] at hy
        rcases List.mem_append.1 hy with h1 | h1
        · exact HOK.out y h1
        · have : y = x := by simpa using h1
          rw [this]; exact h)
      have OKR := Lib.hid (ok_ref h64 x)
      obtain ⟨N, hN⟩ : ∃ N, s.ws.length = N := ⟨_, rfl⟩
      rw [hN] at m0 h64 OKR
      have HN := Lib.hid hN
      clear hN
      by_cases hkk : x.kind = 1
      · rw [hkk] at j0
        by_cases c3 : x.work < 0
        · have dc3 : decide (x.work < 0) = true := decide_eq_true c3
          have hb : x.ok s.ws.length = false := by rw [HN.out, OKR.out, decide_eq_false_iff_not]; rintro ⟨a1, a2, a3, a4, a5, a6⟩; (try simp only [if_true, if_false, hkk] at a6); omega
          have HBB := Lib.hid (HBAD.out hb)
          clear hb
          go_wp2_with fail
          go_ret2
          exact HBB.out _ HB3.out
        · have dc3 : decide (x.work < 0) = false := decide_eq_false c3
          by_cases c4 : x.work > 100
          · have dc4 : decide (x.work > 100) = true := decide_eq_true c4
            have hb : x.ok s.ws.length = false := by rw [HN.out, OKR.out, decide_eq_false_iff_not]; rintro ⟨a1, a2, a3, a4, a5, a6⟩; (try simp only [if_true, if_false, hkk] at a6); omega
            have HBB := Lib.hid (HBAD.out hb)
            clear hb
            go_wp2_with fail
            go_ret2
            exact HBB.out _ HB3.out
          · have dc4 : decide (x.work > 100) = false := decide_eq_false c4
            by_cases c5 : x.at_ < 0
            · have dc5 : decide (x.at_ < 0) = true := decide_eq_true c5
              have hb : x.ok s.ws.length = false := by rw [HN.out, OKR.out, decide_eq_false_iff_not]; rintro ⟨a1, a2, a3, a4, a5, a6⟩; (try simp only [if_true, if_false, hkk] at a6); omega
              have HBB := Lib.hid (HBAD.out hb)
              clear hb
              go_wp2_with fail
              go_ret2
              exact HBB.out _ HB3.out
            · have dc5 : decide (x.at_ < 0) = false := decide_eq_false c5
              by_cases c6 : x.at_ ≥ (N : Int)
              · have dc6 : decide (x.at_ ≥ (N : Int)) = true := decide_eq_true c6
                have hb : x.ok s.ws.length = false := by rw [HN.out, OKR.out, decide_eq_false_iff_not]; rintro ⟨a1, a2, a3, a4, a5, a6⟩; (try simp only [if_true, if_false, hkk] at a6); omega
                have HBB := Lib.hid (HBAD.out hb)
                clear hb
                go_wp2_with fail
                go_ret2
                exact HBB.out _ HB3.out
              · have dc6 : decide (x.at_ ≥ (N : Int)) = false := decide_eq_false c6
                have hb : x.ok s.ws.length = true := by rw [HN.out, OKR.out, decide_eq_true_iff]; refine ⟨by omega, by omega, by omega, by omega, by omega, ?_⟩; (first | (rw [if_pos hkk]; omega) | (rw [if_neg hkk]; omega))
                have HNX := Lib.hid (HNEXT.out hb)
                clear hb
                go_wp2_with fail
                go_roundw
                case rel => exact ⟨k + 1, by omega, by go_num, HB3.out, HNX.out⟩
                case measure => simp [intOf]; omega
      · have dk : (x.kind == 1) = false := by simpa using hkk
        have dk2 : (x.kind != 1) = true := by simpa using hkk
        by_cases c1 : x.kind < 1
        · have dc1 : decide (x.kind < 1) = true := decide_eq_true c1
          have hb : x.ok s.ws.length = false := by rw [HN.out, OKR.out, decide_eq_false_iff_not]; rintro ⟨a1, a2, a3, a4, a5, a6⟩; (try simp only [if_true, if_false, hkk] at a6); omega
          have HBB := Lib.hid (HBAD.out hb)
          clear hb
          go_wp2_with fail
          go_ret2
          exact HBB.out _ HB3.out
        · have dc1 : decide (x.kind < 1) = false := decide_eq_false c1
          by_cases c2 : x.kind > 3
          · have dc2 : decide (x.kind > 3) = true := decide_eq_true c2
            have hb : x.ok s.ws.length = false := by rw [HN.out, OKR.out, decide_eq_false_iff_not]; rintro ⟨a1, a2, a3, a4, a5, a6⟩; (try simp only [if_true, if_false, hkk] at a6); omega
            have HBB := Lib.hid (HBAD.out hb)
            clear hb
            go_wp2_with fail
            go_ret2
            exact HBB.out _ HB3.out
          · have dc2 : decide (x.kind > 3) = false := decide_eq_false c2
            by_cases c3 : x.work < 0
            · have dc3 : decide (x.work < 0) = true := decide_eq_true c3
              have hb : x.ok s.ws.length = false := by rw [HN.out, OKR.out, decide_eq_false_iff_not]; rintro ⟨a1, a2, a3, a4, a5, a6⟩; (try simp only [if_true, if_false, hkk] at a6); omega
              have HBB := Lib.hid (HBAD.out hb)
              clear hb
              go_wp2_with fail
              go_ret2
              exact HBB.out _ HB3.out
            · have dc3 : decide (x.work < 0) = false := decide_eq_false c3
              by_cases c4 : x.work > 100
              · have dc4 : decide (x.work > 100) = true := decide_eq_true c4
                have hb : x.ok s.ws.length = false := by rw [HN.out, OKR.out, decide_eq_false_iff_not]; rintro ⟨a1, a2, a3, a4, a5, a6⟩; (try simp only [if_true, if_false, hkk] at a6); omega
                have HBB := Lib.hid (HBAD.out hb)
                clear hb
                go_wp2_with fail
                go_ret2
                exact HBB.out _ HB3.out
              · have dc4 : decide (x.work > 100) = false := decide_eq_false c4
                by_cases c5 : x.at_ < 0
                · have dc5 : decide (x.at_ < 0) = true := decide_eq_true c5
                  have hb : x.ok s.ws.length = false := by rw [HN.out, OKR.out, decide_eq_false_iff_not]; rintro ⟨a1, a2, a3, a4, a5, a6⟩; (try simp only [if_true, if_false, hkk] at a6); omega
                  have HBB := Lib.hid (HBAD.out hb)
                  clear hb
                  go_wp2_with fail
                  go_ret2
                  exact HBB.out _ HB3.out
                · have dc5 : decide (x.at_ < 0) = false := decide_eq_false c5
                  by_cases c6 : x.at_ ≥ (N : Int) - 2
                  · have dc6 : decide (x.at_ ≥ (N : Int) - 2) = true := decide_eq_true c6
                    have hb : x.ok s.ws.length = false := by rw [HN.out, OKR.out, decide_eq_false_iff_not]; rintro ⟨a1, a2, a3, a4, a5, a6⟩; (try simp only [if_true, if_false, hkk] at a6); omega
                    have HBB := Lib.hid (HBAD.out hb)
                    clear hb
                    go_wp2_with fail
                    go_ret2
                    exact HBB.out _ HB3.out
                  · have dc6 : decide (x.at_ ≥ (N : Int) - 2) = false := decide_eq_false c6
                    have hb : x.ok s.ws.length = true := by rw [HN.out, OKR.out, decide_eq_true_iff]; refine ⟨by omega, by omega, by omega, by omega, by omega, ?_⟩; (first | (rw [if_pos hkk]; omega) | (rw [if_neg hkk]; omega))
                    have HNX := Lib.hid (HNEXT.out hb)
                    clear hb
                    go_wp2_with fail
                    go_roundw
                    case rel => exact ⟨k + 1, by omega, by go_num, HB3.out, HNX.out⟩
                    case measure => simp [intOf]; omega
    · obtain rfl : k = js.length := by omega
      have hany : js.any (fun j => !j.ok s.ws.length) = false := by
        rw [List.any_eq_false]
        intro y hy
        have := HB.out.2 y (by rw [List.take_length]; exact hy)
        simp [this]
      have hlt' : ¬ (js.length : Int) < (js.length : Int) := by omega
      by_cases h8 : 8 < js.length
      · have d : decide ((js.length : Int) > 8) = true := decide_eq_true (by omega)
        have HP : Hid (∀ w', Below w.heap.size w w' → NewPost w js rb c s (.returned (.tuple #[.pointer none, .int .i64 4])) w') := Lib.hid (fun w' hb => ⟨hb, by rw [if_neg (by rw [hany]; simp), if_pos h8]⟩)
        clear hany
        go_wp2_with fail
        go_ret2
        exact HP.out _ HB.out.1
      · have d : decide ((js.length : Int) > 8) = false := decide_eq_false (by omega)
        have HP : Hid (∀ w' q A C L S vJ, Below w.heap.size w w' → RSys w' q rb c A C L S vJ js (List.replicate js.length RS.zero) s → (∀ b ∈ [q, A, C, L, S], w.heap.size ≤ b) → (∀ J, vJ.ownBlock = some J → w.heap.size ≤ J) → NewPost w js rb c s (.returned (.tuple #[.pointer (some ⟨q, 0, none⟩), .int .i64 0])) w') := Lib.hid (fun w' q A C L S vJ hb h1 h2 h3 => ⟨hb, by rw [if_neg (by rw [hany]; simp), if_neg h8]; exact ⟨q, A, C, L, S, vJ, rfl, h1, h2, h3⟩⟩)
        clear hany
        go_upto_region 15 with fail
        refine wp_region_any (by kernel_rfl) ?_
        change wpAny _ _ _ _ 16 #[false, false, false, false, false, false, false, false, false, false, false, false, false, false, false, false] _ (World.drew _)
        refine wpAny_take (i := 0) (oi := { dst := some 66, op := .move (.tmp 0), type := 46, pos := "ref.go:62", after := #[], guard := none }) (v := .pointer (some ⟨rb, 0, none⟩)) rfl (by kernel_rfl) (by kernel_rfl) (by kernel_rfl) (fun _ _ _ h => h) (Or.inl ⟨by rfl, by intro w9; go_simp⟩) ?_
        refine wpAny_take (i := 2) (oi := { dst := some 68, op := .move (.tmp 1), type := 51, pos := "ref.go:62", after := #[], guard := none }) (v := .slice a js.length cap) rfl (by kernel_rfl) (by kernel_rfl) (by kernel_rfl) (fun _ _ _ h => h) (Or.inl ⟨by rfl, by intro w9; go_simp⟩) ?_
        refine wpAny_take (i := 4) (oi := { dst := some 70, op := .move (.tmp 9), type := 3, pos := "ref.go:62", after := #[], guard := none }) (v := .int .i64 js.length) rfl (by kernel_rfl) (by kernel_rfl) (by kernel_rfl) (fun _ _ _ h => h) (Or.inl ⟨by rfl, by intro w9; go_simp⟩) ?_
        refine wpAny_take (i := 6) (oi := { dst := some 72, op := .move (.tmp 9), type := 3, pos := "ref.go:62", after := #[], guard := none }) (v := .int .i64 js.length) rfl (by kernel_rfl) (by kernel_rfl) (by kernel_rfl) (fun _ _ _ h => h) (Or.inl ⟨by rfl, by intro w9; go_simp⟩) ?_
        refine wpAny_take (i := 8) (oi := { dst := some 74, op := .move (.tmp 9), type := 3, pos := "ref.go:62", after := #[], guard := none }) (v := .int .i64 js.length) rfl (by kernel_rfl) (by kernel_rfl) (by kernel_rfl) (fun _ _ _ h => h) (Or.inl ⟨by rfl, by intro w9; go_simp⟩) ?_
        refine wpAny_take (i := 10) (oi := { dst := some 76, op := .move (.tmp 9), type := 3, pos := "ref.go:62", after := #[], guard := none }) (v := .int .i64 js.length) rfl (by kernel_rfl) (by kernel_rfl) (by kernel_rfl) (fun _ _ _ h => h) (Or.inl ⟨by rfl, by intro w9; go_simp⟩) ?_
        simp only [Act.put, List.setIfInBounds_toArray, List.set_cons_zero, List.set_cons_succ]
        refine region15 (w0 := w) (n := js.length) (js := js) (vJ := .slice a js.length cap) rfl rfl rfl rfl rfl rfl ⟨rfl, rfl, rfl⟩ ⟨rfl, rfl, rfl⟩ ⟨rfl, rfl, rfl⟩ ⟨rfl, rfl, rfl⟩ ⟨rfl, rfl, rfl⟩ ⟨rfl, rfl, rfl⟩ ?_ (by simp) (by simp [Act.eval]) (by simp [Act.eval]) (by simp [Act.eval]) (by simp [Act.eval]) (by simp [Act.eval]) (by simp only [put6, List.setIfInBounds_toArray, List.set_cons_zero, List.set_cons_succ]) rfl (by omega) HB.out.1.drew HJ.out HJ0.out ?_
        · intro d0 d1 d2 d3 d4 d5 e1 e2
          cases d0 <;> cases d1 <;> cases d2 <;> cases d3 <;> cases d4 <;> cases d5 <;> first | (exact absurd (e1 rfl) (by decide)) | (exact absurd e2 (by decide)) | kernel_rfl
        · intro v' g' w5 h5
          obtain ⟨a2, _⟩ := h5.em 2 (by omega) (by omega) rfl
          obtain ⟨a3, _⟩ := h5.em 3 (by omega) (by omega) rfl
          obtain ⟨a4, _⟩ := h5.em 4 (by omega) (by omega) rfl
          obtain ⟨a5, _⟩ := h5.em 5 (by omega) (by omega) rfl
          obtain ⟨a1, c1, e1⟩ := (h5.e1 rfl).1.value
          have HN5 : Hid (∀ cs : Array Value, cs = #[.pointer (some ⟨rb, 0, none⟩), .slice a1 js.length c1, .slice (some ⟨g' 2, 0, none⟩) js.length js.length, .slice (some ⟨g' 3, 0, none⟩) js.length js.length, .slice (some ⟨g' 4, 0, none⟩) js.length js.length, .slice (some ⟨g' 5, 0, none⟩) js.length js.length] → RSys (w5.alloc (.cells cs 90)) w5.heap.size rb c (g' 2) (g' 3) (g' 4) (g' 5) (.slice a1 js.length c1) js (List.replicate js.length RS.zero) s ∧ Below w.heap.size w (w5.alloc (.cells cs 90)) ∧ (∀ b ∈ [w5.heap.size, g' 2, g' 3, g' 4, g' 5], w.heap.size ≤ b) ∧ ∀ J, (Value.slice a1 js.length c1).ownBlock = some J → w.heap.size ≤ J) := Lib.hid (fun cs hcs => by
            rw [← e1]
            exact rsys_new h5 rfl (by omega) HM.out (by rw [e1, a2, a3, a4, a5]; exact hcs))
          clear h5
          simp only [put6, List.setIfInBounds_toArray, List.set_cons_zero, List.set_cons_succ, a2, a3, a4, a5, e1]
          clear a2 a3 a4 a5 e1
          unfold lst
          refine wpAny_ready (rs := [12]) (by kernel_rfl) (by simp) (AllReady.cons rfl (fun K hK => ?_) AllReady.nil)
          go_simp
          refine hK _ _ ?_
          clear hK K
          refine wpAny_ready (rs := [13]) (by kernel_rfl) (by simp) (AllReady.cons rfl (fun K hK => ?_) AllReady.nil)
          go_simp
          refine hK _ _ ?_
          clear hK K
          refine wpAny_ready (rs := [14]) (by kernel_rfl) (by simp) (AllReady.cons rfl (fun K hK => ?_) AllReady.nil)
          go_simp
          refine hK _ _ ?_
          clear hK K
          refine wpAny_ready (rs := [15]) (by kernel_rfl) (by simp) (AllReady.cons rfl (fun K hK => ?_) AllReady.nil)
          go_simp
          refine hK _ _ ?_
          clear hK K
          refine wpAny_done (by kernel_rfl) ?_ _
          go_wp2_with fail
          go_ret2
          obtain ⟨n1, n2, n3, n4⟩ := HN5.out _ rfl
          exact HP.out _ _ _ _ _ _ _ n2 n1 n3 n4
end Go.Proofs.Ytmhmgenchpemkaa
