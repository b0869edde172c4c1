/- The walk of SpinPlays. -/
import Derived.Test.YtmhmgenchpemkaaRTwo
import Derived.Test.YtmhmgenchpemkaaFair
namespace Go.Proofs.Ytmhmgenchpemkaa
open Go.RowKit

/-- Both runs in one world, beside W. -/
structure Two (W w : World) (r b c f o cap : Nat) (v : Value) (q rb c2 A C Lb S : Nat) (vJ : Value) (js : List Jb) (L : List Mch) (Y : List RS) (s : MS) : Prop where
  p : Sys w r b c f o cap v L s
  d : RSys w q rb c2 A C Lb S vJ js Y s
  rel : Rels js L Y
  bel : Below W.heap.size W w
  ap : ∀ k ∈ [r, f, b, c], k ∉ [q, A, C, Lb, S, rb, c2] ∧ vJ.ownBlock ≠ some k
  hi : ∀ k ∈ [f, b, c, A, C, Lb, S, rb, c2], W.heap.size ≤ k
  pos : 1 ≤ s.ws.length
section
variable {W w w' : World} {r b c f o cap : Nat} {v : Value} {q rb c2 A C Lb S : Nat} {vJ : Value} {js : List Jb} {L L' : List Mch} {Y Y' : List RS} {s s' : MS}
theorem Two.below (h : Two W w r b c f o cap v q rb c2 A C Lb S vJ js L Y s) (hb : Below w.heap.size w w') : Two W w' r b c f o cap v q rb c2 A C Lb S vJ js L Y s :=
  ⟨h.p.below hb, h.d.below hb, h.rel, h.bel.trans (hb.mono h.bel.size), h.ap, h.hi, h.pos⟩
/-- A step of the one, then of the other. -/
theorem Two.prog (h : Two W w r b c f o cap v q rb c2 A C Lb S vJ js L Y s) (h1 : Frm [f, b, c] w w') : RSys w' q rb c2 A C Lb S vJ js Y s ∧ Below W.heap.size W w' := by
  refine ⟨h.d.frm h1 (fun k hk => h.ap k (List.mem_cons_of_mem _ hk)), h.bel.trans (h1.below h.bel.size (fun k hk => h.hi k (List.mem_append_left [A, C, Lb, S, rb, c2] hk)))⟩
theorem Two.ref {w2 : World} (h : Two W w r b c f o cap v q rb c2 A C Lb S vJ js L Y s) (hp : Sys w' r b c f o cap v L' s') (hb : Below W.heap.size W w') (h2 : Frm [A, C, Lb, S, rb, c2] w' w2) (hd : RSys w2 q rb c2 A C Lb S vJ js Y' s') (hr : Rels js L' Y') (hl : s'.ws.length = s.ws.length) : Two W w2 r b c f o cap v q rb c2 A C Lb S vJ js L' Y' s' := by
  have g : ∀ k ∈ [r, f, b, c], k ∉ [A, C, Lb, S, rb, c2] := fun k hk hm => (h.ap k hk).1 (List.mem_cons_of_mem _ hm)
  exact ⟨hp.frm h2 (g r (by simp)) (g b (by simp)) (g c (by simp)) (g f (by simp)), hd, hr, hb.trans (h2.below hb.size (fun k hk => h.hi k (List.mem_append_right [f, b, c] hk))), h.ap, h.hi, by rw [hl]; exact h.pos⟩
end
theorem acc_len (s : MS) (kind : Int) (i : Nat) (v : Int) (d : Bool) : (s.acc kind i v d).ws.length = s.ws.length := by simp [MS.acc]
theorem load_len (s : MS) (i : Int) : (s.load i).2.2.ws.length = s.ws.length := by unfold MS.load; split <;> simp [acc_len]
theorem store_len (s : MS) (i v : Int) : (s.store i v).2.ws.length = s.ws.length := by unfold MS.store; split <;> simp [acc_len]
theorem swap_len (s : MS) (i o n : Int) : (s.swap i o n).2.2.ws.length = s.ws.length := by
  unfold MS.swap
  split
  · split <;> simp [acc_len]
  · rfl
theorem holdM_len (s : MS) (x : Mch) (n : Int) : (holdM s x n).2.ws.length = s.ws.length := by
  unfold holdM
  split
  · split <;> exact swap_len _ _ _ _
  · split
    · exact load_len _ _
    · exact store_len _ _ _
theorem secondM_len (s : MS) (x : Mch) : (secondM s x).2.ws.length = s.ws.length := by
  unfold secondM
  split
  · exact store_len _ _ _
  · exact load_len _ _
theorem finishM_len (s : MS) (x : Mch) : (finishM s x).2.ws.length = s.ws.length := by
  unfold finishM
  split
  · exact store_len _ _ _
  · split <;> exact load_len _ _
theorem pairM_len (s : MS) (x : Mch) : (pairM s x).2.ws.length = s.ws.length := by
  unfold pairM
  split
  · split <;> exact load_len _ _
  · split
    · split <;> exact swap_len _ _ _ _
    · split
      · split
        · exact store_len _ _ _
        · exact load_len _ _
      · split
        · split
          · exact secondM_len _ _
          · exact load_len _ _
        · split
          · exact secondM_len _ _
          · exact finishM_len _ _
theorem outM_len (L : List Mch) (s : MS) (a : Int) : (outM L s a).s.ws.length = s.ws.length := by
  unfold outM
  split
  · rfl
  · split
    · rfl
    · split
      · rfl
      · unfold stepM
        split
        · exact holdM_len _ _ _
        · exact pairM_len _ _
theorem JobsAt.take {w : World} {a : Option Addr} {len cap m : Nat} {js : List Jb} (h : JobsAt w (.slice a len cap) js) (k : Nat) (hm : m = (js.take k).length) : JobsAt w (.slice a m cap) (js.take k) := by
  subst hm
  rcases h with ⟨rfl, a', cap', e⟩ | ⟨f, o, cap', e, hf, hc⟩
  · cases e
    exact .inl ⟨by simp, a, cap, by simp⟩
  · cases e
    by_cases h0 : js.take k = []
    · exact .inl ⟨h0, _, _, by rw [h0]; rfl⟩
    · refine .inr ⟨f, o, cap, rfl, hf, fun i j hj => hc i j ?_⟩
      rw [List.getElem?_take] at hj
      split at hj
      · exact hj
      · cases hj
theorem shown_again {x : Mch} {y : RS} (h : y.shown = x.st) : (⟨0, 0, 0, x.done, x.sa, x.sb, x.tries⟩ : RS).shown = x.st := by
  unfold RS.shown
  cases hx : x.done
  · rw [if_neg (by simp)]
    unfold RS.shown at h
    cases hy : y.done
    · rw [hy, if_neg (by simp)] at h
      unfold Mch.st at h ⊢
      rw [hx] at h ⊢
      injection h with _ h1
      injection h1 with h1 h2
      injection h2 with h2 h3
      rw [← h1, ← h2]
    · rw [hy, if_pos rfl] at h
      unfold RS.st Mch.st at h
      rw [hy, hx] at h
      injection h with h0
      cases h0
  · rw [if_pos rfl]
    unfold RS.st Mch.st
    rw [hx]
set_option maxRecDepth 100000 in
set_option maxHeartbeats 1000000 in
theorem plays_any (n : Int) (a : Option Addr) (len cap : Nat) (a2 : Option Addr) (len2 cap2 : Nat) (fp : Nat → Int) (js0 : List Jb) (w : World) (h1 : -9223372036854775808 ≤ n) (h2 : n ≤ 9223372036854775807) (hj : JobsAt w (.slice a len cap) js0) (hlen : js0.length = len) (hcap : len ≤ cap) (hc : cap ≤ 9223372036854775807) (hr : RowB w a2 len2 fp) (hm2 : len2 ≤ 9223372036854775807) :
    Calls Try.prog 4 #[.int .i64 n, .slice a len cap, .slice a2 len2 cap2] w fun e w' => e = .returned (.bool true) ∧ Below w.heap.size w w' := by
  obtain ⟨N, hN, hN0⟩ := within_nat (lo := 0) (hi := 11) (n := n) (by decide) rfl
  have E1 := Lib.hid (within_any n 0 11 w h1 h2 (by omega) (by omega) (by omega))
  rw [hN] at E1
  have HR := Lib.hid hr
  have HJ := Lib.hid hj
  clear hN h1 h2 hr hj
  obtain ⟨M, hM⟩ : ∃ M : Nat, 1 + N = M := ⟨_, rfl⟩
  have en : (1 : Int) + (N : Int) = (M : Int) := by omega
  have hM1 : 1 ≤ M := by omega
  have hM64 : M ≤ 64 := by omega
  clear hM
  go_enter Try.func4, Try.ntmps4
  go_upto_region 2 with (first | (go_at_call 9; refine E1.out.mono ?_; rintro e w1 ⟨rfl, rfl⟩))
  go_upto_region 3 with (first | (go_at_call 10; with_reducible refine (new_yes M w hM1 hM64).mono ?_; rintro e w1 ⟨rfl, m1, B1⟩))
  have M1 := Lib.hid m1
  have HB1 := Lib.hid B1
  clear m1 B1
  go_upto_region 4 with (first | (go_at_call 17; with_reducible refine (rnew_yes M w1 hM1 hM64).mono ?_; rintro e w2 ⟨rfl, m2, B2⟩))
  have M2 := Lib.hid m2
  have HB2 := Lib.hid B2
  clear m2 B2
  obtain ⟨b, hb⟩ : ∃ b, w.heap.size + 1 = b := ⟨_, rfl⟩
  obtain ⟨c, hc'⟩ : ∃ c, w.heap.size = c := ⟨_, rfl⟩
  obtain ⟨rb, hb2⟩ : ∃ rb, w1.heap.size + 1 = rb := ⟨_, rfl⟩
  obtain ⟨c2, hc2⟩ : ∃ c2, w1.heap.size = c2 := ⟨_, rfl⟩
  rw [hb, hc'] at M1
  rw [hb2, hc2] at M2
  rw [hb, hb2]
  have HLT : Hid (w.heap.size ≤ b ∧ w.heap.size ≤ c ∧ b < w1.heap.size ∧ c < w1.heap.size ∧ w1.heap.size ≤ rb ∧ w1.heap.size ≤ c2 ∧ rb < w2.heap.size ∧ c2 < w2.heap.size) := Lib.hid ⟨by omega, by omega, M1.out.hb.lt, M1.out.hc.lt, by omega, by omega, M2.out.hb.lt, M2.out.hc.lt⟩
  have MM := Lib.hid (M1.out.frm (l := []) (.of_below HB2.out) (by simp) (by simp))
  have HB := Lib.hid (HB1.out.trans (HB2.out.mono HB1.out.size))
  clear hb hc' hb2 hc2 M1 E1 en HB1
  go_upto_if 40 with fail
  go_cut [1] (fun v wx => ∃ m, v = .slice a m cap ∧ m ≤ 10 ∧ m = (js0.take 10).length ∧ wx = w2)
  case first =>
    by_cases h : 10 < len
    · have d : decide ((len : Int) > 10) = true := decide_eq_true (by omega)
      have d' : decide (10 < (len : Int)) = true := decide_eq_true (by omega)
      have g1 : (10 : Int) ≤ (cap : Int) := by omega
      go_wp2_with fail
      go_meet
      exact ⟨10, rfl, by omega, by simp; omega, rfl⟩
    · have d : decide ((len : Int) > 10) = false := decide_eq_false (by omega)
      have d' : decide (10 < (len : Int)) = false := decide_eq_false (by omega)
      go_wp2_with fail
      go_meet
      exact ⟨len, rfl, by omega, by simp; omega, rfl⟩
  case rest =>
    obtain ⟨m, rfl, hm10, hm, rfl⟩ := hcut
    obtain ⟨js, hjs⟩ : ∃ js, js = js0.take 10 := ⟨_, rfl⟩
    have HJM : Hid (JobsAt wc (.slice a m cap) js) := Lib.hid (by rw [hjs]; exact (HJ.out.take 10 hm).below HB.out)
    have hjl : m = js.length := by rw [hjs]; exact hm
    clear hjs hm hlen HJ hcap hc
    subst hjl
    have hws : (MS.new M).ws.length = M := by simp [MS.new]
    have HWS := Lib.hid hws
    clear hws
    by_cases hgood : js.any (fun j => !j.ok M) = false ∧ js.length ≤ 8
    · obtain ⟨hn, h8⟩ := hgood
      go_wp2_with fail
      refine (run_yes MM.out HJM.out h8 (by rw [HWS.out]; exact hn)).mono ?_
      rintro e w3 ⟨r, f, o, cp, v, rfl, s3, hr3, hf3, b3⟩
      have S3 := Lib.hid s3
      have HB3 := Lib.hid b3
      have HRF := Lib.hid (And.intro hr3 hf3)
      clear s3 b3 hr3 hf3
      go_wp2_with fail
      refine (in_any (HJM.out.below HB3.out) (by omega)).mono ?_
      rintro e w4 ⟨vj, rfl, hw4, h04, b4⟩
      have HB4 := Lib.hid b4
      have HX := Lib.hid (rnew_any ((M2.out.frm (l := []) (.of_below HB3.out) (by simp) (by simp)).frm (l := []) (.of_below b4) (by simp) (by simp)) hw4 h04 (by omega))
      obtain ⟨aj, cj, rfl⟩ := hw4.value
      clear hw4 h04 b4
      go_wp2_with fail
      refine HX.out.mono ?_
      rintro e w5 ⟨b5, h5⟩
      rw [HWS.out, if_neg (by rw [hn]; simp), if_neg (by omega)] at h5
      obtain ⟨q, A, C, Lb, S, vJ, rfl, hd5, hge5, hJ5⟩ := h5
      have HT : Hid (∃ f' o' cp', Two w w5 r b c f' o' cp' v q rb c2 A C Lb S vJ js (js.map Jb.mch) (List.replicate js.length RS.zero) (MS.new M)) := Lib.hid (by
        obtain ⟨l1, l2, l3, l4, l5, l6, l7, l8⟩ := HLT.out
        obtain ⟨r1, r2⟩ := HRF.out
        have z0 := HB.out.size
        have z2 := HB2.out.size
        have z3 := HB3.out.size
        have z4 := HB4.out.size
        have z5 := b5.size
        have sr := S3.out.hr.lt
        have g1 := hge5 q (by simp)
        have g2 := hge5 A (by simp)
        have g3 := hge5 C (by simp)
        have g4 := hge5 Lb (by simp)
        have g5 := hge5 S (by simp)
        have key : ∀ k, (wc.heap.size ≤ k ∧ k < w4.heap.size) ∨ k < w1.heap.size → k ∉ [q, A, C, Lb, S, rb, c2] ∧ vJ.ownBlock ≠ some k := fun k hk => by
          refine ⟨fun hm => ?_, fun e => by have := hJ5 k e; omega⟩
          simp only [List.mem_cons, List.not_mem_nil, or_false] at hm
          omega
        have p5 := (S3.out.below HB4.out).below b5
        have bel5 : Below w.heap.size w w5 := HB.out.trans (((HB3.out.trans (HB4.out.mono z3)).trans (b5.mono (Nat.le_trans z3 z4))).mono z0)
        have rel5 := Rels.new (js := js) (n := M) hM64 hn
        have pos5 : 1 ≤ (MS.new M).ws.length := by rw [HWS.out]; exact hM1
        have cont : ∀ f' o' cp', Sys w5 r b c f' o' cp' v (js.map Jb.mch) (MS.new M) → (f' ∉ [q, A, C, Lb, S, rb, c2] ∧ vJ.ownBlock ≠ some f') → w.heap.size ≤ f' → Two w w5 r b c f' o' cp' v q rb c2 A C Lb S vJ js (js.map Jb.mch) (List.replicate js.length RS.zero) (MS.new M) := fun f' o' cp' hs hf hfb => by
          refine ⟨hs, hd5, rel5, bel5, fun k hk => ?_, fun k hk => ?_, pos5⟩
          · simp only [List.mem_cons, List.not_mem_nil, or_false] at hk
            rcases hk with rfl | rfl | rfl | rfl
            · exact key _ (.inl ⟨by omega, by omega⟩)
            · exact hf
            · exact key _ (.inr (by omega))
            · exact key _ (.inr (by omega))
          · simp only [List.mem_cons, List.not_mem_nil, or_false] at hk
            omega
        rcases p5.hv with hv | ⟨hv, hrow⟩
        · have q1 := p5.hm.hb.lt
          have q2 := p5.hm.hc.lt
          have q3 := p5.hr.lt
          have q4 := hd5.lts
          refine ⟨w5.heap.size + (vJ.ownBlock.getD 0) + 1, 0, 0, cont _ 0 0 ⟨p5.hr, p5.hm, .inl hv, p5.le, by omega, by omega, p5.rb, p5.rc, by omega⟩ ⟨fun hm => ?_, fun e => ?_⟩ (by omega)⟩
          · have := q4 _ hm
            omega
          · rw [e] at *
            simp at e
            omega
        · refine ⟨f, o, cp, cont f o cp p5 (key f (.inl ⟨by omega, ?_⟩)) (by omega)⟩
          rcases S3.out.hv with ⟨h1, h2⟩ | ⟨h1, h2⟩
          · rw [hv] at h2; cases h2
          · have := h2.1
            omega)
      clear hn hd5 hge5 hJ5 b5 HX M2 MM S3 HB2 HB3 HB4 HLT HRF HWS hM1 hM64 HJM HB hN0 hm10
      go_wp2_with fail
      go_loopw [14] (fun iv wr => ∃ i : Nat, i ≤ 200 ∧ i ≤ len2 ∧ iv = .int .i64 i ∧ Hid (∃ f' o' cp' L Y s, Two w wr r b c f' o' cp' v q rb c2 A C Lb S vJ js L Y s)) (fun iv _ => 200 - (intOf iv).toNat)
      case atStart =>
        obtain ⟨f', o', cp', h⟩ := HT.out
        exact ⟨0, by omega, by omega, rfl, f', o', cp', _, _, _, h⟩
      case round =>
        obtain ⟨i, hi200, hil, rfl, HI⟩ := hrel
        clear HT
        obtain ⟨f', o', cp', L, Y, s, hT⟩ := HI.out
        have HT := Lib.hid hT
        clear hT HI
        by_cases hlt : i < len2
        · by_cases hlt2 : i < 200
          · have k0 : (0 : Int) ≤ (i : Int) := by omega
            have k1 : (i : Int) < (len2 : Int) := by omega
            have k2 : (i : Int) < 200 := by omega
            obtain ⟨pb, off, rfl, hpb, hpc⟩ : ∃ pb off, a2 = some ⟨pb, off, none⟩ ∧ pb < w.heap.size ∧ (w.cell? ⟨pb, off + i, none⟩ = some (.int .i64 (fp i)) ∧ -9223372036854775808 ≤ fp i ∧ fp i ≤ 9223372036854775807) := by
              rcases HR.out with h | ⟨b', off, e, hb', hcell⟩
              · omega
              · exact ⟨b', off, e, hb', hcell i hlt⟩
            obtain ⟨z, hz⟩ : ∃ z, fp i = z := ⟨_, rfl⟩
            rw [hz] at hpc
            have HPC : Hid (∀ X, Below w.heap.size w X → X.cell? ⟨pb, off + i, none⟩ = some (.int .i64 z)) := Lib.hid (fun X hX => (hX.cell (p := ⟨pb, off + i, none⟩) hpb).trans hpc.1)
            have HZ := Lib.hid hpc.2
            clear hpc hpb hz
            have c0 := HPC.out wr HT.out.bel
            obtain ⟨pa, hpa⟩ : ∃ pa, (pickOf L z).1 = pa := ⟨_, rfl⟩
            obtain ⟨po, hpo⟩ : ∃ po, (pickOf L z).2 = po := ⟨_, rfl⟩
            have HX12 := Lib.hid (pick_any HT.out.p HZ.out.1 HZ.out.2)
            have HX20 : Hid (∀ X, Below wr.heap.size wr X → Calls Try.prog 20 #[.pointer (some ⟨q, 0, none⟩), .int .i64 z] X fun e w' => e = .returned (.tuple #[.int .i64 pa, .bool po]) ∧ Below X.heap.size X w') := Lib.hid (fun X hX => by
              rw [← hpa, ← hpo]
              exact rpick_any (HT.out.d.below hX) HT.out.rel.done HZ.out.1 HZ.out.2)
            rw [hpa, hpo] at HX12
            clear hpa hpo
            go_wp2_with fail
            refine HX12.out.mono ?_
            rintro e w6 ⟨rfl, b6⟩
            have HB6 := Lib.hid b6
            clear b6 c0
            have c0 := HPC.out w6 (HT.out.below HB6.out).bel
            go_wp2_with fail
            refine (HX20.out _ HB6.out).mono ?_
            rintro e w7 ⟨rfl, b7⟩
            have HT7 := Lib.hid ((HT.out.below HB6.out).below b7)
            clear b7 c0 HX12 HX20 HB6 HT
            have c0 := HPC.out w7 HT7.out.bel
            go_upto_if 107 with fail
            go_cut [15] (fun v wx => ∃ aa : Int, v = .int .i64 aa ∧ wx = w7)
            case first =>
              by_cases h : (i : Int) % 7 = 6
              · have d : ((i : Int) % 7 == 6) = true := by simpa using h
                go_wp2_with fail
                go_meet
                exact ⟨z, rfl, rfl⟩
              · have d : ((i : Int) % 7 == 6) = false := by simpa using h
                go_wp2_with fail
                go_meet
                exact ⟨pa, rfl, rfl⟩
            case rest =>
              obtain ⟨aa, rfl, rfl⟩ := hcut
              clear c0 HPC HZ
              obtain ⟨o1, o2, o3, o4⟩ := out_same HT7.out.rel (s := s) aa
              have HL := Lib.hid (outM_len L s aa)
              have HRS : Hid (∀ X, RSys X q rb c2 A C Lb S vJ js Y s → Calls Try.prog 21 #[.pointer (some ⟨q, 0, none⟩), .int .i64 aa] X fun e w' => e = .returned (.tuple #[.agg (outR js Y s aa).y.st.toArray, .int .i64 (outM L s aa).code]) ∧ RSys w' q rb c2 A C Lb S vJ js (outR js Y s aa).Y (outM L s aa).s ∧ Frm [A, C, Lb, S, rb, c2] X w') := Lib.hid (fun X hX => by
                rw [o1, o2]
                exact rstepA_any hX HT7.out.rel aa)
              have HPS := Lib.hid (pstep_any HT7.out.p aa)
              obtain ⟨x, hx⟩ : ∃ x, (outM L s aa).x = x := ⟨_, rfl⟩
              obtain ⟨y, hy⟩ : ∃ y, (outR js Y s aa).y = y := ⟨_, rfl⟩
              obtain ⟨cd, hcd⟩ : ∃ cd, (outM L s aa).code = cd := ⟨_, rfl⟩
              obtain ⟨L', hL'⟩ : ∃ L', (outM L s aa).L = L' := ⟨_, rfl⟩
              obtain ⟨s', hs'⟩ : ∃ s', (outM L s aa).s = s' := ⟨_, rfl⟩
              obtain ⟨Y', hY'⟩ : ∃ Y', (outR js Y s aa).Y = Y' := ⟨_, rfl⟩
              rw [hx, hcd, hL', hs'] at HPS
              rw [hy, hcd, hs', hY'] at HRS
              rw [hx, hy] at o3
              rw [hL', hY'] at o4
              rw [hs'] at HL
              have HSH := Lib.hid o3
              have HRL := Lib.hid o4
              clear o1 o2 o3 o4 hx hy hcd hL' hs' hY'
              go_wp2_with fail
              refine HPS.out.mono ?_
              rintro e w8 ⟨rfl, p8, f8⟩
              have P8 := Lib.hid p8
              have D8 := Lib.hid (HT7.out.prog f8)
              clear p8 f8 HPS
              unfold Mch.st
              go_upto_region 24 with fail
              have B9 : Below w8.heap.size w8 (w8.alloc (.cells #[.bool x.done, .int .i64 x.sa, .int .i64 x.sb, .int .i64 x.tries] 38)) := (Below.refl _ _).alloc (Nat.le_refl _) _
              have X9 : Hid (Holds (w8.alloc (.cells #[.bool x.done, .int .i64 x.sa, .int .i64 x.sb, .int .i64 x.tries] 38)) w8.heap.size #[.bool x.done, .int .i64 x.sa, .int .i64 x.sb, .int .i64 x.tries]) := Lib.hid (Holds.new _ _ _)
              have P9 := Lib.hid (P8.out.below B9)
              have D9 := Lib.hid (And.intro (D8.out.1.below B9) (D8.out.2.trans (B9.mono D8.out.2.size)))
              have LT8 := Lib.hid D8.out.1.lts
              generalize w8.alloc (.cells #[.bool x.done, .int .i64 x.sa, .int .i64 x.sb, .int .i64 x.tries] 38) = w9 at *
              obtain ⟨Bx, hBx⟩ : ∃ Bx, w8.heap.size = Bx := ⟨_, rfl⟩
              rw [hBx] at X9 LT8 ⊢
              have HBX := Lib.hid hBx
              clear hBx B9 P8 D8
              go_wp2_with fail
              refine (HRS.out _ D9.out.1).mono ?_
              rintro e w10 ⟨rfl, d10, f10⟩
              have T10 := Lib.hid (HT7.out.ref P9.out D9.out.2 f10 d10 HRL.out HL.out)
              have hnb : Bx ∉ [A, C, Lb, S, rb, c2] := fun hm => by have := LT8.out Bx (List.mem_cons_of_mem _ hm); omega
              have X10 := Lib.hid (X9.out.frm f10 hnb)
              clear d10 f10 hnb X9 P9 D9 LT8 HRS HT7
              unfold RS.st
              go_upto_region 25 with fail
              have B11 : Below w10.heap.size w10 (w10.alloc (.cells #[.bool y.done, .int .i64 y.a, .int .i64 y.b, .int .i64 y.tries] 53)) := (Below.refl _ _).alloc (Nat.le_refl _) _
              have Y11 : Hid (Holds (w10.alloc (.cells #[.bool y.done, .int .i64 y.a, .int .i64 y.b, .int .i64 y.tries] 53)) w10.heap.size #[.bool y.done, .int .i64 y.a, .int .i64 y.b, .int .i64 y.tries]) := Lib.hid (Holds.new _ _ _)
              have X11 := Lib.hid (X10.out.below B11)
              have T11 := Lib.hid (T10.out.below B11)
              generalize w10.alloc (.cells #[.bool y.done, .int .i64 y.a, .int .i64 y.b, .int .i64 y.tries] 53) = W at *
              obtain ⟨By, hBy⟩ : ∃ By, w10.heap.size = By := ⟨_, rfl⟩
              rw [hBy] at Y11 ⊢
              clear hBy B11 X10 T10
              have HF : Hid (∀ X, Below W.heap.size W X → X.cell? ⟨Bx, 0, none⟩ = some (.bool x.done) ∧ X.cell? ⟨Bx, 1, none⟩ = some (.int .i64 x.sa) ∧ X.cell? ⟨Bx, 2, none⟩ = some (.int .i64 x.sb) ∧ X.cell? ⟨Bx, 3, none⟩ = some (.int .i64 x.tries) ∧ X.cell? ⟨By, 0, none⟩ = some (.bool y.done) ∧ X.cell? ⟨By, 1, none⟩ = some (.int .i64 y.a) ∧ X.cell? ⟨By, 2, none⟩ = some (.int .i64 y.b) ∧ X.cell? ⟨By, 3, none⟩ = some (.int .i64 y.tries) ∧ X.cell? ⟨rb, 1, none⟩ = some (.int .i64 s'.st) ∧ X.cell? ⟨rb, 0, none⟩ = some (.slice (some ⟨c2, 0, none⟩) s'.ws.length s'.ws.length)) := Lib.hid (fun X hX =>
                have hx := X11.out.below hX
                have hy := Y11.out.below hX
                have hr := (T11.out.below hX).d.hm.hb
                ⟨hx.cell 0, hx.cell 1, hx.cell 2, hx.cell 3, hy.cell 0, hy.cell 1, hy.cell 2, hy.cell 3, hr.cell 1, hr.cell 0⟩)
              have HX22 : Hid (∀ X, Calls Try.prog 22 #[.agg #[.bool x.done, .int .i64 x.sa, .int .i64 x.sb, .int .i64 x.tries], .agg #[.bool y.done, .int .i64 y.a, .int .i64 y.b, .int .i64 y.tries]] X fun e w' => e = .returned (.bool true) ∧ Below X.heap.size X w') := Lib.hid (fun X => same4_any X HSH.out)
              have HX23 : Hid (∀ X, Below W.heap.size W X → Calls Try.prog 23 #[.pointer (some ⟨b, 0, none⟩)] X fun e w' => e = .returned (.int .i64 s'.st) ∧ X = w') := Lib.hid (fun X hX => steps_any b c s' X (T11.out.below hX).p.hm)
              have HX13 : Hid (∀ X, Below W.heap.size W X → Calls Try.prog 13 #[.pointer (some ⟨b, 0, none⟩)] X fun e w' => ∃ g, e = .returned (.slice (some ⟨g, 0, none⟩) s'.ws.length s'.ws.length) ∧ Below X.heap.size X w' ∧ Hid (∀ X', Below w'.heap.size w' X' → Calls Try.prog 24 #[.slice (some ⟨g, 0, none⟩) s'.ws.length s'.ws.length, .slice (some ⟨c2, 0, none⟩) s'.ws.length s'.ws.length] X' fun e w'' => e = .returned (.bool true) ∧ Below X'.heap.size X' w'')) := Lib.hid (fun X hX => by
                refine (words_any b c s' X (T11.out.below hX).p.hm T11.out.pos).mono ?_
                rintro e w' ⟨g, rfl, ⟨hg1, cs, hg2, hg3⟩, hb⟩
                refine ⟨g, rfl, hb, Lib.hid (fun X' hX' => ?_)⟩
                have hm2 := (((T11.out.below hX).below hb).below hX').d.hm
                refine same_any g c2 s'.ws.length _ _ (fun j => s'.ws.getD j 0) X' (by have := hm2.le; omega) (fun j hj => ?_) (fun j hj => ?_)
                · rw [(hg2.below hX').cell j]
                  exact hg3 j hj
                · rw [hm2.hc.cell j]
                  exact ints_get _ _ hj)
              obtain ⟨u0, u1, u2, u3, u4, u5, u7, u8, u9, u10⟩ := HF.out W (Below.refl _ _)
              clear X11 Y11 HSH
              go_region_held3 (fun w' => w'.cell? ⟨Bx, 0, none⟩ = some (.bool x.done) ∧ w'.cell? ⟨Bx, 1, none⟩ = some (.int .i64 x.sa) ∧ w'.cell? ⟨Bx, 2, none⟩ = some (.int .i64 x.sb) ∧ w'.cell? ⟨Bx, 3, none⟩ = some (.int .i64 x.tries) ∧ w'.cell? ⟨By, 0, none⟩ = some (.bool y.done) ∧ w'.cell? ⟨By, 1, none⟩ = some (.int .i64 y.a) ∧ w'.cell? ⟨By, 2, none⟩ = some (.int .i64 y.b) ∧ w'.cell? ⟨By, 3, none⟩ = some (.int .i64 y.tries) ∧ w'.cell? ⟨rb, 1, none⟩ = some (.int .i64 s'.st) ∧ w'.cell? ⟨rb, 0, none⟩ = some (.slice (some ⟨c2, 0, none⟩) s'.ws.length s'.ws.length)) (first | with_reducible exact ⟨u0, u1, u2, u3, u4, u5, u7, u8, u9, u10⟩ | with_reducible exact ⟨cell_drew u0, cell_drew u1, cell_drew u2, cell_drew u3, cell_drew u4, cell_drew u5, cell_drew u7, cell_drew u8, cell_drew u9, cell_drew u10⟩ | with_reducible exact ⟨p0, p1, p2, p3, p4, p5, p7, p8, p9, p10⟩ | with_reducible exact ⟨r0, r1, r2, r3, r4, r5, r7, r8, r9, r10⟩ | with_reducible exact ⟨t0, t1, t2, t3, t4, t5, t7, t8, t9, t10⟩) (first | (go_at_call 22; refine (HX22.out _).mono ?_; rintro e1 v1 ⟨rfl, b1⟩; have V1 : Hid (Below W.heap.size W v1) := Lib.hid ((Below.refl _ _).drew.trans b1); obtain ⟨p0, p1, p2, p3, p4, p5, p7, p8, p9, p10⟩ := HF.out v1 V1.out; clear b1) | (go_at_call 23; refine (HX23.out _ V1.out).mono ?_; rintro e2 v2 ⟨rfl, rfl⟩) | (go_at_call 13; refine (HX13.out _ V1.out).mono ?_; rintro e3 v3 ⟨g, rfl, b3, HX24⟩; have V3 : Hid (Below W.heap.size W v3) := Lib.hid (V1.out.trans (b3.mono V1.out.size)); obtain ⟨r0, r1, r2, r3, r4, r5, r7, r8, r9, r10⟩ := HF.out v3 V3.out; clear b3) | (go_at_call 24; refine (HX24.out _ (Below.refl _ _)).mono ?_; rintro e4 v4 ⟨rfl, b4⟩; have V4 : Hid (Below W.heap.size W v4) := Lib.hid (V3.out.trans (b4.mono V3.out.size)); obtain ⟨t0, t1, t2, t3, t4, t5, t7, t8, t9, t10⟩ := HF.out v4 V4.out; clear b4))
              all_goals
                go_wp2_with fail
                go_roundw
                case rel => exact ⟨i + 1, by omega, by omega, by go_num, f', o', cp', _, _, _, T11.out.below V4.out⟩
                case measure => simp [intOf]; omega
          · obtain rfl : i = 200 := by omega
            have k1 : ((200 : Nat) : Int) < (len2 : Int) := by omega
            go_wp2_with fail
            refine (all_any HT.out.p).mono ?_
            rintro e w6 ⟨v6, rfl, hw6, b6⟩
            have HT6 := Lib.hid (HT.out.below b6)
            have HW6 := Lib.hid hw6
            obtain ⟨a6, c6, rfl⟩ := hw6.value
            clear hw6 b6 HT
            go_wp2_with fail
            refine (rall_any HT6.out.d HT6.out.rel.l1.symm HT6.out.rel.shown).mono ?_
            rintro e w7 ⟨v7, rfl, hw7, b7⟩
            have HT7 := Lib.hid (HT6.out.below b7)
            have HW7 := Lib.hid hw7
            have HW6 := Lib.hid (HW6.out.below b7)
            obtain ⟨a7, c7, rfl⟩ := hw7.value
            have hL8 := HT7.out.p.le
            clear hw7 b7 HT6
            go_wp2_with fail
            go_loopw [25] (fun kv wr => ∃ k : Nat, k ≤ L.length ∧ kv = .int .i64 k ∧ Hid (Below w7.heap.size w7 wr)) (fun kv _ => L.length - (intOf kv).toNat)
            case atStart => exact ⟨0, by omega, rfl, Below.refl _ _⟩
            case round =>
              obtain ⟨k, hk, rfl, HB⟩ := hrel
              by_cases hkl : k < L.length
              · have m0 : (0 : Int) ≤ (k : Int) := by omega
                have m1 : (k : Int) < (L.length : Int) := by omega
                obtain ⟨f6, o6, cp6, e6⟩ := HW6.out.form (by omega)
                cases e6
                obtain ⟨f7, o7, cp7, e7⟩ := HW7.out.form (by omega)
                cases e7
                obtain ⟨x, hx⟩ : ∃ x, L[k]? = some x := ⟨_, List.getElem?_eq_getElem hkl⟩
                have HSH : Hid (∀ X, Calls Try.prog 22 #[.agg #[.bool x.done, .int .i64 x.sa, .int .i64 x.sb, .int .i64 x.tries], .agg #[.bool x.done, .int .i64 x.sa, .int .i64 x.sb, .int .i64 x.tries]] X fun e w' => e = .returned (.bool true) ∧ Below X.heap.size X w') := Lib.hid (fun X => by
                  obtain ⟨y, hy⟩ : ∃ y, Y[k]? = some y := ⟨_, List.getElem?_eq_getElem (by rw [HT7.out.rel.l2, ← HT7.out.rel.l1]; exact hkl)⟩
                  exact same4_any (y := ⟨0, 0, 0, x.done, x.sa, x.sb, x.tries⟩) X (shown_again (HT7.out.rel.shown k x y hx hy)))
                have HF : Hid (∀ X, Below wr.heap.size wr X → (X).cell? ⟨f6, o6 + k * 4, none⟩ = some (.bool x.done) ∧ (X).cell? ⟨f6, o6 + k * 4 + 1, none⟩ = some (.int .i64 x.sa) ∧ (X).cell? ⟨f6, o6 + k * 4 + 2, none⟩ = some (.int .i64 x.sb) ∧ (X).cell? ⟨f6, o6 + k * 4 + 3, none⟩ = some (.int .i64 x.tries) ∧ (X).cell? ⟨f7, o7 + k * 4, none⟩ = some (.bool x.done) ∧ (X).cell? ⟨f7, o7 + k * 4 + 1, none⟩ = some (.int .i64 x.sa) ∧ (X).cell? ⟨f7, o7 + k * 4 + 2, none⟩ = some (.int .i64 x.sb) ∧ (X).cell? ⟨f7, o7 + k * 4 + 3, none⟩ = some (.int .i64 x.tries)) := Lib.hid (fun X hX => by
                  have q6 := (HW6.out.below HB.out).below hX
                  have q7 := (HW7.out.below HB.out).below hX
                  have g : ∀ j v, x.st[j]? = some v → (states L)[k * 4 + j]? = some v := states_at L k x hx
                  refine ⟨?_, ?_, ?_, ?_, ?_, ?_, ?_, ?_⟩
                  · have := (q6.cells (k * 4 + 0) (by omega)).trans (g 0 _ rfl); exact this
                  · have := (q6.cells (k * 4 + 1) (by omega)).trans (g 1 _ rfl); rwa [← Nat.add_assoc] at this
                  · have := (q6.cells (k * 4 + 2) (by omega)).trans (g 2 _ rfl); rwa [← Nat.add_assoc] at this
                  · have := (q6.cells (k * 4 + 3) (by omega)).trans (g 3 _ rfl); rwa [← Nat.add_assoc] at this
                  · have := (q7.cells (k * 4 + 0) (by omega)).trans (g 0 _ rfl); exact this
                  · have := (q7.cells (k * 4 + 1) (by omega)).trans (g 1 _ rfl); rwa [← Nat.add_assoc] at this
                  · have := (q7.cells (k * 4 + 2) (by omega)).trans (g 2 _ rfl); rwa [← Nat.add_assoc] at this
                  · have := (q7.cells (k * 4 + 3) (by omega)).trans (g 3 _ rfl); rwa [← Nat.add_assoc] at this)
                obtain ⟨u0, u1, u2, u3, u4, u5, u7, u8⟩ := HF.out wr (Below.refl _ _)
                clear hx
                go_upto_region 32 with fail
                go_region_held3 (fun w' => w'.cell? ⟨f6, o6 + k * 4, none⟩ = some (.bool x.done) ∧ w'.cell? ⟨f6, o6 + k * 4 + 1, none⟩ = some (.int .i64 x.sa) ∧ w'.cell? ⟨f6, o6 + k * 4 + 2, none⟩ = some (.int .i64 x.sb) ∧ w'.cell? ⟨f6, o6 + k * 4 + 3, none⟩ = some (.int .i64 x.tries) ∧ w'.cell? ⟨f7, o7 + k * 4, none⟩ = some (.bool x.done) ∧ w'.cell? ⟨f7, o7 + k * 4 + 1, none⟩ = some (.int .i64 x.sa) ∧ w'.cell? ⟨f7, o7 + k * 4 + 2, none⟩ = some (.int .i64 x.sb) ∧ w'.cell? ⟨f7, o7 + k * 4 + 3, none⟩ = some (.int .i64 x.tries)) (first | with_reducible exact ⟨u0, u1, u2, u3, u4, u5, u7, u8⟩ | with_reducible exact ⟨cell_drew u0, cell_drew u1, cell_drew u2, cell_drew u3, cell_drew u4, cell_drew u5, cell_drew u7, cell_drew u8⟩ | with_reducible exact ⟨p0, p1, p2, p3, p4, p5, p7, p8⟩) (first | (go_at_call 22; refine (HSH.out _).mono ?_; rintro e1 v1 ⟨rfl, b1⟩; have V1 : Hid (Below wr.heap.size wr v1) := Lib.hid ((Below.refl _ _).drew.trans b1); obtain ⟨p0, p1, p2, p3, p4, p5, p7, p8⟩ := HF.out v1 V1.out; clear b1))
                all_goals
                  go_wp2_with fail
                  go_roundw
                  case rel => exact ⟨k + 1, by omega, by go_num, HB.out.trans (V1.out.mono HB.out.size)⟩
                  case measure => simp [intOf]; omega
              · obtain rfl : k = L.length := by omega
                have hn' : ¬ (L.length : Int) < (L.length : Int) := by omega
                have HBE := Lib.hid (HT7.out.bel.trans (HB.out.mono HT7.out.bel.size))
                go_wp2_with (first | (go_at_call 16; refine (known_any _).mono ?_; rintro e w8 ⟨rfl, b8⟩; have HB8 := Lib.hid (HBE.out.trans (b8.mono HBE.out.size)); clear b8))
                go_ret
                exact ⟨rfl, HB8.out⟩
        · have k1 : ¬ (i : Int) < (len2 : Int) := by omega
          go_wp2_with fail
          refine (all_any HT.out.p).mono ?_
          rintro e w6 ⟨v6, rfl, hw6, b6⟩
          have HT6 := Lib.hid (HT.out.below b6)
          have HW6 := Lib.hid hw6
          obtain ⟨a6, c6, rfl⟩ := hw6.value
          clear hw6 b6 HT
          go_wp2_with fail
          refine (rall_any HT6.out.d HT6.out.rel.l1.symm HT6.out.rel.shown).mono ?_
          rintro e w7 ⟨v7, rfl, hw7, b7⟩
          have HT7 := Lib.hid (HT6.out.below b7)
          have HW7 := Lib.hid hw7
          have HW6 := Lib.hid (HW6.out.below b7)
          obtain ⟨a7, c7, rfl⟩ := hw7.value
          have hL8 := HT7.out.p.le
          clear hw7 b7 HT6
          go_wp2_with fail
          go_loopw [25] (fun kv wr => ∃ k : Nat, k ≤ L.length ∧ kv = .int .i64 k ∧ Hid (Below w7.heap.size w7 wr)) (fun kv _ => L.length - (intOf kv).toNat)
          case atStart => exact ⟨0, by omega, rfl, Below.refl _ _⟩
          case round =>
            obtain ⟨k, hk, rfl, HB⟩ := hrel
            by_cases hkl : k < L.length
            · have m0 : (0 : Int) ≤ (k : Int) := by omega
              have m1 : (k : Int) < (L.length : Int) := by omega
              obtain ⟨f6, o6, cp6, e6⟩ := HW6.out.form (by omega)
              cases e6
              obtain ⟨f7, o7, cp7, e7⟩ := HW7.out.form (by omega)
              cases e7
              obtain ⟨x, hx⟩ : ∃ x, L[k]? = some x := ⟨_, List.getElem?_eq_getElem hkl⟩
              have HSH : Hid (∀ X, Calls Try.prog 22 #[.agg #[.bool x.done, .int .i64 x.sa, .int .i64 x.sb, .int .i64 x.tries], .agg #[.bool x.done, .int .i64 x.sa, .int .i64 x.sb, .int .i64 x.tries]] X fun e w' => e = .returned (.bool true) ∧ Below X.heap.size X w') := Lib.hid (fun X => by
                obtain ⟨y, hy⟩ : ∃ y, Y[k]? = some y := ⟨_, List.getElem?_eq_getElem (by rw [HT7.out.rel.l2, ← HT7.out.rel.l1]; exact hkl)⟩
                exact same4_any (y := ⟨0, 0, 0, x.done, x.sa, x.sb, x.tries⟩) X (shown_again (HT7.out.rel.shown k x y hx hy)))
              have HF : Hid (∀ X, Below wr.heap.size wr X → (X).cell? ⟨f6, o6 + k * 4, none⟩ = some (.bool x.done) ∧ (X).cell? ⟨f6, o6 + k * 4 + 1, none⟩ = some (.int .i64 x.sa) ∧ (X).cell? ⟨f6, o6 + k * 4 + 2, none⟩ = some (.int .i64 x.sb) ∧ (X).cell? ⟨f6, o6 + k * 4 + 3, none⟩ = some (.int .i64 x.tries) ∧ (X).cell? ⟨f7, o7 + k * 4, none⟩ = some (.bool x.done) ∧ (X).cell? ⟨f7, o7 + k * 4 + 1, none⟩ = some (.int .i64 x.sa) ∧ (X).cell? ⟨f7, o7 + k * 4 + 2, none⟩ = some (.int .i64 x.sb) ∧ (X).cell? ⟨f7, o7 + k * 4 + 3, none⟩ = some (.int .i64 x.tries)) := Lib.hid (fun X hX => by
                have q6 := (HW6.out.below HB.out).below hX
                have q7 := (HW7.out.below HB.out).below hX
                have g : ∀ j v, x.st[j]? = some v → (states L)[k * 4 + j]? = some v := states_at L k x hx
                refine ⟨?_, ?_, ?_, ?_, ?_, ?_, ?_, ?_⟩
                · have := (q6.cells (k * 4 + 0) (by omega)).trans (g 0 _ rfl); exact this
                · have := (q6.cells (k * 4 + 1) (by omega)).trans (g 1 _ rfl); rwa [← Nat.add_assoc] at this
                · have := (q6.cells (k * 4 + 2) (by omega)).trans (g 2 _ rfl); rwa [← Nat.add_assoc] at this
                · have := (q6.cells (k * 4 + 3) (by omega)).trans (g 3 _ rfl); rwa [← Nat.add_assoc] at this
                · have := (q7.cells (k * 4 + 0) (by omega)).trans (g 0 _ rfl); exact this
                · have := (q7.cells (k * 4 + 1) (by omega)).trans (g 1 _ rfl); rwa [← Nat.add_assoc] at this
                · have := (q7.cells (k * 4 + 2) (by omega)).trans (g 2 _ rfl); rwa [← Nat.add_assoc] at this
                · have := (q7.cells (k * 4 + 3) (by omega)).trans (g 3 _ rfl); rwa [← Nat.add_assoc] at this)
              obtain ⟨u0, u1, u2, u3, u4, u5, u7, u8⟩ := HF.out wr (Below.refl _ _)
              clear hx
              go_upto_region 32 with fail
              go_region_held3 (fun w' => w'.cell? ⟨f6, o6 + k * 4, none⟩ = some (.bool x.done) ∧ w'.cell? ⟨f6, o6 + k * 4 + 1, none⟩ = some (.int .i64 x.sa) ∧ w'.cell? ⟨f6, o6 + k * 4 + 2, none⟩ = some (.int .i64 x.sb) ∧ w'.cell? ⟨f6, o6 + k * 4 + 3, none⟩ = some (.int .i64 x.tries) ∧ w'.cell? ⟨f7, o7 + k * 4, none⟩ = some (.bool x.done) ∧ w'.cell? ⟨f7, o7 + k * 4 + 1, none⟩ = some (.int .i64 x.sa) ∧ w'.cell? ⟨f7, o7 + k * 4 + 2, none⟩ = some (.int .i64 x.sb) ∧ w'.cell? ⟨f7, o7 + k * 4 + 3, none⟩ = some (.int .i64 x.tries)) (first | with_reducible exact ⟨u0, u1, u2, u3, u4, u5, u7, u8⟩ | with_reducible exact ⟨cell_drew u0, cell_drew u1, cell_drew u2, cell_drew u3, cell_drew u4, cell_drew u5, cell_drew u7, cell_drew u8⟩ | with_reducible exact ⟨p0, p1, p2, p3, p4, p5, p7, p8⟩) (first | (go_at_call 22; refine (HSH.out _).mono ?_; rintro e1 v1 ⟨rfl, b1⟩; have V1 : Hid (Below wr.heap.size wr v1) := Lib.hid ((Below.refl _ _).drew.trans b1); obtain ⟨p0, p1, p2, p3, p4, p5, p7, p8⟩ := HF.out v1 V1.out; clear b1))
              all_goals
                go_wp2_with fail
                go_roundw
                case rel => exact ⟨k + 1, by omega, by go_num, HB.out.trans (V1.out.mono HB.out.size)⟩
                case measure => simp [intOf]; omega
            · obtain rfl : k = L.length := by omega
              have hn' : ¬ (L.length : Int) < (L.length : Int) := by omega
              have HBE := Lib.hid (HT7.out.bel.trans (HB.out.mono HT7.out.bel.size))
              go_wp2_with (first | (go_at_call 16; refine (known_any _).mono ?_; rintro e w8 ⟨rfl, b8⟩; have HB8 := Lib.hid (HBE.out.trans (b8.mono HBE.out.size)); clear b8))
              go_ret
              exact ⟨rfl, HB8.out⟩
    · obtain ⟨K, hK, hK1, hX11, hX18⟩ : ∃ K : Int, (K = 1 ∨ K = 4) ∧ (K == 0) = false ∧ Hid (Calls Try.prog 11 #[.pointer (some ⟨b, 0, none⟩), .slice a js.length cap] wc fun e w' => e = .returned (.tuple #[.pointer none, .int .i64 K]) ∧ Below wc.heap.size wc w') ∧ Hid (∀ (b0 : Nat) (X : World) (v : Value), IsMem X rb c2 (MS.new M) → Win X b0 88 5 v js.length (jcells js) → (js = [] → v = .slice none 0 0) → Calls Try.prog 18 #[.pointer (some ⟨rb, 0, none⟩), v] X fun e w' => e = .returned (.tuple #[.pointer none, .int .i64 K]) ∧ Below X.heap.size X w') := by
        by_cases hb : js.any (fun j => !j.ok M) = true
        · refine ⟨1, .inl rfl, rfl, Lib.hid (run_arg MM.out HJM.out (by omega) (by rw [HWS.out]; exact hb)), Lib.hid (fun b0 X v hm hw h0 => ?_)⟩
          refine (rnew_any hm hw h0 (by omega)).mono fun e w' h => ?_
          obtain ⟨h1, h2⟩ := h
          rw [HWS.out, if_pos hb] at h2
          exact ⟨h2, h1⟩
        · have hb' : js.any (fun j => !j.ok M) = false := by simpa using hb
          have h8 : 8 < js.length := by
            rcases Nat.lt_or_ge 8 js.length with h | h
            · exact h
            · exact absurd ⟨hb', h⟩ hgood
          refine ⟨4, .inr rfl, rfl, Lib.hid (run_many MM.out HJM.out (by omega) (by rw [HWS.out]; exact hb') h8), Lib.hid (fun b0 X v hm hw h0 => ?_)⟩
          refine (rnew_any hm hw h0 (by omega)).mono fun e w' h => ?_
          obtain ⟨h1, h2⟩ := h
          rw [HWS.out, if_neg hb, if_pos h8] at h2
          exact ⟨h2, h1⟩
      clear hgood hK
      go_wp2_with fail
      refine hX11.out.mono ?_
      rintro e w3 ⟨rfl, b3⟩
      have HB3 := Lib.hid b3
      clear b3
      go_wp2_with fail
      refine (in_any (HJM.out.below HB3.out) (by omega)).mono ?_
      rintro e w4 ⟨vj, rfl, hw4, h04, b4⟩
      have HB4 := Lib.hid (HB3.out.trans (b4.mono HB3.out.size))
      have HX := Lib.hid (hX18.out _ w4 vj (M2.out.frm (l := []) (.of_below HB4.out) (by simp) (by simp)) hw4 h04)
      obtain ⟨aj, cj, rfl⟩ := hw4.value
      clear hw4 h04 b4
      go_wp2_with fail
      refine HX.out.mono ?_
      rintro e w5 ⟨rfl, b5⟩
      have HB5 := Lib.hid (HB4.out.trans (b5.mono HB4.out.size))
      clear b5
      go_wp2_with (first | (go_at_call 16; refine (known_any _).mono ?_; rintro e w6 ⟨rfl, b6⟩; have HB6 := Lib.hid (HB5.out.trans (b6.mono HB5.out.size)); clear b6))
      go_ret
      exact ⟨rfl, HB.out.trans (HB6.out.mono HB.out.size)⟩
end Go.Proofs.Ytmhmgenchpemkaa
