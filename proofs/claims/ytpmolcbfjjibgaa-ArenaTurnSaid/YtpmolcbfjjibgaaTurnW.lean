/- The walk of ArenaTurn, stepped through. -/
import Derived.Test.YtpmolcbfjjibgaaTurn
import Derived.Deep.RegionLaw
import Derived.Deep.DeepMust
namespace Go.Proofs.Ytpmolcbfjjibgaa
open Go.RowKit

theorem cells2_new (w : World) (x y : Value) (t : TypeId) : ∀ j u, [x, y][j]? = some u → (w.alloc (.cells #[x, y] t)).cell? ((⟨w.heap.size, 0, none⟩ : Addr).add j) = some u := by
  intro j u hj
  match j, hj with
  | 0, hj => simp at hj; subst hj; simp [Addr.add]
  | 1, hj => simp at hj; subst hj; simp [Addr.add]

theorem bel1 (w : World) (o : Obj) : Below w.heap.size w (w.alloc o) := (Below.refl _ _).alloc (Nat.le_refl _) _
theorem bel2 (w : World) (o : Obj) : Below w.heap.size w (w.alloc o).drew := ((Below.refl _ _).alloc (Nat.le_refl _) _).drew
theorem bel3 (w : World) (o : Obj) : Below w.heap.size w (w.drew.alloc o) := ((Below.refl _ _).drew).alloc (Nat.le_refl _) _
theorem bel4 (w : World) (o : Obj) : Below w.heap.size w (w.drew.alloc o).drew := (((Below.refl _ _).drew).alloc (Nat.le_refl _) _).drew
theorem add_off (f o j : Nat) : (⟨f, o, none⟩ : Addr).add j = ⟨f, o + j, none⟩ := by unfold Addr.add; split <;> simp_all
theorem win_empty (w : World) : Win (w.alloc (.cells #[] 30)) w.heap.size 30 2 (.slice (some ⟨w.heap.size, 0, none⟩) 0 0) 0 [] :=
  ⟨by simp, .inr ⟨w.heap.size, 0, 0, #[], rfl, Nat.le_refl _, (by show (w.heap.push _)[w.heap.size]? = _; simp), by omega, by omega, by simp, fun j hj => by omega⟩⟩
theorem grown_below {B : Nat} {a W w5 : World} {row : Option Nat} (hb : Below B a W) (hg : W.grownBy w5 row) (hrow : ∀ k, row = some k → B ≤ k) (hB : B ≤ W.heap.size) : Below B a w5 :=
  hb.trans ⟨hg.os, hg.tape, hg.output, hg.size, fun k hk => hg.block k (by omega) (fun e => by have := hrow k e.symm; omega)⟩
theorem win_erase {w6 : World} {B j : Nat} {v : Value} {live : List Nat} (hj : j < live.length) (h : Win w6 B 30 2 v ((0 + j) + (live.length - (j + 1))) (([] ++ prs (hs (live.take j))) ++ prs (hs (live.drop (j + 1))))) :
    Win w6 B 30 2 v (hs (live.eraseIdx j)).length (prs (hs (live.eraseIdx j))) := by
  have e1 : 0 + j + (live.length - (j + 1)) = (hs (live.eraseIdx j)).length := by rw [hs_length, List.length_eraseIdx_of_lt hj]; omega
  have e2 : ([] ++ prs (hs (live.take j))) ++ prs (hs (live.drop (j + 1))) = prs (hs (live.eraseIdx j)) := by
    rw [List.eraseIdx_eq_take_drop_succ, List.nil_append, ← prs_append]; simp [hs]
  rw [e1, e2] at h
  exact h
section
variable {P : Program} (w : World) {ops : Array Oper} {o : Oper} {a : Act} {K : Act → World → Prop} {Q : Exit → Act → World → Prop} {E : Prop}
/-- append of any number of elements, as one step of a region that draws its order; the new value unknown. -/
theorem step_append_any (hgd : o.guard = none) (s x : Operand) (t : TypeId) (ho : o.op = .call { callee := .builtin .append, args := #[s, x], argTypes := #[t, t] })
    (base : Nat) (e : TypeId) (i : TypeInfo) (z : Value) (size bytes : Nat) (ht : P.underlying t = some (.slice e)) (hi : P.info? e = some i) (hz : i.zero = some z) (hsize : i.size = size) (hby : i.bytes = bytes) (hzs : z.cells.size = size) (hsz : 0 < size)
    (v : Value) (n : Nat) (xs : List Value) (hs : a.eval s = v) (hown : Win w base e size v n xs)
    (ad : Addr) (m c : Nat) (news : List Value) (hx : a.eval x = .slice (some ad) m c) (hl : news.length = m * size) (hnews : ∀ j u, news[j]? = some u → w.cell? (ad.add j) = some u) (h1 : ∀ u ∈ news, u.oneCell' = true)
    (h63 : n + m ≤ maxLen) (hbytes : (n + m) * bytes ≤ 140737488355328) (hbase : base ≤ w.heap.size)
    (h : ∀ v' w', Win w' base e size v' (n + m) (xs ++ news) → w.grownBy w' v.ownBlock → K (a.put o.dst v') w') :
    if Region.wanted o (yielded ops a.tmps) = true then Oper.wp P o a w K Q else E := by
  have hw : Region.wanted o (yielded ops a.tmps) = true := by simp [Region.wanted, hgd]
  rw [if_pos hw]
  obtain ⟨v', w', hr, h2, h3, _⟩ := run_append_win (P := P) w base t o.type e i z size bytes ht hi hz hsize hby hzs hsz v n xs hown ad m c news hl hnews h1 h63 hbytes hbase
  unfold Oper.wp execOp
  simp only [ho, resolve, invoke, builtin, Sem.run_bind, Sem.run_pure, Result.andThen_ok, List.map_toArray, List.map_cons, List.map_nil, hs, hx, hr]
  exact h v' w' h2 h3
end
theorem inv_free_is {w wr : World} {b n : Nat} {lv fv : Value} {ls rs : List (Int × Int)} {l : List Nat} {s : AS} {live freed : List Nat} (h : Inv (T2 n live freed) w wr b lv ls fv rs l s) (hn : n ≤ 64) (j : Nat) (hj : j < live.length) (x : Nat) (hx : live.getD j 0 = x) :
    Calls Try.prog 11 #[.pointer (some ⟨b, 0, none⟩), .agg #[.int .i64 (x : Int), .int .i64 1]] wr fun e w' => e = .returned (.int .i64 0) ∧ ∃ l' s', Inv (T2 n (live.eraseIdx j) (freed ++ [x])) w w' b lv ls fv rs l' s' := by
  subst hx
  exact inv_free h hn j hj
set_option maxRecDepth 100000 in
set_option maxHeartbeats 4000000 in
theorem turn_any (n : Int) (a : Option Addr) (len cap : Nat) (f : Nat → Int) (w : World) (hr : RowAt w a len f) (hm : len ≤ 9223372036854775807) :
    Calls Try.prog 3 #[.int .i64 n, .slice a len cap] w fun e w' => e = .returned (.bool true) ∧ Below w.heap.size w w' := by
  obtain ⟨i30, hi, hz0, hz1, hz2⟩ := info_parts info30
  go_enter Try.func3, Try.ntmps3
  go_wp2_with fail
  refine (within_any n 0 10 w (by omega) (by omega) (by omega)).mono ?_
  rintro e w0 ⟨rfl, rfl⟩
  obtain ⟨N, hN, hle⟩ : ∃ N : Nat, 0 + n % (10 - 0 + 1) = (N : Int) ∧ N ≤ 10 := ⟨(n % 11).toNat, by omega, by omega⟩
  rw [hN]
  clear hN
  go_wp2_with fail
  obtain ⟨M, hM, hM1, hM2⟩ : ∃ M : Nat, 2 + (N : Int) = (M : Int) ∧ 2 ≤ M ∧ M ≤ 12 := ⟨N + 2, by omega, by omega, by omega⟩
  rw [hM]
  clear hM hle
  refine (inv_new M w (by omega) (by omega)).mono ?_
  rintro e w1 ⟨rfl, l, s0, i0⟩
  have I0 := Lib.hid i0
  clear i0
  go_wp2_with fail
  go_loopw [7, 8] (fun lv iv wr => ∃ k : Nat, k ≤ M ∧ iv = .int .i64 k ∧ Hid (∃ s, Inv (T1 M k) w wr (w.heap.size + 1) lv (hs (List.range k)) (.slice none 0 0) [] l s)) (fun _ iv _ => M - (intOf iv).toNat)
  case atStart => exact ⟨0, by omega, rfl, ⟨s0, I0.out⟩⟩
  case round =>
    obtain ⟨k, hk, rfl, ⟨s, hS⟩⟩ := hrel
    have HS := Lib.hid hS
    clear hS I0
    by_cases hlt : k < M
    · go_wp2_with (first | (go_at_call 10; refine (inv_take1 HS.out hlt _).mono ?_; rintro e w3 ⟨rfl, s3, i3⟩; have I3 := Lib.hid i3; clear i3) | (at_builtin; go_must (refine wpList_append_win _ rfl (.tmp 57) (.tmp 59) 28 rfl w.heap.size 30 i30 _ 2 16 Try.underlying28 hi hz0 hz1 hz2 rfl (by decide) u7 (hs (List.range k)).length (prs (hs (List.range k))) rfl ((I3.out.lw.alloc _).alloc _) ⟨w3.heap.size + 1, 0, none⟩ 1 1 [.int .i64 k, .int .i64 1] rfl rfl (by have := cells2_new (w3.alloc (.cells #[.int .i64 k, .int .i64 1] 30)) (.int .i64 k) (.int .i64 1) 30; simpa only [World.size_alloc] using this) (by simp [Value.oneCell']) (by decide) (by rw [hs_length, List.length_range]; unfold maxLen; omega) (by rw [hs_length, List.length_range]; omega) (by have := I3.out.bel.size; simp only [World.size_alloc]; omega) ?_; intro f' o' cap' w4 hown hgrow hat; have I4 := Lib.hid (((I3.out.alloc _).alloc _).push_live (p := ((k : Int), 1)) hgrow hown hat); clear hown hgrow hat)))
      go_roundw
      case rel => exact ⟨k + 1, by omega, by go_num, ⟨s3, by rw [List.range_succ, ← hs_snoc]; exact I4.out⟩⟩
      case measure => simp [intOf]; omega
    · obtain rfl : k = M := by omega
      clear hk hlt
      have I0 : Hid (Inv (T2 k (List.range k) []) w wr (w.heap.size + 1) u7 (hs (List.range k)) (.slice none 0 0) (hs []) l s) := HS.out.turn (t1_t2 s)
      clear HS
      go_wp2_with fail
      go_loopw [7, 11, 12] (fun lv fv iv wr => ∃ i : Nat, ∃ live freed : List Nat, i ≤ len ∧ iv = .int .i64 i ∧ live.length + freed.length = k ∧ Hid (∃ l s, Inv (T2 k live freed) w wr (w.heap.size + 1) lv (hs live) fv (hs freed) l s)) (fun _ _ iv _ => len - (intOf iv).toNat)
      case atStart => exact ⟨0, List.range k, [], by omega, rfl, by simp, ⟨l, s, I0.out⟩⟩
      case round =>
        obtain ⟨i, live, freed, hil, rfl, hlf, ⟨l2, s2, hS⟩⟩ := hrel
        have HS := Lib.hid hS
        clear hS I0
        by_cases hlt : i < len
        · have hlt1 : (i : Int) < (len : Int) := by omega
          by_cases hp : 0 < live.length
          · have hlw0 := HS.out.lw
            rw [hs_length] at hlw0
            obtain ⟨f', o', cap', rfl⟩ := hlw0.form hp
            clear hlw0
            rcases hr with h0 | ⟨bb, off, rfl, hbs, hcell⟩
            · omega
            · have hc : wr.cell? ⟨bb, off + i, none⟩ = some (.int .i64 (f i)) := (HS.out.bel.cell (p := ⟨bb, off + i, none⟩) hbs).trans (hcell i hlt)
              obtain ⟨z, hz⟩ : ∃ z, f i = z := ⟨_, rfl⟩
              rw [hz] at hc
              clear hz hcell hbs
              have hi0 : (0 : Int) ≤ (i : Int) := by omega
              have hl1 : (1 : Int) ≤ (live.length : Int) := by omega
              have hl2 : (live.length : Int) ≤ 12 := by omega
              have hgt : decide ((live.length : Int) > 0) = true := by simp; omega
              obtain ⟨j, hj, hjl⟩ : ∃ j : Nat, 0 + z % ((live.length : Int) - 1 - 0 + 1) = (j : Int) ∧ j < live.length := by
                have e1 := Int.emod_nonneg z (b := (live.length : Int) - 1 - 0 + 1) (by omega)
                have e2 := Int.emod_lt_of_pos z (b := (live.length : Int) - 1 - 0 + 1) (by omega)
                exact ⟨(0 + z % ((live.length : Int) - 1 - 0 + 1)).toNat, by omega, by omega⟩
              have hj0 : (0 : Int) ≤ (j : Int) := by omega
              have hj1 : (j : Int) < (live.length : Int) := by omega
              have HJ := Lib.hid hj
              clear hj
              have hlw := HS.out.lw
              rw [hs_length] at hlw
              have hg := prs_get (hs live) j (by rw [hs_length]; exact hjl)
              rw [hs_get _ _ hjl] at hg
              obtain ⟨x, hx⟩ : ∃ x, live.getD j 0 = x := ⟨_, rfl⟩
              rw [hx] at hg
              have HX := Lib.hid hx
              clear hx
              have hc0 := (hlw.cells (j * 2) (by omega)).trans hg.1
              have hc1 : wr.cell? ⟨f', o' + j * 2 + 1, none⟩ = some (.int .i64 1) := (hlw.cells (j * 2 + 1) (by omega)).trans hg.2
              have HG := Lib.hid hg
              have hcap := hlw.bound
              unfold maxLen at hcap
              clear hlw hg
              go_wp2_with (first | (go_at_call 8; refine (within_any z 0 _ wr (by omega) (by omega) (by omega)).mono ?_; rintro e w3 ⟨rfl, rfl⟩; rw [HJ.out]) | (go_at_call 11; refine (inv_free_is HS.out (by omega) j hjl x HX.out).mono ?_; rintro e w3 ⟨rfl, l3, s3, i3⟩; have I3 := Lib.hid i3; have hlw3 := i3.lw; rw [hs_length] at hlw3; have e0 := (hlw3.cells (j * 2) (by omega)).trans HG.out.1; have e1 : w3.cell? ⟨f', o' + j * 2 + 1, none⟩ = some (.int .i64 1) := (hlw3.cells (j * 2 + 1) (by omega)).trans HG.out.2; clear i3 hlw3) | (at_builtin; go_must (refine wpList_append_win _ rfl (.tmp 87) (.tmp 92) 28 rfl w.heap.size 30 i30 _ 2 16 Try.underlying28 hi hz0 hz1 hz2 rfl (by decide) u11 (hs freed).length (prs (hs freed)) rfl (I3.out.fw.alloc _) ⟨w3.heap.size, 0, none⟩ 1 1 [.int .i64 x, .int .i64 1] rfl rfl (cells2_new _ _ _ _) (by simp [Value.oneCell']) (by decide) (by rw [hs_length]; unfold maxLen; omega) (by rw [hs_length]; omega) (by have := I3.out.bel.size; simp only [World.size_alloc]; omega) ?_; intro f2 o2 cap2 w4 hown hgrow hat; have I4 := Lib.hid ((I3.out.alloc _).push_freed (p := ((x : Int), 1)) hgrow hown hat); clear hown hgrow hat)))
              have N1 : ∀ W, Below w4.heap.size w4 W → ∀ j' u, (prs (hs (live.take j)))[j']? = some u → W.cell? ((⟨f', o', none⟩ : Addr).add j') = some u := by
                intro W hW j' u hj'
                have hlw := I4.out.lw
                rw [hs_length] at hlw
                have hjn : j' < j * 2 := by
                  have := (List.getElem?_eq_some_iff.1 hj').1
                  rw [prs_length, hs_length, List.length_take] at this; omega
                rw [show hs (live.take j) = (hs live).take j from by simp [hs], ← prs_take, List.getElem?_take_of_lt hjn] at hj'
                rw [add_off]
                exact ((hW.cell (p := ⟨f', o' + j', none⟩) (hlw.lt f' rfl).2).trans (hlw.cells j' (by omega))).trans hj'
              have N2 : ∀ W, Below w4.heap.size w4 W → ∀ j' u, (prs (hs (live.drop (j + 1))))[j']? = some u → W.cell? ((⟨f', o' + (j + 1) * 2, none⟩ : Addr).add j') = some u := by
                intro W hW j' u hj'
                have hlw := I4.out.lw
                rw [hs_length] at hlw
                have hjn : j' < (live.length - (j + 1)) * 2 := by
                  have := (List.getElem?_eq_some_iff.1 hj').1
                  rw [prs_length, hs_length, List.length_drop] at this; omega
                rw [show hs (live.drop (j + 1)) = (hs live).drop (j + 1) from by simp [hs], ← prs_drop, List.getElem?_drop] at hj'
                rw [add_off]
                rw [← hj', Nat.add_assoc]
                exact (hW.cell (p := ⟨f', o' + ((j + 1) * 2 + j'), none⟩) (hlw.lt f' rfl).2).trans (hlw.cells _ (by omega))
              have hjc : j + 1 ≤ cap' := by omega
              have hjc2 : ((j : Int) + 1) ≤ (cap' : Int) := by omega
              have hjc3 : ((j : Int) + 1) ≤ (live.length : Int) := by omega
              have hjc4 : (j : Int) ≤ (cap' : Int) := by omega
              have hw1 : IntKind.i64.wrap ((j : Int) + 1) = (j : Int) + 1 := by rw [IntKind.wrap_i64]; omega
              have hw2 : ((j : Int) + 1).toNat = j + 1 := by omega
              have hw3 : (0 : Int) ≤ (j : Int) + 1 := by omega
              rcases Nat.lt_or_ge (j + 1) cap' with hlt' | hge'
              · have hcc : ¬ cap' = j + 1 := by omega
                go_region_law (first | (refine step_append_any _ rfl (.tmp 94) (.tmp 97) 28 rfl w4.heap.size 30 i30 _ 2 16 Try.underlying28 hi hz0 hz1 hz2 rfl (by decide) (.slice (some ⟨w4.heap.size, 0, none⟩) 0 0) 0 [] (by simp [Act.eval]) (win_empty w4) ⟨f', o', none⟩ j cap' (prs (hs (live.take j))) (by simp [Act.eval]) (by rw [prs_length, hs_length, List.length_take]; omega) (N1 _ (by first | exact bel1 _ _ | exact bel2 _ _ | exact bel3 _ _ | exact bel4 _ _)) (prs_cell1 _) (by unfold maxLen; omega) (by omega) (by simp) ?_; intro v5 w5 hown5 hgrow5; have B5 : Below w4.heap.size w4 w5 := grown_below (by first | exact bel1 _ _ | exact bel2 _ _ | exact bel3 _ _ | exact bel4 _ _) hgrow5 (by simp [Value.ownBlock]) (by simp)) | (refine step_append_any _ rfl (.tmp 98) (.tmp 102) 28 rfl w4.heap.size 30 i30 _ 2 16 Try.underlying28 hi hz0 hz1 hz2 rfl (by decide) v5 (0 + j) ([] ++ prs (hs (live.take j))) (by simp [Act.eval]) hown5 ⟨f', o' + (j + 1) * 2, none⟩ (live.length - (j + 1)) (cap' - (j + 1)) (prs (hs (live.drop (j + 1)))) (by simp [Act.eval]) (by rw [prs_length, hs_length, List.length_drop]) (N2 _ (by first | exact B5 | exact B5.drew)) (prs_cell1 _) (by unfold maxLen; omega) (by omega) (by have := B5.size; simpa using this) ?_; intro v6 w6 hown6 hgrow6; have B6 : Below w4.heap.size w4 w6 := grown_below (by first | exact B5 | exact B5.drew) hgrow6 (fun k hk => (hown5.lt k hk).1) (by have := B5.size; simpa using this)))
                all_goals
                  have I6 := Lib.hid (I4.out.new_live B6 (win_erase hjl hown6))
                  clear hown5 hown6 hgrow5 hgrow6 B5 B6
                  go_wp2_with fail
                  go_roundw
                  case rel => exact ⟨i + 1, live.eraseIdx j, freed ++ [x], by omega, by go_num, by rw [List.length_eraseIdx_of_lt hjl, List.length_append]; simp; omega, ⟨l3, s3, by rw [← hs_snoc]; exact I6.out⟩⟩
                  case measure => simp [intOf]; omega
              · have hcc : cap' = j + 1 := by omega
                have hw4 : (j : Int) ≤ (j : Int) + 1 := by omega
                have hdr : live.drop (j + 1) = [] := List.drop_eq_nil_of_le (by omega)
                go_region_law (first | (refine step_append_any _ rfl (.tmp 94) (.tmp 97) 28 rfl w4.heap.size 30 i30 _ 2 16 Try.underlying28 hi hz0 hz1 hz2 rfl (by decide) (.slice (some ⟨w4.heap.size, 0, none⟩) 0 0) 0 [] (by simp [Act.eval]) (win_empty w4) ⟨f', o', none⟩ j cap' (prs (hs (live.take j))) (by simp [Act.eval, hcc]) (by rw [prs_length, hs_length, List.length_take]; omega) (N1 _ (by first | exact bel1 _ _ | exact bel2 _ _ | exact bel3 _ _ | exact bel4 _ _)) (prs_cell1 _) (by unfold maxLen; omega) (by omega) (by simp) ?_; intro v5 w5 hown5 hgrow5; have B5 : Below w4.heap.size w4 w5 := grown_below (by first | exact bel1 _ _ | exact bel2 _ _ | exact bel3 _ _ | exact bel4 _ _) hgrow5 (by simp [Value.ownBlock]) (by simp)) | (refine step_append_any _ rfl (.tmp 98) (.tmp 102) 28 rfl w4.heap.size 30 i30 _ 2 16 Try.underlying28 hi hz0 hz1 hz2 rfl (by decide) v5 (0 + j) ([] ++ prs (hs (live.take j))) (by simp [Act.eval]) hown5 ⟨f', o', none⟩ (live.length - (j + 1)) (cap' - (j + 1)) (prs (hs (live.drop (j + 1)))) (by simp [Act.eval, hcc]) (by rw [prs_length, hs_length, List.length_drop]) (by rw [hdr]; intro j' u hu; simp [hs, prs, pairs] at hu) (prs_cell1 _) (by unfold maxLen; omega) (by omega) (by have := B5.size; simpa using this) ?_; intro v6 w6 hown6 hgrow6; have B6 : Below w4.heap.size w4 w6 := grown_below (by first | exact B5 | exact B5.drew) hgrow6 (fun k hk => (hown5.lt k hk).1) (by have := B5.size; simpa using this)))
                all_goals
                  have I6 := Lib.hid (I4.out.new_live B6 (win_erase hjl hown6))
                  clear hown5 hown6 hgrow5 hgrow6 B5 B6
                  go_wp2_with fail
                  go_roundw
                  case rel => exact ⟨i + 1, live.eraseIdx j, freed ++ [x], by omega, by go_num, by rw [List.length_eraseIdx_of_lt hjl, List.length_append]; simp; omega, ⟨l3, s3, by rw [← hs_snoc]; exact I6.out⟩⟩
                  case measure => simp [intOf]; omega
          · obtain ⟨a1, c1, rfl⟩ : ∃ a1 c1, u7 = .slice a1 0 c1 := by
              have h := HS.out.lw
              rw [hs_length, show live.length = 0 from by omega] at h
              exact h.value
            obtain ⟨a2, c2, rfl⟩ : ∃ a2 c2, u11 = .slice a2 freed.length c2 := by
              have h := HS.out.fw
              rw [hs_length] at h
              exact h.value
            have I5 : Hid (Inv (T3 k (freed.drop 0)) w wr (w.heap.size + 1) (.slice a1 0 c1) (hs live) (.slice a2 freed.length c2) (hs freed) l2 s2) := HS.out.turn (fun h => t2_t3 _ h)
            clear HS hr
            go_wp2_with fail
            go_loopw [14] (fun iv wr => ∃ i : Nat, i ≤ freed.length ∧ iv = .int .i64 i ∧ Hid (∃ s, Inv (T3 k (freed.drop i)) w wr (w.heap.size + 1) (.slice a1 0 c1) (hs live) (.slice a2 freed.length c2) (hs freed) l2 s)) (fun iv _ => freed.length - (intOf iv).toNat)
            case atStart => exact ⟨0, by omega, rfl, ⟨s2, I5.out⟩⟩
            case round =>
              obtain ⟨q, hq, rfl, ⟨s6, hS6⟩⟩ := hrel
              have H6 := Lib.hid hS6
              clear hS6 I5
              by_cases hql : q < freed.length
              · have hfw := H6.out.fw
                rw [hs_length] at hfw
                obtain ⟨f2, o2, c3, e3⟩ := hfw.form (by omega)
                injection e3 with e4 _ e5
                subst e4 e5
                have hq0 : (0 : Int) ≤ (q : Int) := by omega
                have hq1 : (q : Int) < (freed.length : Int) := by omega
                have hg := prs_get (hs freed) q (by rw [hs_length]; exact hql)
                rw [hs_get _ _ hql] at hg
                have hdrop : freed.drop q = freed.getD q 0 :: freed.drop (q + 1) := by
                  rw [List.drop_eq_getElem_cons hql]; simp [hql]
                obtain ⟨x, hx⟩ : ∃ x, freed.getD q 0 = x := ⟨_, rfl⟩
                rw [hx] at hg hdrop
                clear hx
                have HD := Lib.hid hdrop
                have HG := Lib.hid hg
                clear hg hdrop hfw
                have H7 : Hid (Inv (T3 k (x :: freed.drop (q + 1))) w wr (w.heap.size + 1) (.slice a1 0 c1) (hs live) (.slice (some ⟨f2, o2, none⟩) freed.length c2) (hs freed) l2 s6) := by
                  have := H6.out; rw [HD.out] at this; exact this
                clear H6
                go_wp2_with (go_at_call 10; go_must (refine (inv_take3 H7.out _).mono ?_; rintro e w3 ⟨rfl, s7, i7⟩; have I7 := Lib.hid i7; have hfw3 := i7.fw; rw [hs_length] at hfw3; have e0 := (hfw3.cells (q * 2) (by omega)).trans HG.out.1; have e1 : w3.cell? ⟨f2, o2 + q * 2 + 1, none⟩ = some (.int .i64 1) := (hfw3.cells (q * 2 + 1) (by omega)).trans HG.out.2; have e2 := (hfw3.lt f2 rfl).2; have e3 : ¬ f2 = w3.heap.size := (by omega); clear i7 hfw3))
                go_quiet (fail)
                have I8 := Lib.hid ((I7.out.alloc (.cells #[.int .i64 x, .int .i64 3] 30)).below (w' := (w3.alloc (.cells #[.int .i64 x, .int .i64 3] 30)).drewN nq) (below_drewN (Below.refl _ _) _))
                clear e0 e1 e2 e3
                go_wp2_with fail
                go_roundw
                case rel => exact ⟨q + 1, by omega, by go_num, ⟨s7, I8.out⟩⟩
                case measure => simp [intOf]; omega
              · obtain rfl : q = freed.length := by omega
                have H7 : Hid (Inv (T3 k []) w wr (w.heap.size + 1) (.slice a1 0 c1) (hs live) (.slice a2 freed.length c2) (hs freed) l2 s6) := by
                  have := H6.out; rw [List.drop_length] at this; exact this
                clear H6
                go_wp2_with (first | (go_at_call 10; refine (inv_full H7.out _).mono ?_; rintro e w3 ⟨rfl, i3⟩; have B3 := Lib.hid i3.bel; clear i3) | (go_at_call 12; refine (known_any _).mono ?_; rintro e w4 ⟨rfl, b4⟩))
                go_ret
                exact ⟨rfl, (B3.out.alloc B3.out.size _).trans (b4.mono (by have := B3.out.size; simp; omega))⟩
        · have hlt1 : decide ((i : Int) < (len : Int)) = false := by simp; omega
          obtain ⟨a2, c2, rfl⟩ : ∃ a2 c2, u11 = .slice a2 freed.length c2 := by
            have h := HS.out.fw
            rw [hs_length] at h
            exact h.value
          have I5 : Hid (Inv (T3 k (freed.drop 0)) w wr (w.heap.size + 1) u7 (hs live) (.slice a2 freed.length c2) (hs freed) l2 s2) := HS.out.turn (fun h => t2_t3 _ h)
          clear HS hr
          go_wp2_with fail
          go_loopw [14] (fun iv wr => ∃ i : Nat, i ≤ freed.length ∧ iv = .int .i64 i ∧ Hid (∃ s, Inv (T3 k (freed.drop i)) w wr (w.heap.size + 1) u7 (hs live) (.slice a2 freed.length c2) (hs freed) l2 s)) (fun iv _ => freed.length - (intOf iv).toNat)
          case atStart => exact ⟨0, by omega, rfl, ⟨s2, I5.out⟩⟩
          case round =>
            obtain ⟨q, hq, rfl, ⟨s6, hS6⟩⟩ := hrel
            have H6 := Lib.hid hS6
            clear hS6 I5
            by_cases hql : q < freed.length
            · have hfw := H6.out.fw
              rw [hs_length] at hfw
              obtain ⟨f2, o2, c3, e3⟩ := hfw.form (by omega)
              injection e3 with e4 _ e5
              subst e4 e5
              have hq0 : (0 : Int) ≤ (q : Int) := by omega
              have hq1 : (q : Int) < (freed.length : Int) := by omega
              have hg := prs_get (hs freed) q (by rw [hs_length]; exact hql)
              rw [hs_get _ _ hql] at hg
              have hdrop : freed.drop q = freed.getD q 0 :: freed.drop (q + 1) := by
                rw [List.drop_eq_getElem_cons hql]; simp [hql]
              obtain ⟨x, hx⟩ : ∃ x, freed.getD q 0 = x := ⟨_, rfl⟩
              rw [hx] at hg hdrop
              clear hx
              have HD := Lib.hid hdrop
              have HG := Lib.hid hg
              clear hg hdrop hfw
              have H7 : Hid (Inv (T3 k (x :: freed.drop (q + 1))) w wr (w.heap.size + 1) u7 (hs live) (.slice (some ⟨f2, o2, none⟩) freed.length c2) (hs freed) l2 s6) := by
                have := H6.out; rw [HD.out] at this; exact this
              clear H6
              go_wp2_with (go_at_call 10; go_must (refine (inv_take3 H7.out _).mono ?_; rintro e w3 ⟨rfl, s7, i7⟩; have I7 := Lib.hid i7; have hfw3 := i7.fw; rw [hs_length] at hfw3; have e0 := (hfw3.cells (q * 2) (by omega)).trans HG.out.1; have e1 : w3.cell? ⟨f2, o2 + q * 2 + 1, none⟩ = some (.int .i64 1) := (hfw3.cells (q * 2 + 1) (by omega)).trans HG.out.2; have e2 := (hfw3.lt f2 rfl).2; have e3 : ¬ f2 = w3.heap.size := (by omega); clear i7 hfw3))
              go_quiet (fail)
              have I8 := Lib.hid ((I7.out.alloc (.cells #[.int .i64 x, .int .i64 3] 30)).below (w' := (w3.alloc (.cells #[.int .i64 x, .int .i64 3] 30)).drewN nq) (below_drewN (Below.refl _ _) _))
              clear e0 e1 e2 e3
              go_wp2_with fail
              go_roundw
              case rel => exact ⟨q + 1, by omega, by go_num, ⟨s7, I8.out⟩⟩
              case measure => simp [intOf]; omega
            · obtain rfl : q = freed.length := by omega
              have H7 : Hid (Inv (T3 k []) w wr (w.heap.size + 1) u7 (hs live) (.slice a2 freed.length c2) (hs freed) l2 s6) := by
                have := H6.out; rw [List.drop_length] at this; exact this
              clear H6
              go_wp2_with (first | (go_at_call 10; refine (inv_full H7.out _).mono ?_; rintro e w3 ⟨rfl, i3⟩; have B3 := Lib.hid i3.bel; clear i3) | (go_at_call 12; refine (known_any _).mono ?_; rintro e w4 ⟨rfl, b4⟩))
              go_ret
              exact ⟨rfl, (B3.out.alloc B3.out.size _).trans (b4.mono (by have := B3.out.size; simp; omega))⟩
end Go.Proofs.Ytpmolcbfjjibgaa
