/- The pool of files: Cut. -/
import Derived.Test.YtfjghemojnhmbaaGreatPool
namespace Go.Proofs.YtfjghemojnhmbaaGreat
open Go.RowKit

/-- Nothing appended. -/
theorem run_append_none {P : Program} (w : World) (t ty e : TypeId) (i : TypeInfo) (ht : P.underlying t = some (.slice e)) (hi : P.info? e = some i) (hb : i.bytes ≠ 0) (b : Addr) (n c : Nat) (h : n ≤ c) :
    (Builtin.append_ #[t, t] ty #[.slice (some b) n c, .slice none 0 0]).run P w = .ok (.slice (some b) n c) w := by
  simp [Builtin.append_, run_underlying ht, sizeOf, typeInfo, Builtin.lenOf, hi, hb, h, run_firstCells_none, storeCells]
/-- An empty row of the owner's. -/
theorem PG.empty {S S' : Nat → Prop} {w wr : World} {p c g : Nat} (h : PG S S' w wr p c g) : PG S (fun k => S' k ∨ k = wr.heap.size) w (wr.alloc (.cells #[] 5)) p c g ∧ Win (wr.alloc (.cells #[] 5)) 0 5 1 (.slice (some ⟨wr.heap.size, 0, none⟩) 0 0) 0 [] := by
  refine ⟨h.next (T := []) (fun _ h => .inl h) (fun k hk => hk.imp id fun e => by omega) (KF.of_below ((Below.refl _ _).alloc (Nat.le_refl _) _) fun _ h => .inl h) (Fr.of_below ((Below.refl _ _).alloc (Nat.le_refl _) _)) (.inr (.inr rfl)), by simp, .inr ⟨_, 0, 0, #[], rfl, Nat.zero_le _, Blk.new wr #[] 5, by simp, by unfold maxLen; omega, by simp, fun j hj => by omega⟩⟩
theorem PG.put {S S' : Nat → Prop} {w wr : World} {p c g n : Nat} (h : PG S S' w wr p c g) {v : Value} (hv : ByteV S' wr v n) (hn : n ≤ 1024) : (∃ S'', PG S S'' w (wr.setCell ⟨g, 0, none⟩ v) p c g) ∧ (∃ u, wr.cell? ⟨g, 0, none⟩ = some u) ∧ wr.frozen? ⟨g, 0, none⟩ = false := by
  obtain ⟨cur, v', n', r1, r2, r3, r4, _⟩ := id h.file
  exact ⟨⟨S', h.bytes hv hn⟩, ⟨v', (r1.cell 0).trans r4⟩, r1.free 0⟩
/-- The first bytes of a file in a row of their own. -/
theorem cut_app {S S' : Nat → Prop} {w wr : World} {p c g L Z cap : Nat} {a : Option Addr} {xs : List Value} {i5 : TypeInfo} (ty : TypeId) (h51 : Tryz.prog.info? 5 = some i5) (h52 : i5.zero = some (.int .u8 0)) (h53 : i5.size = 1) (h54 : i5.bytes = 1) (h : PG S S' w wr p c g)
    (hw : Win wr 0 5 1 (.slice a L cap) L xs) (hx : ∀ x ∈ xs, IsByte x) (hz : Z ≤ L) (hl : L ≤ 1024) :
    ∃ f o cap' w4, (Builtin.append_ #[35, 35] ty #[.slice (some ⟨wr.heap.size, 0, none⟩) 0 0, .slice a Z cap]).run Tryz.prog (wr.alloc (.cells #[] 5)) = .ok (.slice (some ⟨f, o, none⟩) Z cap') w4 ∧
      (∃ S'', PG S S'' w (w4.setCell ⟨g, 0, none⟩ (.slice (some ⟨f, o, none⟩) Z cap')) p c g) ∧ (∃ u, w4.cell? ⟨g, 0, none⟩ = some u) ∧ w4.frozen? ⟨g, 0, none⟩ = false := by
  obtain ⟨e1, e2⟩ := h.empty
  rcases Nat.eq_zero_or_pos Z with rfl | hp
  · have q := e1.put (ByteV.of_win e2 (by simp) (.inr rfl)) (by omega)
    rcases a with _ | ad
    · have hc : cap = 0 := by
        obtain ⟨_, q | ⟨f, o, cap', cur, h3, _⟩⟩ := hw
        · have := q.1; cases this; rfl
        · cases h3
      subst hc
      exact ⟨_, 0, 0, _, run_append_none _ 35 ty 5 i5 Tryz.underlying35 h51 (by omega) _ 0 0 (Nat.le_refl _), q⟩
    · exact ⟨_, 0, 0, _, run_append_room_cells (P := Tryz.prog) _ 35 ty 5 i5 Tryz.underlying35 h51 wr.heap.size 0 0 0 ad 0 cap [] (by simp) (by simp) (by simp) (by omega) (by simp) (by simp), q⟩
  · obtain ⟨F, o, cap0, hv⟩ := hw.form (by omega)
    cases hv
    have hlen := hw.1
    obtain ⟨f, o', cap', w4, r1, r2, r3⟩ := run_append_two (P := Tryz.prog) (wr.alloc (.cells #[] 5)) 0 35 ty 5 i5 (.int .u8 0) 1 1 Tryz.underlying35 h51 h52 h53 h54 rfl (by omega) _ 0 [] e2 ⟨F, o, none⟩ Z cap (xs.take Z) (by simp; omega) (by
      intro j u hj
      have hjz : j < Z := by have := (List.getElem?_eq_some_iff.1 hj).1; simp at this; omega
      rw [List.getElem?_take_of_lt hjz] at hj
      rw [Addr.add_mid]
      have hw' := hw.alloc (.cells #[] 5)
      exact (hw'.cells j (by omega)).trans hj) (fun u hu => (hx u (List.mem_of_mem_take hu)).one) hp (by unfold maxLen; omega) (by omega) (Nat.zero_le _)
    rw [Nat.zero_add] at r1 r2
    obtain ⟨s1, s2⟩ := e1.app e2 (fun k hk => by cases hk; exact .inr rfl) (by simp) (fun x hx' => hx x (List.mem_of_mem_take hx')) r3 r2
    exact ⟨f, o', cap', w4, r1, s1.put s2 (by omega)⟩
theorem Win.room {w : World} {base : Nat} {e : TypeId} {size n cap : Nat} {a : Option Addr} {xs : List Value} (h : Win w base e size (.slice a n cap) n xs) : n ≤ cap ∧ cap ≤ maxLen := by
  obtain ⟨_, q | ⟨f, o, cap', cur, h3, h4, h5, h6, h7, _⟩⟩ := h
  · have := q.1; cases this; exact ⟨Nat.le_refl _, by unfold maxLen; omega⟩
  · cases h3; exact ⟨h6, h7⟩
/-- An append whose run is known. -/
theorem wpList_append_run {P : Program} {w w' : World} {ops : Array Oper} {rest : List Oper} {o : Oper} {a : Act} {Q : Exit → Act → World → Prop} {v' : Value} (hgd : o.guard = none) (s x : Operand) (t : TypeId) (ho : o.op = .call { callee := .builtin .append, args := #[s, x], argTypes := #[t, t] })
    (hr : (Builtin.append_ #[t, t] o.type #[a.eval s, a.eval x]).run P w = .ok v' w') (h : wpList P ops Q rest (a.put o.dst v') w') : wpList P ops Q (o :: rest) a w := by
  refine wpList_plain hgd fun _ hK => ?_
  unfold Oper.wp execOp
  simp only [ho, resolve, invoke, builtin, Sem.run_bind, Sem.run_pure, Result.andThen_ok, List.map_toArray, List.map_cons, List.map_nil, hr]
  exact hK _ _ h
theorem FileOk.free {S : Nat → Prop} {w : World} {g : Nat} (h : FileOk S w g) (i : Nat) : w.frozen? ⟨g, i, none⟩ = false := by obtain ⟨cur, v, n, q, _⟩ := h; exact q.free i
/-- How long a file is. -/
def lenAt (w : World) (g : Nat) : Nat := match w.cell? ⟨g, 0, none⟩ with
  | some (.slice _ n _) => n
  | _ => 0
theorem lenAt_of {w : World} {g n cap : Nat} {a : Option Addr} (h : w.cell? ⟨g, 0, none⟩ = some (.slice a n cap)) : lenAt w g = n := by simp [lenAt, h]
theorem lenAt_set {w : World} {g n cap : Nat} {a : Option Addr} {u : Value} (h : w.cell? ⟨g, 0, none⟩ = some u) : lenAt (w.setCell ⟨g, 0, none⟩ (.slice a n cap)) g = n := lenAt_of (World.cell?_setCell_same w _ _ h)
set_option maxRecDepth 100000 in
theorem cut_any (S : Nat → Prop) (w : World) (p c : Nat) (hp : PoolOk S w p c) (hc : c ≤ 1000000) (f z : Int) (f0 : -9223372036854775808 ≤ f) (f1 : f ≤ 9223372036854775807) :
    Calls Tryz.prog 112 #[.pointer (some ⟨p, 0, none⟩), .int .i64 f, .int .i64 z] w (PStep S p c 0 64 w) := by
  have C1 := of_any S w p c hp hc f f0 f1
  obtain ⟨i5, h51, h52, h53, h54⟩ := info_parts info5
  have HP := Lib.hid hp
  go_enter Tryz.func112, Tryz.ntmps112
  go_wp2_with fail
  refine C1.mono ?_
  rintro e w' ⟨r, rfl, rfl, rfl | ⟨g, rfl, hg⟩⟩
  · go_wp2_with fail
    go_ret
    exact .same HP.out (by omega) (by omega)
  have HG := Lib.hid hg
  clear hg
  by_cases hz : z < 0
  · go_wp2_with fail
    go_ret
    exact .same HP.out (by omega) (by omega)
  by_cases hz2 : 1024 < z
  · go_wp2_with fail
    go_ret
    exact .same HP.out (by omega) (by omega)
  obtain ⟨Z, rfl⟩ : ∃ Z : Nat, z = Z := ⟨z.toNat, by omega⟩
  have HZ := Lib.hid (PG.start HP.out HG.out)
  go_wp2_with fail
  go_loopw [] (fun wr => Hid (∃ S', PG S S' w' wr p c g)) (fun wr => Z - lenAt wr g)
  case atStart => exact ⟨S, HZ.out⟩
  case round =>
    obtain ⟨S', HI⟩ := hrel.out
    have HI := Lib.hid HI
    obtain ⟨a, L, cap, h1, h2, h3⟩ := HI.out.file.bytes
    have hl := lenAt_of h1
    have gl : g < wr.heap.size := by obtain ⟨cur, v, n, q, _⟩ := HI.out.file; exact q.lt
    have gf : wr.frozen? ⟨g, 0, none⟩ = false := by obtain ⟨cur, v, n, q, _⟩ := HI.out.file; exact q.free 0
    obtain ⟨xs, hw, hx, hS⟩ := h2.win
    have HW := Lib.hid (And.intro hw (And.intro hx (And.intro hS h2)))
    clear h2 hw hx hS
    by_cases hlt : L < Z
    · have k1 : (L : Int) < (Z : Int) := by omega
      go_upto_region 9 with fail
      go_wp2_with (first | (at_builtin; go_must (refine wpList_append_two _ rfl (.tmp 29) (.tmp 30) 35 rfl 0 5 i5 _ 1 1 Tryz.underlying35 h51 h52 h53 h54 rfl (by decide) (.slice a L cap) L xs rfl (HW.out.1.alloc _) ⟨wr.heap.size, 0, none⟩ 1 1 [.int .u8 0] rfl rfl (new_cells wr [.int .u8 0] 5) (by simp [Value.oneCell']) (by decide) (by unfold maxLen; omega) (by omega) (Nat.zero_le _) ?_; intro f' o' cap' w4 hown happ; obtain ⟨PN, ⟨v4, q1⟩, qf⟩ := (HI.out.alloc _).grow (HW.out.1.alloc _) HW.out.2.2.1 HW.out.2.1 (by omega) happ hown; have PN := Lib.hid PN; clear hown happ)))
      go_roundw
      case rel => exact Lib.hid ⟨_, PN.out⟩
      case measure => rw [lenAt_set q1]; omega
    · have k1 : ¬ (L : Int) < (Z : Int) := by omega
      have hroom := HW.out.1.room
      have k2 : Z ≤ cap := by omega
      have k3 : (Z : Int) ≤ (cap : Int) := by omega
      have k4 : (cap : Int) ≤ 9223372036854775807 := by have := hroom.2; unfold maxLen at this; omega
      go_upto_region 10 with fail
      obtain ⟨f', o', cap', w4, hr, HN, ⟨v4, q1⟩, qf⟩ := cut_app 35 h51 h52 h53 h54 HI.out HW.out.1 HW.out.2.1 (show Z ≤ L by omega) h3
      have HN := Lib.hid HN
      have HR := Lib.hid hr
      clear hr
      go_upto_region 11 with (first | (at_builtin; go_must (refine wpList_append_run rfl (.tmp 35) (.tmp 41) 35 rfl HR.out ?_)))
      generalize w4.setCell ⟨g, 0, none⟩ (.slice (some ⟨f', o', none⟩) Z cap') = w5 at HN ⊢
      clear q1 qf HR
      go_wp2_with fail
      go_loopw [8] (fun iv wz => ∃ i : Nat, i ≤ 64 ∧ iv = .int .i64 i ∧ Hid (∃ S', PG S S' w' wz p c g)) (fun iv _ => 64 - (intOf iv).toNat)
      case atStart => exact ⟨0, by omega, rfl, HN⟩
      case round =>
        obtain ⟨i, hi, rfl, HX⟩ := hrel
        obtain ⟨S5, HX⟩ := HX.out
        have HX := Lib.hid HX
        by_cases hlt : i < 64
        · obtain ⟨b, hb⟩ := HX.out.file.has (j := 1 + i) (by omega) (by omega)
          have bf := HX.out.file.free (1 + i)
          have k0 : (0 : Int) ≤ (i : Int) := by omega
          have k1 : (i : Int) < 64 := by omega
          by_cases hs : (Z : Int) ≤ (i : Int) * 16
          · go_wp2_with fail
            go_roundw
            case rel => exact ⟨i + 1, by omega, by go_num, S5, HX.out.has (by omega) false⟩
            case measure => simp [intOf]; omega
          · go_wp2_with fail
            go_roundw
            case rel => exact ⟨i + 1, by omega, by go_num, S5, HX.out⟩
            case measure => simp [intOf]; omega
        · obtain rfl : i = 64 := by omega
          go_wp2_with fail
          go_ret
          exact HX.out.done (by omega) (by omega)
end Go.Proofs.YtfjghemojnhmbaaGreat
/- The pool of files: Write. -/
namespace Go.Proofs.YtfjghemojnhmbaaGreat
open Go.RowKit

/-- One byte copied: where it lies, where it goes, what stands then. -/
structure Cop (S S' : Nat → Prop) (w wz : World) (p c g A m j : Nat) (a : Option Addr) (cap : Nat) (F o n2 cap2 : Nat) (f2 o2 : Nat) (b : Int) : Prop where
  file : wz.cell? ⟨g, 0, none⟩ = some (.slice (some ⟨F, o, none⟩) n2 cap2)
  len : A + m ≤ n2
  old : ∃ u, wz.cell? ⟨F, o + (A + j), none⟩ = some u
  free : wz.frozen? ⟨F, o + (A + j), none⟩ = false
  src : a = some ⟨f2, o2, none⟩
  cell : wz.cell? ⟨f2, o2 + j, none⟩ = some (.int .u8 b)
  ne : F ≠ g
  pg : PG S S' w (wz.setCell ⟨F, o + (A + j), none⟩ (.int .u8 b)) p c g ∧ A + m ≤ lenAt (wz.setCell ⟨F, o + (A + j), none⟩ (.int .u8 b)) g
theorem lenAt_other {w : World} {g f i : Nat} (h : f ≠ g) (v : Value) : lenAt (w.setCell ⟨f, i, none⟩ v) g = lenAt w g := by
  unfold lenAt
  rw [World.cell?_setCell_other _ _ _ _ (by intro e; cases e; exact h rfl)]
theorem lenAt_has {w : World} {g i : Nat} (h : 1 ≤ i) (v : Value) : lenAt (w.setCell ⟨g, i, none⟩ v) g = lenAt w g := by
  unfold lenAt
  rw [World.cell?_setCell_other _ _ _ _ (by intro e; cases e; omega)]
theorem copyFacts {S S' : Nat → Prop} {w wz : World} {p c g A m j cap : Nat} {a : Option Addr} {xs : List Value} (h : PG S S' w wz p c g) (hl : A + m ≤ lenAt wz g) (hd : Win w 0 5 1 (.slice a m cap) m xs) (hb : ∀ x ∈ xs, IsByte x)
    (hS : ∀ k, (Value.slice a m cap).ownBlock = some k → ¬ S k) (hj : j < m) : ∃ F o n2 cap2 f2 o2 b, Cop S S' w wz p c g A m j a cap F o n2 cap2 f2 o2 b := by
  obtain ⟨a2, L, cap2, g1, g2, g3⟩ := h.file.bytes
  rw [lenAt_of g1] at hl
  obtain ⟨F, o, cp, b0, cur, e, h1, h2, h3, h4, h5, h6⟩ := g2.cell (i := A + j) (by omega)
  cases e
  obtain ⟨f2, o2, cap3, e⟩ := hd.form (by omega)
  cases e
  have hlen := hd.1
  have hd' : Win wz 0 5 1 (.slice (some ⟨f2, o2, none⟩) m cap) m xs := hd.kept fun k hk => h.fr.keepS (hd.lt k hk).2 (hS k hk)
  have hc := hd'.cells j (by omega)
  have hjl : j < xs.length := by omega
  rw [List.getElem?_eq_getElem hjl] at hc
  obtain ⟨b, hb1, hb2⟩ := hb _ (List.getElem_mem hjl)
  rw [hb1] at hc
  obtain ⟨cg, _, _, q1, _⟩ := h.file
  have ne : F ≠ g := h6.ne q1 (by decide)
  exact ⟨F, o, L, cap2, f2, o2, b, g1, hl, ⟨_, h1⟩, h4, rfl, hc, ne, h.byte h6 h5 ⟨b, rfl, hb2⟩, by rw [lenAt_other ne, lenAt_of g1]; exact hl⟩
set_option maxRecDepth 100000 in
theorem write_any (S : Nat → Prop) (w : World) (p c : Nat) (hp : PoolOk S w p c) (hc : c ≤ 1000000) (f t : Int) (f0 : -9223372036854775808 ≤ f) (f1 : f ≤ 9223372036854775807) (a : Option Addr) (m cap : Nat) (xs : List Value)
    (hd : Win w 0 5 1 (.slice a m cap) m xs) (hb : ∀ x ∈ xs, IsByte x) (hS : ∀ k, (Value.slice a m cap).ownBlock = some k → ¬ S k) :
    Calls Tryz.prog 89 #[.pointer (some ⟨p, 0, none⟩), .int .i64 f, .int .i64 t, .slice a m cap] w (PStep S p c 0 64 w) := by
  have C1 := of_any S w p c hp hc f f0 f1
  have C2 := left_any S w p c hp hc
  obtain ⟨i5, h51, h52, h53, h54⟩ := info_parts info5
  have HP := Lib.hid hp
  have HD := Lib.hid (And.intro hd (And.intro hb hS))
  have hroom := hd.room
  have mcap : (m : Int) ≤ 9223372036854775807 := by have := hroom.2; unfold maxLen at this; omega
  clear hd hb hS hroom hp
  go_enter Tryz.func89, Tryz.ntmps89
  go_wp2_with fail
  refine C1.mono ?_
  rintro e w' ⟨r, rfl, rfl, rfl | ⟨g, rfl, hg⟩⟩
  · go_wp2_with fail
    go_ret
    exact .same HP.out (by omega) (by omega)
  have HG := Lib.hid hg
  clear hg
  by_cases ht : t < 0
  · go_wp2_with fail
    go_ret
    exact .same HP.out (by omega) (by omega)
  by_cases hm : m = 0
  · subst hm
    go_wp2_with fail
    go_ret
    exact .same HP.out (by omega) (by omega)
  have hm1 : ¬ (m : Int) = 0 := by omega
  by_cases ht2 : 1024 < t
  · go_wp2_with fail
    go_ret
    exact .same HP.out (by omega) (by omega)
  obtain ⟨A, rfl⟩ : ∃ A : Nat, t = A := ⟨t.toNat, by omega⟩
  by_cases ht3 : 1024 - (A : Int) < (m : Int)
  · go_wp2_with fail
    go_ret
    exact .same HP.out (by omega) (by omega)
  have hm2 : A + m ≤ 1024 := by omega
  go_wp2_with fail
  obtain ⟨N, hN⟩ : ∃ N, (A + m - 1) / 16 = N := ⟨_, rfl⟩
  have hN63 : N ≤ 63 := by omega
  have hNi : ((A : Int) + (m : Int) - 1) / 16 = (N : Int) := by omega
  have hNt : ((A : Int) + (m : Int) - 1).tdiv 16 = (N : Int) := by rw [Int.tdiv_eq_ediv_of_nonneg (by omega)]; exact hNi
  go_loopw [11, 10] (fun iv nv wr => ∃ i k : Nat, i ≤ N + 1 ∧ k ≤ i ∧ iv = .int .i64 i ∧ nv = .int .i64 k ∧ Hid (SameW w' wr)) (fun iv _ _ => N + 1 - (intOf iv).toNat)
  case atStart => exact ⟨A / 16, 0, by omega, by omega, by simp, rfl, rfl⟩
  case round =>
    obtain ⟨i, k, hi, hk, rfl, rfl, HW⟩ := hrel
    have hw := HW.out
    unfold SameW at hw
    subst hw
    have k0 : (0 : Int) ≤ (i : Int) := by omega
    by_cases hlt : i ≤ N
    · have k1 : (i : Int) ≤ (N : Int) := by omega
      have k2 : (i : Int) < 64 := by omega
      obtain ⟨b, hb⟩ := HG.out.has (j := 1 + i) (by omega) (by omega)
      cases b
      · go_wp2_with fail
        go_roundw
        case rel => exact ⟨i + 1, k + 1, by omega, by omega, by go_num, by go_num, HW⟩
        case measure => simp [intOf]; omega
      · go_wp2_with fail
        go_roundw
        case rel => exact ⟨i + 1, k, by omega, by omega, by go_num, rfl, HW⟩
        case measure => simp [intOf]; omega
    · have k1 : ¬ (i : Int) ≤ (N : Int) := by omega
      go_wp2_with fail
      refine C2.mono ?_
      rintro e w1 ⟨l, rfl, rfl, l0, l1⟩
      by_cases hkl : l < (k : Int)
      · go_wp2_with fail
        go_ret
        exact .same HP.out (by omega) (by omega)
      go_wp2_with fail
      have HZ := Lib.hid (PG.start HP.out HG.out)
      go_loopw [] (fun wr => Hid (∃ S', PG S S' w1 wr p c g)) (fun wr => A + m - lenAt wr g)
      case atStart => exact ⟨S, HZ.out⟩
      case round =>
        obtain ⟨S', HI⟩ := hrel.out
        have HI := Lib.hid HI
        obtain ⟨a2, L, cap2, g1, g2, g3⟩ := HI.out.file.bytes
        have hl := lenAt_of g1
        have gf := HI.out.file.free 0
        obtain ⟨ys, hw, hx, hS⟩ := g2.win
        have HW2 := Lib.hid (And.intro hw (And.intro hx hS))
        clear g2 hw hx hS
        by_cases hlt : L < A + m
        · have j1 : (L : Int) < (A : Int) + (m : Int) := by omega
          go_upto_region 19 with fail
          go_wp2_with (first | (at_builtin; go_must (refine wpList_append_two _ rfl (.tmp 71) (.tmp 72) 35 rfl 0 5 i5 _ 1 1 Tryz.underlying35 h51 h52 h53 h54 rfl (by decide) (.slice a2 L cap2) L ys rfl (HW2.out.1.alloc _) ⟨wr.heap.size, 0, none⟩ 1 1 [.int .u8 0] rfl rfl (new_cells wr [.int .u8 0] 5) (by simp [Value.oneCell']) (by decide) (by unfold maxLen; omega) (by omega) (Nat.zero_le _) ?_; intro f' o' cap' w4 hown happ; obtain ⟨PN, ⟨v4, q1⟩, qf⟩ := (HI.out.alloc _).grow (HW2.out.1.alloc _) HW2.out.2.2 HW2.out.2.1 (by omega) happ hown; have PN := Lib.hid PN; clear hown happ)))
          go_roundw
          case rel => exact Lib.hid ⟨_, PN.out⟩
          case measure => rw [lenAt_set q1]; omega
        · have j1 : ¬ (L : Int) < (A : Int) + (m : Int) := by omega
          have HJ : Hid (∃ S', PG S S' w1 wr p c g ∧ A + m ≤ lenAt wr g) := Lib.hid ⟨S', HI.out, by omega⟩
          go_wp2_with fail
          clear j1 hlt gf hl g1 g3
          go_loopw [12] (fun iv wz => ∃ j : Nat, j ≤ m ∧ iv = .int .i64 j ∧ Hid (∃ S', PG S S' w1 wz p c g ∧ A + m ≤ lenAt wz g)) (fun iv _ => m - (intOf iv).toNat)
          case atStart => exact ⟨0, by omega, rfl, HJ⟩
          case round =>
            obtain ⟨j, hj, rfl, HX⟩ := hrel
            obtain ⟨S5, HX⟩ := HX.out
            have HX := Lib.hid HX
            by_cases hlt : j < m
            · obtain ⟨F, o, n2, cap2', f2, o2, b, C⟩ := copyFacts HX.out.1 HX.out.2 HD.out.1 HD.out.2.1 HD.out.2.2 hlt
              have C := Lib.hid C
              obtain rfl := C.out.src
              have c1 := C.out.file
              have c2 := C.out.cell
              have c3 := C.out.free
              obtain ⟨u, c4⟩ := C.out.old
              have c5 := C.out.ne
              have c6 := C.out.ne.symm
              have c7 := C.out.len
              have d0 : (0 : Int) ≤ (j : Int) := by omega
              have d1 : (j : Int) < (m : Int) := by omega
              have d2 : (0 : Int) ≤ (A : Int) + (j : Int) := by omega
              have d3 : (A : Int) + (j : Int) < (n2 : Int) := by omega
              go_upto_region 23 with fail
              go_region
              have HY : Hid (PG S S5 w1 (wr.setCell ⟨F, o + (A + j), none⟩ (.int .u8 b)).drew p c g ∧ A + m ≤ lenAt (wr.setCell ⟨F, o + (A + j), none⟩ (.int .u8 b)).drew g) := Lib.hid ⟨C.out.pg.1.drew, C.out.pg.2⟩
              generalize (wr.setCell ⟨F, o + (A + j), none⟩ (.int .u8 b)).drew = W6 at HY ⊢
              obtain ⟨q, hq⟩ : ∃ q, (A + j) / 16 = q := ⟨_, rfl⟩
              have hq1 : q < 64 := by omega
              have hqi : ((A : Int) + (j : Int)) / 16 = (q : Int) := by omega
              have hqt : ((A : Int) + (j : Int)).tdiv 16 = (q : Int) := by rw [Int.tdiv_eq_ediv_of_nonneg (by omega)]; exact hqi
              obtain ⟨b6, s1⟩ := HY.out.1.file.has (j := 1 + q) (by omega) (by omega)
              have s2 := HY.out.1.file.free (1 + q)
              have e0 : (0 : Int) ≤ (q : Int) := by omega
              have e1 : (q : Int) < 64 := by omega
              clear C c1 c2 c3 c4 c7
              go_wp2_with fail
              go_roundw
              case rel => exact ⟨j + 1, by omega, by go_num, Lib.hid ⟨S5, HY.out.1.has (by omega) true, by rw [lenAt_has (by omega)]; exact HY.out.2⟩⟩
              case measure => simp [intOf]; omega
            · obtain rfl : j = m := by omega
              have j1 : ¬ (j : Int) < (j : Int) := by omega
              go_wp2_with fail
              go_ret
              exact HX.out.1.done (by omega) (by omega)
end Go.Proofs.YtfjghemojnhmbaaGreat
