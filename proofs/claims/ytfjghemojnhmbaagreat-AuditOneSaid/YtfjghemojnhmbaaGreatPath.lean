/- Paths are read. -/
import Derived.Deep.RegionLaw
import Derived.OwnWalk
import Derived.Test.YtfjghemojnhmbaaGreatLeaf
namespace Go.Proofs.YtfjghemojnhmbaaGreat
open Go.RowKit

def strs (xs : List ByteArray) : List Value := xs.map .string
theorem info9 : (Tryz.prog.info? 9).map (fun i => (i.zero, i.size, i.bytes)) = some (some (.string ⟨#[]⟩), 1, 16) := by kernel_rfl
theorem new_cells (w : World) (cs : List Value) (ty : TypeId) : ∀ j u, cs[j]? = some u → (w.alloc (.cells cs.toArray ty)).cell? ((⟨w.heap.size, 0, none⟩ : Addr).add j) = some u := by
  intro j u hu
  rw [Addr.add_mid, Nat.zero_add, World.cell?_alloc_new, ← hu]
  simp
/-- Parts of a path, in memory of their own. -/
def Parts (w : World) (base : Nat) (v : Value) (ps : List ByteArray) : Prop := Win w base 9 1 v ps.length (strs ps) ∧ ∀ p ∈ ps, p.size ≤ 5000
theorem Parts.nil (w : World) (base : Nat) : Parts w base (.slice none 0 0) [] := ⟨Win.nil _ _ _ _, by simp⟩
theorem Parts.below {w w' : World} {base : Nat} {v : Value} {ps : List ByteArray} (h : Parts w base v ps) (hb : Below w.heap.size w w') : Parts w' base v ps := ⟨h.1.below hb, h.2⟩
/-- What Read answers. -/
def ReadPost (w : World) (e : Ending) (w' : World) : Prop := ∃ (r sl : Bool) (v : Value) (ps : List ByteArray) (code : Int), e = .returned (.tuple #[.agg #[.bool r, .bool sl, v], .int .i64 code]) ∧ Parts w' w.heap.size v ps ∧ ps.length ≤ 5000 ∧ Below w.heap.size w w'
theorem path_out {fn : Func} {tmps : Array Value} {w : World} {S a b : Nat} {p q x z : Value} (hr : fn.results = #[.cell a 164, .tmp b]) (h4 : tmps.getD a undef = .pointer (some ⟨S, 0, none⟩)) (h5 : tmps.getD b undef = z)
    (v0 : w.cell? ⟨S, 0, none⟩ = some p) (v1 : w.cell? ⟨S, 1, none⟩ = some q) (v2 : w.cell? ⟨S, 2, none⟩ = some x) : (results fn tmps).run Tryz.prog w = .ok (.tuple #[.agg #[p, q, x], z]) w := by
  unfold results
  rw [hr]
  have h4' : tmps[a]?.getD undef = .pointer (some ⟨S, 0, none⟩) := by rw [← h4]; simp
  have h5' : tmps[b]?.getD undef = z := by rw [← h5]; simp
  simp [asAddr, h4', h5', go_sem, v0, v1, v2]
theorem read_no {w wr : World} {Z : Nat} {fn : Func} {tmps : Array Value} {code : Int} (hr : fn.results = #[.cell 2 164, .tmp 3]) (h2 : tmps.getD 2 undef = .pointer (some ⟨Z, 0, none⟩)) (h3 : tmps.getD 3 undef = .int .i64 code) (hz : Holds wr Z #[.bool false, .bool false, .slice none 0 0]) (hb : Below w.heap.size w wr) : bodyPost Tryz.prog fn (ReadPost w) .ret ⟨tmps, []⟩ wr := by
  refine bodyPost_ret (path_out hr h2 h3 (hz.cell 0) (hz.cell 1) (hz.cell 2)) rfl ?_
  exact ⟨false, false, _, [], code, rfl, Parts.nil _ _, by simp, hb⟩
theorem zset {w W : World} {Z : Nat} (h : Holds W Z #[.bool false, .bool false, .slice none 0 0]) (hb : Below w.heap.size w W) (hz : w.heap.size = Z) :
    Holds (((W.setCell ⟨Z, 0, none⟩ (.bool false)).setCell ⟨Z, 1, none⟩ (.bool false)).setCell ⟨Z, 2, none⟩ (.slice none 0 0)) Z #[.bool false, .bool false, .slice none 0 0] ∧ Below w.heap.size w (((W.setCell ⟨Z, 0, none⟩ (.bool false)).setCell ⟨Z, 1, none⟩ (.bool false)).setCell ⟨Z, 2, none⟩ (.slice none 0 0)) :=
  ⟨((h.set 0 (.bool false) (by simp)).set 1 (.bool false) (by simp)).set 2 (.slice none 0 0) (by simp), ((hb.setCell (by rw [hz]; exact Nat.le_refl _) _).setCell (by rw [hz]; exact Nat.le_refl _) _).setCell (by rw [hz]; exact Nat.le_refl _) _⟩
theorem zput {w W : World} {Z : Nat} (h : Holds W Z #[.bool false, .bool false, .slice none 0 0]) (hb : Below w.heap.size w W) (hz : w.heap.size = Z) (a b c : Value) :
    Holds (((W.setCell ⟨Z, 0, none⟩ a).setCell ⟨Z, 1, none⟩ b).setCell ⟨Z, 2, none⟩ c) Z #[a, b, c] ∧ Below w.heap.size w (((W.setCell ⟨Z, 0, none⟩ a).setCell ⟨Z, 1, none⟩ b).setCell ⟨Z, 2, none⟩ c) :=
  ⟨((h.set 0 a (by simp)).set 1 b (by simp)).set 2 c (by simp), ((hb.setCell (by rw [hz]; exact Nat.le_refl _) _).setCell (by rw [hz]; exact Nat.le_refl _) _).setCell (by rw [hz]; exact Nat.le_refl _) _⟩
/-- The very same world (a name that the walk does not open). -/
def SameW (a b : World) : Prop := a = b
/-- The parts so far. -/
structure RdI (w wr : World) (Z P : Nat) (r sl : Bool) (v : Value) (ps : List ByteArray) : Prop where
  hz : Holds wr Z #[.bool false, .bool false, .slice none 0 0]
  hp : Holds wr P #[.bool r, .bool sl, v]
  pt : Parts wr (P + 1) v ps
  bel : Below w.heap.size w wr
  z : w.heap.size = Z
  le : Z < P
theorem RdI.alloc {w wr : World} {Z P : Nat} {r sl : Bool} {v : Value} {ps : List ByteArray} (h : RdI w wr Z P r sl v ps) (o : Obj) : RdI w (wr.alloc o) Z P r sl v ps :=
  ⟨h.hz.alloc o, h.hp.alloc o, h.pt.below ((Below.refl _ _).alloc (Nat.le_refl _) o), h.bel.alloc h.bel.size o, h.z, h.le⟩
theorem RdI.drew {w wr : World} {Z P : Nat} {r sl : Bool} {v : Value} {ps : List ByteArray} (h : RdI w wr Z P r sl v ps) : RdI w wr.drew Z P r sl v ps :=
  ⟨h.hz.drew, h.hp.drew, h.pt, h.bel.drew, h.z, h.le⟩
theorem RdI.frm {w wr wr' : World} {Z P : Nat} {r sl : Bool} {v : Value} {ps : List ByteArray} (_h : RdI w wr Z P r sl v ps) (hg : wr.grownBy wr' v.ownBlock) : Frm (v.ownBlock.toList) wr wr' :=
  Frm.of_grown hg (fun k hk _ => by rw [hk]; simp)
theorem RdI.own {w wr : World} {Z P : Nat} {r sl : Bool} {v : Value} {ps : List ByteArray} (h : RdI w wr Z P r sl v ps) (k : Nat) (hk : k ∈ v.ownBlock.toList) : P + 1 ≤ k := (h.pt.1.lt k (by simpa using hk)).1
theorem RdI.grown {w wr wr' : World} {Z P : Nat} {r sl : Bool} {v : Value} {ps : List ByteArray} (h : RdI w wr Z P r sl v ps) (hg : wr.grownBy wr' v.ownBlock) :
    Holds wr' Z #[.bool false, .bool false, .slice none 0 0] ∧ Holds wr' P #[.bool r, .bool sl, v] ∧ Below w.heap.size w wr' := by
  have ho := h.own
  have hle := h.le
  refine ⟨h.hz.frm (h.frm hg) (fun hm => by have := ho _ hm; omega), h.hp.frm (h.frm hg) (fun hm => by have := ho _ hm; omega), h.bel.trans ((h.frm hg).below h.bel.size (fun k hk => by have := ho _ hk; have := h.z; omega))⟩
theorem RdI.push {w w3 w4 : World} {Z P : Nat} {r sl : Bool} {v v' : Value} {ps : List ByteArray} {p : ByteArray} (h : RdI w w3 Z P r sl v ps) (hg : w3.grownBy w4 v.ownBlock) (hw : Win w4 (P + 1) 9 1 v' (ps.length + 1) (strs ps ++ [.string p])) (hp : p.size ≤ 5000) :
    RdI w (w4.setCell ⟨P, 2, none⟩ v') Z P r sl v' (ps ++ [p]) := by
  obtain ⟨g1, g2, g3⟩ := h.grown hg
  have hle := h.le
  refine ⟨g1.other (by simp; omega) _, by simpa using g2.set 2 v' (by simp), ⟨?_, ?_⟩, g3.setCell (by have := h.z; simp; omega) _, h.z, h.le⟩
  · have e : strs (ps ++ [p]) = strs ps ++ [.string p] := by simp [strs]
    rw [e, List.length_append]
    refine hw.frm (l := [P]) ((Frm.refl _ _).setCell (by simp) _) ?_
    intro k hk e
    simp at hk
    have := (hw.lt k e).1
    omega
  · intro q hq
    rcases List.mem_append.1 hq with h' | h'
    · exact h.pt.2 q h'
    · simp at h'; rw [h']; exact hp
set_option maxRecDepth 100000 in
set_option maxHeartbeats 1000000 in
theorem read_any (s : ByteArray) (w : World) : Calls Tryz.prog 83 #[.string s] w (ReadPost w) := by
  go_enter Tryz.func83, Tryz.ntmps83
  go_upto_region 1 with fail
  have HZ : Hid (Holds (w.alloc (.cells #[.bool false, .bool false, .slice none 0 0] 164)) w.heap.size #[.bool false, .bool false, .slice none 0 0]) := Lib.hid (Holds.new _ _ _)
  have HB : Hid (Below w.heap.size w (w.alloc (.cells #[.bool false, .bool false, .slice none 0 0] 164))) := Lib.hid ((Below.refl _ _).alloc (Nat.le_refl _) _)
  generalize w.alloc (.cells #[.bool false, .bool false, .slice none 0 0] 164) = W at *
  obtain ⟨Z, hZ⟩ : ∃ Z, w.heap.size = Z := ⟨_, rfl⟩
  rw [hZ] at HZ ⊢
  have HZZ := Lib.hid hZ
  clear hZ
  have z0 : W.cell? ⟨Z, 0, none⟩ = some (.bool false) := HZ.out.cell 0
  have z1 : W.cell? ⟨Z, 1, none⟩ = some (.bool false) := HZ.out.cell 1
  have z2 : W.cell? ⟨Z, 2, none⟩ = some (.slice none 0 0) := HZ.out.cell 2
  have fz := HZ.out.2.1
  go_wp2_with fail
  · obtain ⟨y1, y2⟩ := zset HZ.out HB.out HZZ.out
    exact read_no rfl rfl rfl y1 y2
  · obtain ⟨y1, y2⟩ := zset HZ.out HB.out HZZ.out
    exact read_no rfl rfl rfl y1 y2
  have hs0 : 0 < s.size ∧ s.size ≤ 4096 := by
    rename_i h1 h2 _ _
    refine ⟨?_, by omega⟩
    rcases Nat.eq_zero_or_pos s.size with h | h
    · have : s.toList = [] := by
        have e : s = ⟨#[]⟩ := by
          cases s with
          | mk d =>
            have : d.size = 0 := h
            rw [Array.eq_empty_of_size_eq_zero this]
        rw [e, ByteArray.toList, ByteArray.toList.loop]
        rfl
      rw [this] at h1
      simp at h1
    · exact h
  go_loopw [4] (fun iv wr => ∃ i : Nat, i ≤ s.size ∧ iv = .int .i64 i ∧ Hid (SameW W wr)) (fun iv _ => s.size - (intOf iv).toNat)
  case atStart => exact ⟨0, by omega, rfl, rfl⟩
  case round =>
    obtain ⟨i, hi, rfl, HW⟩ := hrel
    have hw := HW.out
    unfold SameW at hw
    subst hw
    by_cases hlt : i < s.size
    · have k0 : (0 : Int) ≤ (i : Int) := by omega
      have k1 : (i : Int) < (s.size : Int) := by omega
      go_wp2_with fail
      all_goals
        first
        | (obtain ⟨y1, y2⟩ := zset HZ.out HB.out HZZ.out
           exact read_no (code := 39) rfl rfl rfl y1 y2)
        | (go_roundw
           case rel => exact ⟨i + 1, by omega, by go_num, HW⟩
           case measure => simp [intOf]; omega)
    · obtain rfl : i = s.size := by omega
      have k1 : ¬ (s.size : Int) < (s.size : Int) := by omega
      have k2 : (0 : Int) < (s.size : Int) := by omega
      have k3 : (0 : Int) ≤ (s.size : Int) - 1 := by omega
      have k4 : (s.size : Int) - 1 < (s.size : Int) := by omega
      have hmx : (s.size : Int) ≤ 4096 := by omega
      have k5 : (1 : Int) ≤ (s.size : Int) := by omega
      have k6 : 1 ≤ s.size := by omega
      have kw : IntKind.i64.wrap ((s.size : Int) - 1) = (s.size : Int) - 1 := by rw [IntKind.wrap_i64]; omega
      go_upto_region 10 with fail
      go_region
      generalize ((s[0].toNat : Int) == 47) = r
      generalize ((s[s.size - 1].toNat : Int) == 47) = sl
      have HR : Hid (∃ v ps, ps.length ≤ 0 ∧ RdI w (W.alloc (.cells #[.bool r, .bool sl, .slice none 0 0] 164)).drew Z W.heap.size r sl v ps) := Lib.hid ⟨_, [], by simp, HZ.out.alloc _, Holds.new _ _ _, Parts.nil _ _, (HB.out.alloc HB.out.size _).drew, HZZ.out, HZ.out.lt⟩
      have HP : ∃ P, W.heap.size = P := ⟨_, rfl⟩
      generalize (W.alloc (.cells #[.bool r, .bool sl, .slice none 0 0] 164)).drew = W2 at HR ⊢
      obtain ⟨P, hP⟩ := HP
      rw [hP] at HR ⊢
      clear hP z0 z1 z2 fz HZ HB
      go_wp2_with fail
      go_loopw [7, 6] (fun iv fv wr => ∃ i f : Nat, i ≤ s.size + 1 ∧ f ≤ i ∧ iv = .int .i64 i ∧ fv = .int .i64 f ∧ Hid (∃ v ps, ps.length ≤ i ∧ RdI w wr Z P r sl v ps)) (fun iv _ _ => s.size + 1 - (intOf iv).toNat)
      case atStart => exact ⟨0, 0, by omega, by omega, rfl, rfl, HR⟩
      case round =>
        obtain ⟨i, f, hi, hf, rfl, rfl, HI⟩ := hrel
        have f0 : (0 : Int) ≤ (f : Int) := by omega
        have f1 : (f : Int) ≤ (i : Int) := by omega
        have f2 : f ≤ i := hf
        by_cases hle : i ≤ s.size
        · have c0 : (i : Int) ≤ (s.size : Int) := by omega
          have c1 : (0 : Int) ≤ (i : Int) := by omega
          obtain ⟨v, ps, hps, HJ⟩ := HI.out
          have HJ := Lib.hid HJ
          have p2 : wr.cell? ⟨P, 2, none⟩ = some v := HJ.out.hp.cell 2
          have pf := HJ.out.hp.free 2
          have pl := HJ.out.hp.lt
          obtain ⟨i9, h91, h92, h93, h94⟩ := info_parts info9
          have hso : ∀ u ∈ [Value.string (s.extract f i)], u.oneCell' = true := by simp [Value.oneCell']
          have hsz : (s.extract f i).size ≤ 5000 := by simp; omega
          by_cases hlt : i < s.size
          · have d0 : (i : Int) < (s.size : Int) := by omega
            go_wp2_with fail
            · refine ⟨⟨i + 1, f, by omega, by omega, by simp, rfl, Lib.hid ⟨v, ps, by omega, HJ.out⟩⟩, ?_⟩
              simp [intOf]; omega
            · have cn : ¬ P = wr.heap.size := by omega
              go_upto_region 17 with fail
              go_region_law (first | (refine step_append_win _ rfl (.tmp 57) (.tmp 62) 36 rfl (P + 1) 9 i9 _ 1 16 Tryz.underlying36 h91 h92 h93 h94 rfl (by decide) v ps.length (strs ps) (by simp [Act.eval]) (by first | exact HJ.out.pt.1.alloc _ | exact HJ.out.drew.pt.1.alloc _) ⟨wr.heap.size, 0, none⟩ 1 1 [.string (s.extract f i)] (by simp [Act.eval]) rfl (by first | exact new_cells wr _ _ | exact new_cells wr.drew _ _) hso (by decide) (by unfold maxLen; omega) (by omega) (by simp; omega) ?_; intro f' o' cap' w4 hown hgrow hat; have HP := Lib.hid (by first | exact (HJ.out.alloc _).push hgrow hown hsz | exact (HJ.out.drew.alloc _).push hgrow hown hsz); have q1 : w4.cell? ⟨P, 2, none⟩ = some v := (by first | exact ((HJ.out.alloc _).grown hgrow).2.1.cell 2 | exact ((HJ.out.drew.alloc _).grown hgrow).2.1.cell 2); have qf : w4.frozen? ⟨P, 2, none⟩ = false := (by first | exact ((HJ.out.alloc _).grown hgrow).2.1.free 2 | exact ((HJ.out.drew.alloc _).grown hgrow).2.1.free 2); clear hown hgrow hat))
              all_goals
                clear p2 q1
                go_wp2_with fail
                refine ⟨⟨i + 1, i + 1, by omega, by omega, by simp, by simp, Lib.hid ⟨_, ps ++ [s.extract f i], by simp; omega, by first | exact HP.out | exact HP.out.drew⟩⟩, ?_⟩
                simp [intOf]; omega
            · refine ⟨⟨i + 1, i + 1, by omega, by omega, by simp, by simp, Lib.hid ⟨v, ps, by omega, HJ.out⟩⟩, ?_⟩
              simp [intOf]; omega
          · have d0 : ¬ (i : Int) < (s.size : Int) := by omega
            go_wp2_with fail
            · have cn : ¬ P = wr.heap.size := by omega
              go_upto_region 17 with fail
              go_region_law (first | (refine step_append_win _ rfl (.tmp 57) (.tmp 62) 36 rfl (P + 1) 9 i9 _ 1 16 Tryz.underlying36 h91 h92 h93 h94 rfl (by decide) v ps.length (strs ps) (by simp [Act.eval]) (by first | exact HJ.out.pt.1.alloc _ | exact HJ.out.drew.pt.1.alloc _) ⟨wr.heap.size, 0, none⟩ 1 1 [.string (s.extract f i)] (by simp [Act.eval]) rfl (by first | exact new_cells wr _ _ | exact new_cells wr.drew _ _) hso (by decide) (by unfold maxLen; omega) (by omega) (by simp; omega) ?_; intro f' o' cap' w4 hown hgrow hat; have HP := Lib.hid (by first | exact (HJ.out.alloc _).push hgrow hown hsz | exact (HJ.out.drew.alloc _).push hgrow hown hsz); have q1 : w4.cell? ⟨P, 2, none⟩ = some v := (by first | exact ((HJ.out.alloc _).grown hgrow).2.1.cell 2 | exact ((HJ.out.drew.alloc _).grown hgrow).2.1.cell 2); have qf : w4.frozen? ⟨P, 2, none⟩ = false := (by first | exact ((HJ.out.alloc _).grown hgrow).2.1.free 2 | exact ((HJ.out.drew.alloc _).grown hgrow).2.1.free 2); clear hown hgrow hat))
              all_goals
                clear p2 q1
                go_wp2_with fail
                refine ⟨⟨i + 1, i + 1, by omega, by omega, by simp, by simp, Lib.hid ⟨_, ps ++ [s.extract f i], by simp; omega, by first | exact HP.out | exact HP.out.drew⟩⟩, ?_⟩
                simp [intOf]; omega
            · refine ⟨⟨i + 1, i + 1, by omega, by omega, by simp, by simp, Lib.hid ⟨v, ps, by omega, HJ.out⟩⟩, ?_⟩
              simp [intOf]; omega
        · have c0 : ¬ (i : Int) ≤ (s.size : Int) := by omega
          obtain ⟨v, ps, hps, HJ⟩ := HI.out
          have HJ := Lib.hid HJ
          have p2 : wr.cell? ⟨P, 2, none⟩ = some v := HJ.out.hp.cell 2
          obtain ⟨va, vcap, rfl⟩ := HJ.out.pt.1.value
          go_wp2_with fail
          go_loopw [8] (fun kv wz => ∃ k : Nat, k ≤ ps.length ∧ kv = .int .i64 k ∧ Hid (SameW wr wz)) (fun kv _ => ps.length - (intOf kv).toNat)
          case atStart => exact ⟨0, by omega, rfl, rfl⟩
          case round =>
            obtain ⟨k, hk, rfl, HX⟩ := hrel
            have hw := HX.out
            unfold SameW at hw
            subst hw
            have p0 : wr.cell? ⟨P, 0, none⟩ = some (.bool r) := HJ.out.hp.cell 0
            have p1 : wr.cell? ⟨P, 1, none⟩ = some (.bool sl) := HJ.out.hp.cell 1
            have z0 : wr.cell? ⟨Z, 0, none⟩ = some (.bool false) := HJ.out.hz.cell 0
            have z1 : wr.cell? ⟨Z, 1, none⟩ = some (.bool false) := HJ.out.hz.cell 1
            have z2 : wr.cell? ⟨Z, 2, none⟩ = some (.slice none 0 0) := HJ.out.hz.cell 2
            have fz := HJ.out.hz.2.1
            by_cases hlt : k < ps.length
            · have d0 : (k : Int) < (ps.length : Int) := by omega
              have d1 : (0 : Int) ≤ (k : Int) := by omega
              obtain ⟨F, o, cap, hv⟩ := HJ.out.pt.1.form (by omega)
              cases hv
              obtain ⟨x, hx⟩ : ∃ x, ps[k]? = some x := ⟨_, List.getElem?_eq_getElem hlt⟩
              have u0 : wr.cell? ⟨F, o + k, none⟩ = some (.string x) := by
                have := HJ.out.pt.1.cells k (by omega)
                rw [this, strs, List.getElem?_map, hx]; rfl
              clear p0 p1
              go_wp2_with fail
              all_goals
                first
                | (obtain ⟨y1, y2⟩ := zset HJ.out.hz HJ.out.bel HJ.out.z
                   exact read_no (code := 45) rfl rfl rfl y1 y2)
                | (go_roundw
                   case rel => exact ⟨k + 1, by omega, by go_num, HX⟩
                   case measure => simp [intOf]; omega)
            · obtain rfl : k = ps.length := by omega
              have d0 : ¬ (ps.length : Int) < (ps.length : Int) := by omega
              have hsz : wr.heap.size = wr.heap.size := rfl
              obtain ⟨y1, y2⟩ := zput HJ.out.hz HJ.out.bel HJ.out.z (.bool r) (.bool sl) (.slice va ps.length vcap)
              have y3 : Parts (((wr.setCell ⟨Z, 0, none⟩ (.bool r)).setCell ⟨Z, 1, none⟩ (.bool sl)).setCell ⟨Z, 2, none⟩ (.slice va ps.length vcap)) w.heap.size (.slice va ps.length vcap) ps := by
                obtain ⟨q1, q2⟩ := HJ.out.pt
                have hle := HJ.out.le
                have hz := HJ.out.z
                refine ⟨(q1.frm (l := [Z]) ((((Frm.refl _ _).setCell (by simp) _).setCell (by simp) _).setCell (by simp) _) ?_).of_base (by omega), q2⟩
                intro k hk e
                simp at hk
                have := (q1.lt k e).1
                omega
              have y4 : ps.length ≤ 5000 := by omega
              have Y := Lib.hid (And.intro y1 (And.intro y2 (And.intro y3 y4)))
              clear y1 y2 y3 y4
              go_wp2_with fail
              exact bodyPost_ret (path_out rfl rfl rfl (Y.out.1.cell 0) (Y.out.1.cell 1) (Y.out.1.cell 2)) rfl ⟨r, sl, _, ps, _, rfl, Y.out.2.2.1, Y.out.2.2.2, Y.out.2.1⟩
end Go.Proofs.YtfjghemojnhmbaaGreat
