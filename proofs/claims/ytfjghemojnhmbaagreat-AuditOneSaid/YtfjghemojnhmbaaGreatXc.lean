/- The world of chapter 13: what is passed on. -/
import Derived.Test.YtfjghemojnhmbaaGreatWv
import Derived.Test.YtfjghemojnhmbaaGreatWw
import Derived.Test.YtfjghemojnhmbaaGreatXa
namespace Go.Proofs.YtfjghemojnhmbaaGreat
open Go.RowKit

theorem Rmem.vals {w w' : World} {S S' : Nat → Prop} {r : Res} {y z : Value} (h : Rmem w w' S S' r y z) : (∃ a n c, y = .slice a n c) ∧ ∃ a n c, z = .slice a n c := by
  rcases h with ⟨rfl, rfl, _⟩ | ⟨_, h1, h2, _⟩
  · exact ⟨⟨_, _, _, rfl⟩, ⟨_, _, _, rfl⟩⟩
  · obtain ⟨a, c, e⟩ := h1.value
    obtain ⟨a', c', e'⟩ := h2.value
    exact ⟨⟨_, _, _, e⟩, ⟨_, _, _, e'⟩⟩
theorem From.low {B B' : Nat} {v : Value} (h : From B v) (hb : B' ≤ B) : From B' v := fun a n c e => Nat.le_trans hb (h a n c e)
/-- What another call on names answered is passed on. -/
theorem ask_pass {S S' : Nat → Prop} {w X X2 : World} {t c' E F : Nat} {bs' : List Nat} {R : Nat → Nat} {T T' : List (Option Nd)} {op m n : Int} {fn : Func} {a b : Nat} {r : Res} {y z : Value} (hbw : Below w.heap.size w X) (hr : fn.results = #[.cell a 40, .cell b 75]) (hE : Blk X E 40 rz) (hF : Blk X F 75 #[.int .i64 0, .int .i64 0]) (wE : w.heap.size ≤ E) (wF : w.heap.size ≤ F) (hEF : E ≠ F)
    (hs : TStep S S' t c' bs' X X2 T') (hi : TInv T' R none) (hk : KK T T') (hm : Rmem X X2 S S' r y z) (hf : fldI op r = true) (hp : op = 17 → r.w = 0 → PlaceOk T' m n) :
    (Blk X2 E 40 rz ∧ Blk X2 F 75 #[.int .i64 0, .int .i64 0]) ∧ ∀ tm : Array Value, tm.getD a undef = .pointer (some ⟨E, 0, none⟩) → tm.getD b undef = .pointer (some ⟨F, 0, none⟩) → bodyPost Tryz.prog fn (AskP S t c' R T op w) .ret ⟨tm, []⟩ (pl2 (res11 X2 E (.int .i64 r.w) (.int .i64 r.n) y z (.int .i64 r.s0) (.int .i64 r.s1) (.int .i64 r.s2) (.int .i64 r.s3) (.int .i64 r.s4) (.int .i64 r.s5) (.int .i64 r.s6)) F (.int .i64 m) (.int .i64 n)) := by
  have e1 : Blk X2 E 40 rz := hE.fr hs.fr (by decide)
  have e2 : Blk X2 F 75 #[.int .i64 0, .int .i64 0] := hF.fr hs.fr (by decide)
  refine ⟨⟨e1, e2⟩, fun tm h4 h5 => ?_⟩
  refine ask_fin r y z hr (hs.below hbw) hi hk e1 e2 wE wF hEF ?_ ?_ hf hp h4 h5
  · rcases hm with h | ⟨h1, h2, h3, h4, h5⟩
    · exact .inl h
    · exact .inr ⟨h1, h2, h3, h4.low hbw.size, h5.low hbw.size⟩
  · rcases hm with ⟨rfl, rfl, _⟩ | ⟨h1, h2, h3, h4, h5⟩
    · exact ⟨off_nil _, off_nil _, off_nil _, off_nil _⟩
    · exact ⟨h4.offB hE.lt, h4.offB hF.lt, h5.offB hE.lt, h5.offB hF.lt⟩
/-- What the calls on names do, mounts too. -/
def D13P (S : Nat → Prop) (t c tb : Nat) (Rb : Nat → Nat) (T : List (Option Nd)) (op : Int) (w : World) (e : Ending) (w' : World) : Prop := ∃ (r : Res) (y z : Value) (m n : Int) (S' : Nat → Prop) (bs' : List Nat) (T' : List (Option Nd)) (tv' : Value) (l' : List Mt), e = .returned (.tuple #[.agg (r.cells y z).toArray, .agg #[.int .i64 m, .int .i64 n]]) ∧
  WStep S S' t c tb bs' tv' w w' T' l' ∧ TInv T' (fun k => mrefs l' k + Rb k) none ∧ KK T T' ∧ MInv l' ∧ ML T' l' ∧ M0 l' ∧ l'.length ≤ c ∧ Rmem w w' S S' r y z ∧ fldI op r = true ∧ (op = 17 → r.w = 0 → PlaceOk T' m n)
theorem D13P.ask {S : Nat → Prop} {w : World} {t c c' : Nat} {bs : List Nat} {T : List (Option Nd)} {tb : Nat} {tv : Value} {l : List Mt} {Rb : Nat → Nat} {op : Int} {e : Ending} {w' : World} (hc : WI S w t c bs T tb tv l Rb) (hcc : c ≤ c') (h : AskP S t c' (fun k => mrefs l k + Rb k) T op w e w') : D13P S t c' tb Rb T op w e w' := by
  obtain ⟨r, y, z, m, n, S', bs', T', rfl, hs, hi, hk, hm, hf, hp⟩ := h
  exact ⟨r, y, z, m, n, S', bs', T', tv, l, rfl, WStep.tree hs hc.tab, hi, hk, hc.mi, hc.ml.kept hi hk (fun _ _ h _ => h) hc.m0, hc.m0, Nat.le_trans hc.ll hcc, hm, hf, hp⟩
theorem TabAt.fresh {S : Nat → Prop} {w : World} {tb : Nat} {tv : Value} {l : List Mt} {b i : Nat} {e : TypeId} {cs : Array Value} (h : TabAt S w tb tv l) (hb : Blk w b e cs) (h1 : e ≠ 115) (h2 : e ≠ 112) (v : Value) : TabAt S (w.setCell ⟨b, i, none⟩ v) tb tv l :=
  h.fr (T := [e]) (fun _ h => h) (Fr.one (S := fun _ => True) hb trivial (by simp) v) (fun q => h1 (List.mem_singleton.1 q).symm) (fun q => h2 (List.mem_singleton.1 q).symm)
theorem TabAt.res {S : Nat → Prop} {X : World} {tb : Nat} {tv : Value} {l : List Mt} {E : Nat} (h : TabAt S X tb tv l) (hb : Blk X E 40 rz) (a0 a1 a2 a3 a4 a5 a6 a7 a8 a9 a10 : Value) : TabAt S (res11 X E a0 a1 a2 a3 a4 a5 a6 a7 a8 a9 a10) tb tv l := by
  have q : ∀ {Y : World} {cs : Array Value} (i : Nat) (v : Value), TabAt S Y tb tv l ∧ Blk Y E 40 cs → TabAt S (Y.setCell ⟨E, i, none⟩ v) tb tv l ∧ Blk (Y.setCell ⟨E, i, none⟩ v) E 40 (cs.setIfInBounds i v) := fun i v hq => ⟨hq.1.fresh hq.2 (by decide) (by decide) v, hq.2.set i v⟩
  unfold res11
  exact (q 10 a10 (q 9 a9 (q 8 a8 (q 7 a7 (q 6 a6 (q 5 a5 (q 4 a4 (q 3 a3 (q 2 a2 (q 1 a1 (q 0 a0 ⟨h, hb⟩))))))))))).1
theorem TabAt.pl {S : Nat → Prop} {X : World} {tb : Nat} {tv : Value} {l : List Mt} {F : Nat} (h : TabAt S X tb tv l) (hb : Blk X F 75 #[.int .i64 0, .int .i64 0]) (m n : Value) : TabAt S (pl2 X F m n) tb tv l := by
  unfold pl2
  exact (h.fresh hb (by decide) (by decide) m).fresh (hb.set 0 m) (by decide) (by decide) n
theorem Fr.ask {S : Nat → Prop} {Ts : List TypeId} {w X : World} (h : Fr S Ts w X) {E F : Nat} (hE : w.heap.size ≤ E) (hF : w.heap.size ≤ F) (a0 a1 a2 a3 a4 a5 a6 a7 a8 a9 a10 m n : Value) : Fr S Ts w (pl2 (res11 X E a0 a1 a2 a3 a4 a5 a6 a7 a8 a9 a10) F m n) := by
  unfold pl2 res11
  exact ((((((((((((h.fresh hE _).fresh hE _).fresh hE _).fresh hE _).fresh hE _).fresh hE _).fresh hE _).fresh hE _).fresh hE _).fresh hE _).fresh hE _).fresh hF _).fresh hF _
theorem tr_res {S : Nat → Prop} {X : World} {t c E : Nat} {bs : List Nat} {T : List (Option Nd)} (h : TR S X t c bs T) (hb : Blk X E 40 rz) (a0 a1 a2 a3 a4 a5 a6 a7 a8 a9 a10 : Value) : TR S (res11 X E a0 a1 a2 a3 a4 a5 a6 a7 a8 a9 a10) t c bs T := by
  have q : ∀ {Y : World} {cs : Array Value} (i : Nat) (v : Value), TR S Y t c bs T ∧ Blk Y E 40 cs → TR S (Y.setCell ⟨E, i, none⟩ v) t c bs T ∧ Blk (Y.setCell ⟨E, i, none⟩ v) E 40 (cs.setIfInBounds i v) := fun i v hq => ⟨hq.1.fresh hq.2 (by decide) (by decide) v, hq.2.set i v⟩
  unfold res11
  exact (q 10 a10 (q 9 a9 (q 8 a8 (q 7 a7 (q 6 a6 (q 5 a5 (q 4 a4 (q 3 a3 (q 2 a2 (q 1 a1 (q 0 a0 ⟨h, hb⟩))))))))))).1
theorem tr_pl {S : Nat → Prop} {X : World} {t c F : Nat} {bs : List Nat} {T : List (Option Nd)} (h : TR S X t c bs T) (hb : Blk X F 75 #[.int .i64 0, .int .i64 0]) (m n : Value) : TR S (pl2 X F m n) t c bs T := by
  unfold pl2
  exact (h.fresh hb (by decide) (by decide) m).fresh (hb.set 0 m) (by decide) (by decide) n
/-- What is left when mounts were turned and the number is told. -/
theorem ask_mnt {S : Nat → Prop} {w X X2 X3 : World} {t c' tb E F : Nat} {Rb : Nat → Nat} {T : List (Option Nd)} {op code : Int} {fn : Func} {a b : Nat} (hbw : Below w.heap.size w X) (hr : fn.results = #[.cell a 40, .cell b 75]) (hE : Blk X E 40 rz) (hF : Blk X F 75 #[.int .i64 0, .int .i64 0]) (wE : w.heap.size ≤ E) (wF : w.heap.size ≤ F) (hEF : E ≠ F)
    (h : MtP S t c' tb Rb T X (.returned (.int .i64 code)) X2) (hb : Below X2.heap.size X2 X3) (hop : op ≠ 14 ∧ op ≠ 17) :
    (Blk X3 E 40 rz ∧ Blk X3 F 75 #[.int .i64 0, .int .i64 0]) ∧ ∀ tm : Array Value, tm.getD a undef = .pointer (some ⟨E, 0, none⟩) → tm.getD b undef = .pointer (some ⟨F, 0, none⟩) → bodyPost Tryz.prog fn (D13P S t c' tb Rb T op w) .ret ⟨tm, []⟩ (pl2 (res11 X3 E (.int .i64 code) (.int .i64 0) (.slice none 0 0) (.slice none 0 0) (.int .i64 0) (.int .i64 0) (.int .i64 0) (.int .i64 0) (.int .i64 0) (.int .i64 0) (.int .i64 0)) F (.int .i64 0) (.int .i64 0)) := by
  obtain ⟨code2, S', bs', T', tv', l', he, hs, hi, hk, h1, h2, h3, h4⟩ := h
  cases he
  have e1 : Blk X3 E 40 rz := (hE.fr hs.fr (by decide)).below hb
  have e2 : Blk X3 F 75 #[.int .i64 0, .int .i64 0] := (hF.fr hs.fr (by decide)).below hb
  refine ⟨⟨e1, e2⟩, fun tm q4 q5 => ?_⟩
  have hst : WStep S S' t c' tb bs' tv' w X3 T' l' := (hs.trans (WStep.same hs.tr hs.tab hb)).below hbw
  have f1 : Blk (res11 X3 E (.int .i64 code) (.int .i64 0) (.slice none 0 0) (.slice none 0 0) (.int .i64 0) (.int .i64 0) (.int .i64 0) (.int .i64 0) (.int .i64 0) (.int .i64 0) (.int .i64 0)) F 75 #[.int .i64 0, .int .i64 0] := e2.resO hEF (.int .i64 code) (.int .i64 0) (.slice none 0 0) (.slice none 0 0) (.int .i64 0) (.int .i64 0) (.int .i64 0) (.int .i64 0) (.int .i64 0) (.int .i64 0) (.int .i64 0)
  have f2 : TR S' (pl2 (res11 X3 E (.int .i64 code) (.int .i64 0) (.slice none 0 0) (.slice none 0 0) (.int .i64 0) (.int .i64 0) (.int .i64 0) (.int .i64 0) (.int .i64 0) (.int .i64 0) (.int .i64 0)) F (.int .i64 0) (.int .i64 0)) t c' bs' T' := tr_pl (tr_res hst.tr e1 (.int .i64 code) (.int .i64 0) (.slice none 0 0) (.slice none 0 0) (.int .i64 0) (.int .i64 0) (.int .i64 0) (.int .i64 0) (.int .i64 0) (.int .i64 0) (.int .i64 0)) f1 (.int .i64 0) (.int .i64 0)
  have b1 := e1.res (.int .i64 code) (.int .i64 0) (.slice none 0 0) (.slice none 0 0) (.int .i64 0) (.int .i64 0) (.int .i64 0) (.int .i64 0) (.int .i64 0) (.int .i64 0) (.int .i64 0)
  refine bodyPost_ret (ask_out hr q4 q5 (b1.plO (fun q => hEF q.symm) _ _).holds (f1.pl _ _).holds) rfl ⟨Res.no code, .slice none 0 0, .slice none 0 0, 0, 0, S', bs', T', tv', l', rfl, ⟨hst.sub, hst.sup, hst.fr.ask wE wF (.int .i64 code) (.int .i64 0) (.slice none 0 0) (.slice none 0 0) (.int .i64 0) (.int .i64 0) (.int .i64 0) (.int .i64 0) (.int .i64 0) (.int .i64 0) (.int .i64 0) (.int .i64 0) (.int .i64 0), f2, (hst.tab.res e1 (.int .i64 code) (.int .i64 0) (.slice none 0 0) (.slice none 0 0) (.int .i64 0) (.int .i64 0) (.int .i64 0) (.int .i64 0) (.int .i64 0) (.int .i64 0) (.int .i64 0)).pl f1 (.int .i64 0) (.int .i64 0)⟩, hi, hk, h1, h2, h3, h4, .inl ⟨rfl, rfl, rfl, rfl⟩, fld_no (.inr hop.1), fun h => absurd h hop.2⟩
/-- Which calls chapter 13 knows. -/
def isN (op : Int) : Bool := if op = 3 ∨ op = 4 ∨ op = 5 ∨ op = 6 ∨ op = 7 then false else decide (1 ≤ op ∧ op ≤ 20)
set_option maxRecDepth 100000 in
theorem isop_any (op : Int) (w : World) : Calls Tryz.prog 22 #[.int .i64 op] w fun e w' => e = .returned (.bool (isN op)) ∧ w = w' := by
  by_cases h3 : op = 3
  · subst h3
    go_enter Tryz.func22, Tryz.ntmps22
    go_wp2_with fail
    go_ret
    exact ⟨by simp [isN], rfl⟩
  by_cases h4 : op = 4
  · subst h4
    go_enter Tryz.func22, Tryz.ntmps22
    go_wp2_with fail
    go_ret
    exact ⟨by simp [isN], rfl⟩
  by_cases h5 : op = 5
  · subst h5
    go_enter Tryz.func22, Tryz.ntmps22
    go_wp2_with fail
    go_ret
    exact ⟨by simp [isN], rfl⟩
  by_cases h6 : op = 6
  · subst h6
    go_enter Tryz.func22, Tryz.ntmps22
    go_wp2_with fail
    go_ret
    exact ⟨by simp [isN], rfl⟩
  by_cases h7 : op = 7
  · subst h7
    go_enter Tryz.func22, Tryz.ntmps22
    go_wp2_with fail
    go_ret
    exact ⟨by simp [isN], rfl⟩
  have e3 : (op == 3) = false := by simpa using h3
  have e4 : (op == 4) = false := by simpa using h4
  have e5 : (op == 5) = false := by simpa using h5
  have e6 : (op == 6) = false := by simpa using h6
  have e7 : (op == 7) = false := by simpa using h7
  have H : Hid (isN op = decide (1 ≤ op ∧ op ≤ 20)) := Lib.hid (by unfold isN; rw [if_neg (by omega)])
  clear h3 h4 h5 h6 h7
  by_cases h1 : 1 ≤ op
  · by_cases h2 : op ≤ 20
    · have H2 : Hid (isN op = true) := Lib.hid (by rw [H.out]; simp [h1, h2])
      go_enter Tryz.func22, Tryz.ntmps22
      go_wp2_with fail
      go_ret
      exact ⟨by rw [H2.out]; rfl, rfl⟩
    · have H2 : Hid (isN op = false) := Lib.hid (by rw [H.out]; simp [h2])
      go_enter Tryz.func22, Tryz.ntmps22
      go_wp2_with fail
      go_ret
      exact ⟨by rw [H2.out]; rfl, rfl⟩
  · have H2 : Hid (isN op = false) := Lib.hid (by rw [H.out]; simp [h1])
    go_enter Tryz.func22, Tryz.ntmps22
    go_wp2_with fail
    go_ret
    exact ⟨by rw [H2.out]; rfl, rfl⟩
theorem asks_any {S : Nat → Prop} {w : World} {t c : Nat} {bs : List Nat} {T : List (Option Nd)} {tb : Nat} {tv : Value} {l : List Mt} (hc : Ctx S w t c bs T tb tv l) (ua : Option Addr) (un uc : Nat) (cm cn : Int) (hcn : R64 cn) (cr : Cr) {R : Nat → Nat} (hi : TInv T R none) (q : Cl) : Calls Tryz.prog 42 #[Wld t tb ua un uc, Who cm cn cr, q.val] w (AskP S t (c + 3) R T q.op w) := by
  obtain ⟨op, path, dest, fd, flags, mode, n, m, da, dl, dc⟩ := q
  by_cases h12 : op = 12
  · subst h12; exact asks12 hc ua un uc cm cn hcn cr hi ⟨12, path, dest, fd, flags, mode, n, m, da, dl, dc⟩
  by_cases h14 : op = 14
  · subst h14; exact asks14 hc ua un uc cm cn hcn cr hi ⟨14, path, dest, fd, flags, mode, n, m, da, dl, dc⟩
  by_cases h15 : op = 15
  · subst h15; exact asks15 hc ua un uc cm cn hcn cr hi ⟨15, path, dest, fd, flags, mode, n, m, da, dl, dc⟩
  by_cases h16 : op = 16
  · subst h16; exact asks16 hc ua un uc cm cn hcn cr hi ⟨16, path, dest, fd, flags, mode, n, m, da, dl, dc⟩
  by_cases h8 : op = 8
  · subst h8; exact asks8 hc ua un uc cm cn hcn cr hi ⟨8, path, dest, fd, flags, mode, n, m, da, dl, dc⟩
  by_cases h18 : op = 18
  · subst h18; exact asks18 hc ua un uc cm cn hcn cr hi ⟨18, path, dest, fd, flags, mode, n, m, da, dl, dc⟩
  exact asksE hc ua un uc cm cn hcn cr hi ⟨op, path, dest, fd, flags, mode, n, m, da, dl, dc⟩ (by simpa using h12) (by simpa using h14) (by simpa using h15) (by simpa using h16) (by simpa using h8) (by simpa using h18) (by simpa using h12)
end Go.Proofs.YtfjghemojnhmbaaGreat
/- The calls of chapter 13. -/
namespace Go.Proofs.YtfjghemojnhmbaaGreat
open Go.RowKit

set_option maxRecDepth 100000 in
set_option maxHeartbeats 4000000 in
theorem do13_two {S : Nat → Prop} {w : World} {t c : Nat} {bs : List Nat} {T : List (Option Nd)} {tb : Nat} {tv : Value} {l : List Mt} {Rb : Nat → Nat} (hc : WI S w t c bs T tb tv l Rb) (ua : Option Addr) (un uc : Nat) (us : List Int) (hU : Ints w 0 (.slice ua un uc) us) (cm cn : Int) (hcn : R64 cn) (cr : Cr) (q : Cl) (hp : q.path.size ≤ 5000) (o : Int) (ho : o = 9 ∨ o = 11 ∨ o = 13) :
    Calls Tryz.prog 23 #[Wld t tb ua un uc, Who cm cn cr, .agg #[.int .i64 o, .string q.path, .string q.dest, .int .i64 q.fd, .int .i64 q.flags, .int .i64 q.mode, .int .i64 q.n, .int .i64 q.m, .slice q.da q.dl q.dc]] w (AskP S t (c + 3) (fun k => mrefs l k + Rb k) T o w) := by
  have HC := Lib.hid (And.intro hc (And.intro hU (And.intro hcn hp)))
  clear hc hU hcn hp
  have C22 := Lib.hid (fun X => isop_any o X)
  have his : isN o = true := by rcases ho with rfl | rfl | rfl <;> decide
  rw [his] at C22
  have HOP : Hid (o ≠ 14 ∧ o ≠ 17) := Lib.hid (by omega)
  have C38 : Hid (∀ (n : Int) (X : World), Calls Tryz.prog 38 #[.int .i64 n] X fun e w' => e = .returned (.agg #[.int .i64 n, .int .i64 0, .slice none 0 0, .slice none 0 0, .int .i64 0, .int .i64 0, .int .i64 0, .int .i64 0, .int .i64 0, .int .i64 0, .int .i64 0]) ∧ Below X.heap.size X w') := Lib.hid no13_any
  have CC : Hid (∀ X, Below w.heap.size w X → Calls Tryz.prog 39 #[.agg #[.pointer (some ⟨t, 0, none⟩), .pointer (some ⟨tb, 0, none⟩), .int .i64 0, .int .i64 1, .slice ua un uc], .agg #[.int .i64 cm, .int .i64 cn, .int .i64 cr.u, .int .i64 cr.g], .agg #[.int .i64 o, .string q.path, .string q.dest, .int .i64 q.fd, .int .i64 q.flags, .int .i64 q.mode, .int .i64 q.n, .int .i64 q.m, .slice q.da q.dl q.dc]] X (WOp S t (c + 3) (fun k => mrefs l k + Rb k) T X)) := Lib.hid fun X hX => two_any (HC.out.1.ctx.below hX) ua un uc cm cn HC.out.2.2.1 cr HC.out.1.inv ⟨o, q.path, q.dest, q.fd, q.flags, q.mode, q.n, q.m, q.da, q.dl, q.dc⟩ HC.out.2.2.2
  clear his
  rcases ho with rfl | rfl | rfl
  all_goals
    unfold Wld Who
    go_enter Tryz.func23, Tryz.ntmps23
    go_upto_region 1 with fail
    refine box5g (fun W hbx hnx => ?_)
    have H1B := Lib.hid hbx
    have H1 := Lib.hid hnx
    clear hbx hnx
    generalize hF : w.heap.size + 1 + 1 + 1 + 1 = F at H1 ⊢
    generalize hE : w.heap.size + 1 + 1 + 1 = E at H1 ⊢
    generalize hC : w.heap.size + 1 + 1 = C at H1 ⊢
    generalize hB : w.heap.size + 1 = B at H1 ⊢
    obtain ⟨A, hA⟩ : ∃ A, w.heap.size = A := ⟨_, rfl⟩
    rw [hA] at H1 ⊢
    have H1E : Hid (w.heap.size = A ∧ w.heap.size + 1 = B ∧ w.heap.size + 2 = C ∧ w.heap.size + 3 = E ∧ w.heap.size + 4 = F) := Lib.hid (by omega)
    clear hA hB hC hE hF
    have HQ := Lib.hid fun (X : World) (hX : Below W.heap.size W X) => And.intro (H1.out.1.below hX).k5 (And.intro (H1.out.2.1.below hX).k4 (And.intro (H1.out.2.2.1.below hX).k9 (And.intro (H1.out.2.2.2.1.below hX).k11 (And.intro (H1.out.2.2.2.2.below hX).k2 (And.intro (H1.out.2.2.2.1.below hX).free ((H1.out.2.2.2.2.below hX).free))))))
    obtain ⟨⟨e0, e1, e2, e3, e4⟩, ⟨e5, e6, e7, e8⟩, ⟨e9, e10, e11, e12, e13, e14, e15, e16, e17⟩, ⟨e18, e19, e20, e21, e22, e23, e24, e25, e26, e27, e28⟩, ⟨e29, e30⟩, e31, e32⟩ := HQ.out _ (Below.refl _ _)
    have HB : Hid (Below W.heap.size W W) := Lib.hid (Below.refl _ _)
    have HBW : Hid (∀ X, Below W.heap.size W X → Below w.heap.size w X) := Lib.hid fun X hX => H1B.out.trans (hX.mono H1B.out.size)
    have HEF : Hid (Blk W E 40 rz ∧ Blk W F 75 #[.int .i64 0, .int .i64 0] ∧ w.heap.size ≤ E ∧ w.heap.size ≤ F ∧ E ≠ F) := Lib.hid ⟨H1.out.2.2.2.1, H1.out.2.2.2.2, by have := H1E.out; omega, by have := H1E.out; omega, by have := H1E.out; omega⟩
    have nFE : ¬ F = E := by have := H1E.out; omega
    have nEF : ¬ E = F := by have := H1E.out; omega
    go_wp2_with (first | (go_at_call 22; (with_reducible refine (C22.out _).mono ?_); rintro e wn ⟨rfl, hw⟩; subst hw) | (go_at_call 39; (with_reducible refine (CC.out _ (HBW.out _ HB.out)).mono ?_); rintro e wn hm; obtain ⟨code2, rfl, hw⟩ := WOp.below (Below.refl _ _) hm; have HM := Lib.hid hw; clear hw hm; have HBM := Lib.hid HB.out; clear HB e0 e1 e2 e3 e4 e5 e6 e7 e8 e9 e10 e11 e12 e13 e14 e15 e16 e17 e18 e19 e20 e21 e22 e23 e24 e25 e26 e27 e28 e29 e30 e31 e32) | (go_at_call 38; (with_reducible refine (C38.out _ _).mono ?_); rintro e wm ⟨rfl, hb⟩; have HX := Lib.hid (ask_mut (fn := Tryz.f23) (a := 6) (b := 7) HC.out.1.ctx (HBW.out _ HBM.out) rfl (HEF.out.1.below HBM.out) (HEF.out.2.1.below HBM.out) HEF.out.2.2.1 HEF.out.2.2.2.1 HEF.out.2.2.2.2 HM.out hb HOP.out); clear hb; obtain ⟨r0, r1, r2, r3, r4, r5, r6, r7, r8, r9, r10, rf⟩ := rz_cells HX.out.1.1; obtain ⟨p0, p1, pf⟩ := p2_cells HX.out.1.2; replace HX := Lib.hid HX.out.2; unfold res11 pl2 at HX))
    with_reducible exact HX.out _ rfl rfl
set_option maxRecDepth 100000 in
set_option maxHeartbeats 4000000 in
theorem do13_one {S : Nat → Prop} {w : World} {t c : Nat} {bs : List Nat} {T : List (Option Nd)} {tb : Nat} {tv : Value} {l : List Mt} {Rb : Nat → Nat} (hc : WI S w t c bs T tb tv l Rb) (ua : Option Addr) (un uc : Nat) (us : List Int) (hU : Ints w 0 (.slice ua un uc) us) (cm cn : Int) (hcn : R64 cn) (cr : Cr) (q : Cl) (hp : q.path.size ≤ 5000) (o : Int) (ho : o = 1 ∨ o = 2 ∨ o = 10) :
    Calls Tryz.prog 23 #[Wld t tb ua un uc, Who cm cn cr, .agg #[.int .i64 o, .string q.path, .string q.dest, .int .i64 q.fd, .int .i64 q.flags, .int .i64 q.mode, .int .i64 q.n, .int .i64 q.m, .slice q.da q.dl q.dc]] w (AskP S t (c + 3) (fun k => mrefs l k + Rb k) T o w) := by
  have HC := Lib.hid (And.intro hc (And.intro hU (And.intro hcn hp)))
  clear hc hU hcn hp
  have C22 := Lib.hid (fun X => isop_any o X)
  have his : isN o = true := by rcases ho with rfl | rfl | rfl <;> decide
  rw [his] at C22
  have HOP : Hid (o ≠ 14 ∧ o ≠ 17) := Lib.hid (by omega)
  have C38 : Hid (∀ (n : Int) (X : World), Calls Tryz.prog 38 #[.int .i64 n] X fun e w' => e = .returned (.agg #[.int .i64 n, .int .i64 0, .slice none 0 0, .slice none 0 0, .int .i64 0, .int .i64 0, .int .i64 0, .int .i64 0, .int .i64 0, .int .i64 0, .int .i64 0]) ∧ Below X.heap.size X w') := Lib.hid no13_any
  have CC : Hid (∀ X, Below w.heap.size w X → Calls Tryz.prog 41 #[.agg #[.pointer (some ⟨t, 0, none⟩), .pointer (some ⟨tb, 0, none⟩), .int .i64 0, .int .i64 1, .slice ua un uc], .agg #[.int .i64 cm, .int .i64 cn, .int .i64 cr.u, .int .i64 cr.g], .agg #[.int .i64 o, .string q.path, .string q.dest, .int .i64 q.fd, .int .i64 q.flags, .int .i64 q.mode, .int .i64 q.n, .int .i64 q.m, .slice q.da q.dl q.dc]] X (WOp S t (c + 3) (fun k => mrefs l k + Rb k) T X)) := Lib.hid fun X hX => one_any (HC.out.1.ctx.below hX) ua un uc cm cn HC.out.2.2.1 cr HC.out.1.inv ⟨o, q.path, q.dest, q.fd, q.flags, q.mode, q.n, q.m, q.da, q.dl, q.dc⟩
  clear his
  rcases ho with rfl | rfl | rfl
  all_goals
    unfold Wld Who
    go_enter Tryz.func23, Tryz.ntmps23
    go_upto_region 1 with fail
    refine box5g (fun W hbx hnx => ?_)
    have H1B := Lib.hid hbx
    have H1 := Lib.hid hnx
    clear hbx hnx
    generalize hF : w.heap.size + 1 + 1 + 1 + 1 = F at H1 ⊢
    generalize hE : w.heap.size + 1 + 1 + 1 = E at H1 ⊢
    generalize hC : w.heap.size + 1 + 1 = C at H1 ⊢
    generalize hB : w.heap.size + 1 = B at H1 ⊢
    obtain ⟨A, hA⟩ : ∃ A, w.heap.size = A := ⟨_, rfl⟩
    rw [hA] at H1 ⊢
    have H1E : Hid (w.heap.size = A ∧ w.heap.size + 1 = B ∧ w.heap.size + 2 = C ∧ w.heap.size + 3 = E ∧ w.heap.size + 4 = F) := Lib.hid (by omega)
    clear hA hB hC hE hF
    have HQ := Lib.hid fun (X : World) (hX : Below W.heap.size W X) => And.intro (H1.out.1.below hX).k5 (And.intro (H1.out.2.1.below hX).k4 (And.intro (H1.out.2.2.1.below hX).k9 (And.intro (H1.out.2.2.2.1.below hX).k11 (And.intro (H1.out.2.2.2.2.below hX).k2 (And.intro (H1.out.2.2.2.1.below hX).free ((H1.out.2.2.2.2.below hX).free))))))
    obtain ⟨⟨e0, e1, e2, e3, e4⟩, ⟨e5, e6, e7, e8⟩, ⟨e9, e10, e11, e12, e13, e14, e15, e16, e17⟩, ⟨e18, e19, e20, e21, e22, e23, e24, e25, e26, e27, e28⟩, ⟨e29, e30⟩, e31, e32⟩ := HQ.out _ (Below.refl _ _)
    have HB : Hid (Below W.heap.size W W) := Lib.hid (Below.refl _ _)
    have HBW : Hid (∀ X, Below W.heap.size W X → Below w.heap.size w X) := Lib.hid fun X hX => H1B.out.trans (hX.mono H1B.out.size)
    have HEF : Hid (Blk W E 40 rz ∧ Blk W F 75 #[.int .i64 0, .int .i64 0] ∧ w.heap.size ≤ E ∧ w.heap.size ≤ F ∧ E ≠ F) := Lib.hid ⟨H1.out.2.2.2.1, H1.out.2.2.2.2, by have := H1E.out; omega, by have := H1E.out; omega, by have := H1E.out; omega⟩
    have nFE : ¬ F = E := by have := H1E.out; omega
    have nEF : ¬ E = F := by have := H1E.out; omega
    go_wp2_with (first | (go_at_call 22; (with_reducible refine (C22.out _).mono ?_); rintro e wn ⟨rfl, hw⟩; subst hw) | (go_at_call 41; (with_reducible refine (CC.out _ (HBW.out _ HB.out)).mono ?_); rintro e wn hm; obtain ⟨code2, rfl, hw⟩ := WOp.below (Below.refl _ _) hm; have HM := Lib.hid hw; clear hw hm; have HBM := Lib.hid HB.out; clear HB e0 e1 e2 e3 e4 e5 e6 e7 e8 e9 e10 e11 e12 e13 e14 e15 e16 e17 e18 e19 e20 e21 e22 e23 e24 e25 e26 e27 e28 e29 e30 e31 e32) | (go_at_call 38; (with_reducible refine (C38.out _ _).mono ?_); rintro e wm ⟨rfl, hb⟩; have HX := Lib.hid (ask_mut (fn := Tryz.f23) (a := 6) (b := 7) HC.out.1.ctx (HBW.out _ HBM.out) rfl (HEF.out.1.below HBM.out) (HEF.out.2.1.below HBM.out) HEF.out.2.2.1 HEF.out.2.2.2.1 HEF.out.2.2.2.2 HM.out hb HOP.out); clear hb; obtain ⟨r0, r1, r2, r3, r4, r5, r6, r7, r8, r9, r10, rf⟩ := rz_cells HX.out.1.1; obtain ⟨p0, p1, pf⟩ := p2_cells HX.out.1.2; replace HX := Lib.hid HX.out.2; unfold res11 pl2 at HX))
    with_reducible exact HX.out _ rfl rfl
set_option maxRecDepth 100000 in
set_option maxHeartbeats 4000000 in
theorem do13_mnt {S : Nat → Prop} {w : World} {t c : Nat} {bs : List Nat} {T : List (Option Nd)} {tb : Nat} {tv : Value} {l : List Mt} {Rb : Nat → Nat} (hc : WI S w t c bs T tb tv l Rb) (ua : Option Addr) (un uc : Nat) (us : List Int) (hU : Ints w 0 (.slice ua un uc) us) (cm cn : Int) (hcn : R64 cn) (cr : Cr) (q : Cl) (hp : q.path.size ≤ 5000) (o : Int) (ho : o = 19 ∨ o = 20) :
    Calls Tryz.prog 23 #[Wld t tb ua un uc, Who cm cn cr, .agg #[.int .i64 o, .string q.path, .string q.dest, .int .i64 q.fd, .int .i64 q.flags, .int .i64 q.mode, .int .i64 q.n, .int .i64 q.m, .slice q.da q.dl q.dc]] w (D13P S t (c + 3) tb Rb T o w) := by
  have HC := Lib.hid (And.intro hc (And.intro hU (And.intro hcn hp)))
  clear hc hU hcn hp
  have C22 := Lib.hid (fun X => isop_any o X)
  have his : isN o = true := by rcases ho with rfl | rfl <;> decide
  rw [his] at C22
  have HOP : Hid (o ≠ 14 ∧ o ≠ 17) := Lib.hid (by omega)
  have C38 : Hid (∀ (n : Int) (X : World), Calls Tryz.prog 38 #[.int .i64 n] X fun e w' => e = .returned (.agg #[.int .i64 n, .int .i64 0, .slice none 0 0, .slice none 0 0, .int .i64 0, .int .i64 0, .int .i64 0, .int .i64 0, .int .i64 0, .int .i64 0, .int .i64 0]) ∧ Below X.heap.size X w') := Lib.hid no13_any
  have CC : Hid (∀ X, Below w.heap.size w X → Calls Tryz.prog 40 #[.agg #[.pointer (some ⟨t, 0, none⟩), .pointer (some ⟨tb, 0, none⟩), .int .i64 0, .int .i64 1, .slice ua un uc], .agg #[.int .i64 cm, .int .i64 cn, .int .i64 cr.u, .int .i64 cr.g], .agg #[.int .i64 o, .string q.path, .string q.dest, .int .i64 q.fd, .int .i64 q.flags, .int .i64 q.mode, .int .i64 q.n, .int .i64 q.m, .slice q.da q.dl q.dc]] X (MtP S t (c + 3) tb Rb T X)) := Lib.hid fun X hX => mnt13_any (HC.out.1.below hX) ua un uc us (HC.out.2.1.below hX) cm cn HC.out.2.2.1 cr ⟨o, q.path, q.dest, q.fd, q.flags, q.mode, q.n, q.m, q.da, q.dl, q.dc⟩
  clear his
  rcases ho with rfl | rfl
  all_goals
    unfold Wld Who
    go_enter Tryz.func23, Tryz.ntmps23
    go_upto_region 1 with fail
    refine box5g (fun W hbx hnx => ?_)
    have H1B := Lib.hid hbx
    have H1 := Lib.hid hnx
    clear hbx hnx
    generalize hF : w.heap.size + 1 + 1 + 1 + 1 = F at H1 ⊢
    generalize hE : w.heap.size + 1 + 1 + 1 = E at H1 ⊢
    generalize hC : w.heap.size + 1 + 1 = C at H1 ⊢
    generalize hB : w.heap.size + 1 = B at H1 ⊢
    obtain ⟨A, hA⟩ : ∃ A, w.heap.size = A := ⟨_, rfl⟩
    rw [hA] at H1 ⊢
    have H1E : Hid (w.heap.size = A ∧ w.heap.size + 1 = B ∧ w.heap.size + 2 = C ∧ w.heap.size + 3 = E ∧ w.heap.size + 4 = F) := Lib.hid (by omega)
    clear hA hB hC hE hF
    have HQ := Lib.hid fun (X : World) (hX : Below W.heap.size W X) => And.intro (H1.out.1.below hX).k5 (And.intro (H1.out.2.1.below hX).k4 (And.intro (H1.out.2.2.1.below hX).k9 (And.intro (H1.out.2.2.2.1.below hX).k11 (And.intro (H1.out.2.2.2.2.below hX).k2 (And.intro (H1.out.2.2.2.1.below hX).free ((H1.out.2.2.2.2.below hX).free))))))
    obtain ⟨⟨e0, e1, e2, e3, e4⟩, ⟨e5, e6, e7, e8⟩, ⟨e9, e10, e11, e12, e13, e14, e15, e16, e17⟩, ⟨e18, e19, e20, e21, e22, e23, e24, e25, e26, e27, e28⟩, ⟨e29, e30⟩, e31, e32⟩ := HQ.out _ (Below.refl _ _)
    have HB : Hid (Below W.heap.size W W) := Lib.hid (Below.refl _ _)
    have HBW : Hid (∀ X, Below W.heap.size W X → Below w.heap.size w X) := Lib.hid fun X hX => H1B.out.trans (hX.mono H1B.out.size)
    have HEF : Hid (Blk W E 40 rz ∧ Blk W F 75 #[.int .i64 0, .int .i64 0] ∧ w.heap.size ≤ E ∧ w.heap.size ≤ F ∧ E ≠ F) := Lib.hid ⟨H1.out.2.2.2.1, H1.out.2.2.2.2, by have := H1E.out; omega, by have := H1E.out; omega, by have := H1E.out; omega⟩
    have nFE : ¬ F = E := by have := H1E.out; omega
    have nEF : ¬ E = F := by have := H1E.out; omega
    go_wp2_with (first | (go_at_call 22; (with_reducible refine (C22.out _).mono ?_); rintro e wn ⟨rfl, hw⟩; subst hw) | (go_at_call 40; (with_reducible refine (CC.out _ (HBW.out _ HB.out)).mono ?_); rintro e wn hm; obtain ⟨code2, rfl, hw⟩ := MtP.below (Below.refl _ _) hm; have HM := Lib.hid hw; clear hw hm; have HBM := Lib.hid HB.out; clear HB e0 e1 e2 e3 e4 e5 e6 e7 e8 e9 e10 e11 e12 e13 e14 e15 e16 e17 e18 e19 e20 e21 e22 e23 e24 e25 e26 e27 e28 e29 e30 e31 e32) | (go_at_call 38; (with_reducible refine (C38.out _ _).mono ?_); rintro e wm ⟨rfl, hb⟩; have HX := Lib.hid (ask_mnt (fn := Tryz.f23) (a := 6) (b := 7) (HBW.out _ HBM.out) rfl (HEF.out.1.below HBM.out) (HEF.out.2.1.below HBM.out) HEF.out.2.2.1 HEF.out.2.2.2.1 HEF.out.2.2.2.2 HM.out hb HOP.out); clear hb; obtain ⟨r0, r1, r2, r3, r4, r5, r6, r7, r8, r9, r10, rf⟩ := rz_cells HX.out.1.1; obtain ⟨p0, p1, pf⟩ := p2_cells HX.out.1.2; replace HX := Lib.hid HX.out.2; unfold res11 pl2 at HX))
    with_reducible exact HX.out _ rfl rfl
set_option maxRecDepth 100000 in
set_option maxHeartbeats 4000000 in
theorem do13_asks {S : Nat → Prop} {w : World} {t c : Nat} {bs : List Nat} {T : List (Option Nd)} {tb : Nat} {tv : Value} {l : List Mt} {Rb : Nat → Nat} (hc : WI S w t c bs T tb tv l Rb) (ua : Option Addr) (un uc : Nat) (us : List Int) (hU : Ints w 0 (.slice ua un uc) us) (cm cn : Int) (hcn : R64 cn) (cr : Cr) (q : Cl) (hp : q.path.size ≤ 5000) (o : Int) (ho : o = 8 ∨ o = 12 ∨ o = 14 ∨ o = 15 ∨ o = 16 ∨ o = 17 ∨ o = 18) :
    Calls Tryz.prog 23 #[Wld t tb ua un uc, Who cm cn cr, .agg #[.int .i64 o, .string q.path, .string q.dest, .int .i64 q.fd, .int .i64 q.flags, .int .i64 q.mode, .int .i64 q.n, .int .i64 q.m, .slice q.da q.dl q.dc]] w (AskP S t (c + 3) (fun k => mrefs l k + Rb k) T o w) := by
  have HC := Lib.hid (And.intro hc (And.intro hU (And.intro hcn hp)))
  clear hc hU hcn hp
  have C22 := Lib.hid (fun X => isop_any o X)
  have his : isN o = true := by rcases ho with rfl | rfl | rfl | rfl | rfl | rfl | rfl <;> decide
  rw [his] at C22
  have HOP : Hid (True) := Lib.hid (by trivial)
  have C38 : Hid (∀ (n : Int) (X : World), Calls Tryz.prog 38 #[.int .i64 n] X fun e w' => e = .returned (.agg #[.int .i64 n, .int .i64 0, .slice none 0 0, .slice none 0 0, .int .i64 0, .int .i64 0, .int .i64 0, .int .i64 0, .int .i64 0, .int .i64 0, .int .i64 0]) ∧ Below X.heap.size X w') := Lib.hid no13_any
  have CC : Hid (∀ X, Below w.heap.size w X → Calls Tryz.prog 42 #[.agg #[.pointer (some ⟨t, 0, none⟩), .pointer (some ⟨tb, 0, none⟩), .int .i64 0, .int .i64 1, .slice ua un uc], .agg #[.int .i64 cm, .int .i64 cn, .int .i64 cr.u, .int .i64 cr.g], .agg #[.int .i64 o, .string q.path, .string q.dest, .int .i64 q.fd, .int .i64 q.flags, .int .i64 q.mode, .int .i64 q.n, .int .i64 q.m, .slice q.da q.dl q.dc]] X (AskP S t (c + 3) (fun k => mrefs l k + Rb k) T o X)) := Lib.hid fun X hX => asks_any (HC.out.1.ctx.below hX) ua un uc cm cn HC.out.2.2.1 cr HC.out.1.inv ⟨o, q.path, q.dest, q.fd, q.flags, q.mode, q.n, q.m, q.da, q.dl, q.dc⟩
  clear his
  rcases ho with rfl | rfl | rfl | rfl | rfl | rfl | rfl
  all_goals
    unfold Wld Who
    go_enter Tryz.func23, Tryz.ntmps23
    go_upto_region 1 with fail
    refine box5g (fun W hbx hnx => ?_)
    have H1B := Lib.hid hbx
    have H1 := Lib.hid hnx
    clear hbx hnx
    generalize hF : w.heap.size + 1 + 1 + 1 + 1 = F at H1 ⊢
    generalize hE : w.heap.size + 1 + 1 + 1 = E at H1 ⊢
    generalize hC : w.heap.size + 1 + 1 = C at H1 ⊢
    generalize hB : w.heap.size + 1 = B at H1 ⊢
    obtain ⟨A, hA⟩ : ∃ A, w.heap.size = A := ⟨_, rfl⟩
    rw [hA] at H1 ⊢
    have H1E : Hid (w.heap.size = A ∧ w.heap.size + 1 = B ∧ w.heap.size + 2 = C ∧ w.heap.size + 3 = E ∧ w.heap.size + 4 = F) := Lib.hid (by omega)
    clear hA hB hC hE hF
    have HQ := Lib.hid fun (X : World) (hX : Below W.heap.size W X) => And.intro (H1.out.1.below hX).k5 (And.intro (H1.out.2.1.below hX).k4 (And.intro (H1.out.2.2.1.below hX).k9 (And.intro (H1.out.2.2.2.1.below hX).k11 (And.intro (H1.out.2.2.2.2.below hX).k2 (And.intro (H1.out.2.2.2.1.below hX).free ((H1.out.2.2.2.2.below hX).free))))))
    obtain ⟨⟨e0, e1, e2, e3, e4⟩, ⟨e5, e6, e7, e8⟩, ⟨e9, e10, e11, e12, e13, e14, e15, e16, e17⟩, ⟨e18, e19, e20, e21, e22, e23, e24, e25, e26, e27, e28⟩, ⟨e29, e30⟩, e31, e32⟩ := HQ.out _ (Below.refl _ _)
    have HB : Hid (Below W.heap.size W W) := Lib.hid (Below.refl _ _)
    have HBW : Hid (∀ X, Below W.heap.size W X → Below w.heap.size w X) := Lib.hid fun X hX => H1B.out.trans (hX.mono H1B.out.size)
    have HEF : Hid (Blk W E 40 rz ∧ Blk W F 75 #[.int .i64 0, .int .i64 0] ∧ w.heap.size ≤ E ∧ w.heap.size ≤ F ∧ E ≠ F) := Lib.hid ⟨H1.out.2.2.2.1, H1.out.2.2.2.2, by have := H1E.out; omega, by have := H1E.out; omega, by have := H1E.out; omega⟩
    have nFE : ¬ F = E := by have := H1E.out; omega
    have nEF : ¬ E = F := by have := H1E.out; omega
    go_wp2_with (first | (go_at_call 22; (with_reducible refine (C22.out _).mono ?_); rintro e wn ⟨rfl, hw⟩; subst hw) | (go_at_call 42; (with_reducible refine (CC.out _ (HBW.out _ HB.out)).mono ?_); rintro e wn ⟨r, y, z, m, n, S2, bs2, T2, rfl, h1, h2, h3, h4, h5, h6⟩; have HX := Lib.hid (ask_pass (fn := Tryz.f23) (a := 6) (b := 7) (HBW.out _ HB.out) rfl (HEF.out.1.below HB.out) (HEF.out.2.1.below HB.out) HEF.out.2.2.1 HEF.out.2.2.2.1 HEF.out.2.2.2.2 h1 h2 h3 h4 h5 h6); obtain ⟨⟨ya, yn, yc, rfl⟩, ⟨za, zn, zc, rfl⟩⟩ := h4.vals; clear h1 h2 h3 h4 h5 h6 e0 e1 e2 e3 e4 e5 e6 e7 e8 e9 e10 e11 e12 e13 e14 e15 e16 e17 e18 e19 e20 e21 e22 e23 e24 e25 e26 e27 e28 e29 e30 e31 e32 HB; obtain ⟨r0, r1, r2, r3, r4, r5, r6, r7, r8, r9, r10, rf⟩ := rz_cells HX.out.1.1; obtain ⟨p0, p1, pf⟩ := p2_cells HX.out.1.2; replace HX := Lib.hid HX.out.2; unfold res11 pl2 at HX; unfold Res.cells))
    with_reducible exact HX.out _ rfl rfl
theorem do13_any {S : Nat → Prop} {w : World} {t c : Nat} {bs : List Nat} {T : List (Option Nd)} {tb : Nat} {tv : Value} {l : List Mt} {Rb : Nat → Nat} (hc : WI S w t c bs T tb tv l Rb) (ua : Option Addr) (un uc : Nat) (us : List Int) (hU : Ints w 0 (.slice ua un uc) us) (cm cn : Int) (hcn : R64 cn) (cr : Cr) (q : Cl) (hp : q.path.size ≤ 5000) (his : isN q.op = true) : Calls Tryz.prog 23 #[Wld t tb ua un uc, Who cm cn cr, q.val] w (D13P S t (c + 3) tb Rb T q.op w) := by
  obtain ⟨op, path, dest, fd, flags, mode, n, m, da, dl, dc⟩ := q
  have ho : (1 ≤ op ∧ op ≤ 20) ∧ ¬ (op = 3 ∨ op = 4 ∨ op = 5 ∨ op = 6 ∨ op = 7) := by
    unfold isN at his
    dsimp only at his
    split at his
    · cases his
    · exact ⟨by simpa using his, by assumption⟩
  have hcc : c ≤ c + 3 := Nat.le_add_right c 3
  rcases (show op = 1 ∨ op = 2 ∨ op = 8 ∨ op = 9 ∨ op = 10 ∨ op = 11 ∨ op = 12 ∨ op = 13 ∨ op = 14 ∨ op = 15 ∨ op = 16 ∨ op = 17 ∨ op = 18 ∨ op = 19 ∨ op = 20 by omega) with rfl | rfl | rfl | rfl | rfl | rfl | rfl | rfl | rfl | rfl | rfl | rfl | rfl | rfl | rfl
  · exact (do13_one hc ua un uc us hU cm cn hcn cr ⟨1, path, dest, fd, flags, mode, n, m, da, dl, dc⟩ hp 1 (by decide)).mono fun e w' h => D13P.ask hc hcc h
  · exact (do13_one hc ua un uc us hU cm cn hcn cr ⟨2, path, dest, fd, flags, mode, n, m, da, dl, dc⟩ hp 2 (by decide)).mono fun e w' h => D13P.ask hc hcc h
  · exact (do13_asks hc ua un uc us hU cm cn hcn cr ⟨8, path, dest, fd, flags, mode, n, m, da, dl, dc⟩ hp 8 (by decide)).mono fun e w' h => D13P.ask hc hcc h
  · exact (do13_two hc ua un uc us hU cm cn hcn cr ⟨9, path, dest, fd, flags, mode, n, m, da, dl, dc⟩ hp 9 (by decide)).mono fun e w' h => D13P.ask hc hcc h
  · exact (do13_one hc ua un uc us hU cm cn hcn cr ⟨10, path, dest, fd, flags, mode, n, m, da, dl, dc⟩ hp 10 (by decide)).mono fun e w' h => D13P.ask hc hcc h
  · exact (do13_two hc ua un uc us hU cm cn hcn cr ⟨11, path, dest, fd, flags, mode, n, m, da, dl, dc⟩ hp 11 (by decide)).mono fun e w' h => D13P.ask hc hcc h
  · exact (do13_asks hc ua un uc us hU cm cn hcn cr ⟨12, path, dest, fd, flags, mode, n, m, da, dl, dc⟩ hp 12 (by decide)).mono fun e w' h => D13P.ask hc hcc h
  · exact (do13_two hc ua un uc us hU cm cn hcn cr ⟨13, path, dest, fd, flags, mode, n, m, da, dl, dc⟩ hp 13 (by decide)).mono fun e w' h => D13P.ask hc hcc h
  · exact (do13_asks hc ua un uc us hU cm cn hcn cr ⟨14, path, dest, fd, flags, mode, n, m, da, dl, dc⟩ hp 14 (by decide)).mono fun e w' h => D13P.ask hc hcc h
  · exact (do13_asks hc ua un uc us hU cm cn hcn cr ⟨15, path, dest, fd, flags, mode, n, m, da, dl, dc⟩ hp 15 (by decide)).mono fun e w' h => D13P.ask hc hcc h
  · exact (do13_asks hc ua un uc us hU cm cn hcn cr ⟨16, path, dest, fd, flags, mode, n, m, da, dl, dc⟩ hp 16 (by decide)).mono fun e w' h => D13P.ask hc hcc h
  · exact (do13_asks hc ua un uc us hU cm cn hcn cr ⟨17, path, dest, fd, flags, mode, n, m, da, dl, dc⟩ hp 17 (by decide)).mono fun e w' h => D13P.ask hc hcc h
  · exact (do13_asks hc ua un uc us hU cm cn hcn cr ⟨18, path, dest, fd, flags, mode, n, m, da, dl, dc⟩ hp 18 (by decide)).mono fun e w' h => D13P.ask hc hcc h
  · exact do13_mnt hc ua un uc us hU cm cn hcn cr ⟨19, path, dest, fd, flags, mode, n, m, da, dl, dc⟩ hp 19 (by decide)
  · exact do13_mnt hc ua un uc us hU cm cn hcn cr ⟨20, path, dest, fd, flags, mode, n, m, da, dl, dc⟩ hp 20 (by decide)
end Go.Proofs.YtfjghemojnhmbaaGreat
