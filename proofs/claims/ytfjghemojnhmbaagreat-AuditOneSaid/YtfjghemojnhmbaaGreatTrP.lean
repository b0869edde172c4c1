/- The tree: Make. -/
import Derived.Test.YtfjghemojnhmbaaGreatTrN
namespace Go.Proofs.YtfjghemojnhmbaaGreat
open Go.RowKit

/-- What Make answers. -/
def MakeP (S : Nat → Prop) (t c : Nat) (R : Nat → Nat) (T : List (Option Nd)) (w : World) (e : Ending) (w' : World) : Prop := ∃ (r code : Int) (S' : Nat → Prop) (bs' : List Nat) (T' : List (Option Nd)), e = .returned (.tuple #[.int .i64 r, .int .i64 code]) ∧ 0 ≤ code ∧ code ≤ 64 ∧ 0 ≤ r ∧ r ≤ 1000000 ∧ TStep S S' t c bs' w w' T' ∧ TInv T' R none ∧ KK T T' ∧
  (code = 0 → ∃ (i : Nat) (x : Nd), r = (i : Int) + 1 ∧ T'[i]? = some (some x))
/-- What is left when the new node stands: it is appended and named. -/
structure MakeF (S : Nat → Prop) (t c : Nat) (R : Nat → Nat) (T : List (Option Nd)) (i n : Nat) (s : ByteArray) (w w4 : World) (v v2 : Value) : Prop where
  cell : w4.cell? ⟨t, 2, none⟩ = some v
  fr : w4.frozen? ⟨t, 2, none⟩ = false
  call : Calls Tryz.prog 94 #[.pointer (some ⟨t, 0, none⟩), .int .i64 ((i : Int) + 1), .string s, .int .i64 ((n : Int) + 1)] (w4.setCell ⟨t, 2, none⟩ v2) fun e w' => e = .returned (.tuple #[]) ∧ MakeP S t c R T w (.returned (.tuple #[.int .i64 ((n : Int) + 1), .int .i64 0])) w'
theorem make_fin {S S1 : Nat → Prop} {w V w4 : World} {t c : Nat} {M : Int} {p : Nat} {v : Value} {bs : List Nat} {T : List (Option Nd)} {R : Nat → Nat} {N f o cap i : Nat} {x y : Nd} {s : ByteArray} {tmp : Obj} (hs : ∀ k, S k → S1 k) (hs2 : ∀ k, S1 k → S k ∨ w.heap.size ≤ k) (hf : Fr S TT w V) (h : TreeAt S1 V t c M p v bs T) (hi : TInv T R none) (hc : c + 2 ≤ 100000)
    (hx : T[i]? = some (some x)) (hk : x.kind = 1) (hg : i = 0 ∨ 1 ≤ x.named) (hsz : s.size ≤ 5000) (hN : Blk V N 110 (y.cells (T.length + 1) (.slice none 0 0))) (hNw : w.heap.size ≤ N) (hfr : ∀ (i : Nat) (x : Nd) (b : Nat), T[i]? = some (some x) → bs[i]? = some b → b ≠ N) (hy0 : y.es = []) (hyn : NdOk (c + 1) y)
    (ha : AppTo (V.alloc tmp) w4 v f [.pointer (some ⟨N, 0, none⟩)]) (hw : Win w4 0 107 1 (.slice (some ⟨f, o, none⟩) (T.length + 1) cap) (T.length + 1) (ptrs bs T ++ [.pointer (some ⟨N, 0, none⟩)])) :
    MakeF S t (c + 2) R T i T.length s w w4 v (.slice (some ⟨f, o, none⟩) (T.length + 1) cap) := by
  have ba : Below V.heap.size V (V.alloc tmp) := (Below.refl _ _).alloc (Nat.le_refl _) _
  have hil := (List.getElem?_eq_some_iff.1 hx).1
  have htl := h.tl
  obtain ⟨⟨q1, q2, q3⟩, q4, q5⟩ := (h.below ba).push (hN.alloc tmp) rfl hy0 hfr hyn ha hw
  have hx' : (T ++ [some y])[i]? = some (some x) := by rw [List.getElem?_append_left hil]; exact hx
  have hy' : (T ++ [some y])[T.length]? = some (some y) := by simp
  refine ⟨q4, q5, (put_any q1.tr (by omega) hx' hy' (by omega) s hsz).mono ?_⟩
  rintro e w' ⟨rfl, es, hpe, hst⟩
  have hV := hf.size
  have hVa : (V.alloc tmp).heap.size = V.heap.size + 1 := by simp
  refine ⟨rfl, (T.length : Int) + 1, 0, (fun k => S1 k ∨ k = N ∨ k = f), bs ++ [N], _, rfl, by omega, by omega, by omega, by omega, ?_, (hi.push hy0).put (.inr rfl) hx' hk hg hy' (by omega) hpe (fun hky => ?_), (KK.push T _).trans (KK.two hx' hy' (by omega) rfl rfl), fun _ => ⟨T.length, _, rfl, set_self (by rw [set_get (by omega)]; exact hy')⟩⟩
  · have st1 : TStep S (fun k => S1 k ∨ k = N ∨ k = f) t (c + 1) (bs ++ [N]) w (w4.setCell ⟨t, 2, none⟩ (.slice (some ⟨f, o, none⟩) (T.length + 1) cap)) (T ++ [some y]) := by
      refine ⟨fun k hk => .inl (hs k hk), ?_, ?_, q1.tr⟩
      · rintro k (q | rfl | rfl)
        · exact hs2 k q
        · exact .inr hNw
        · rcases q3 with q | q
          · exact hs2 _ q
          · right; omega
      · exact (hf.trans (Fr.of_below (S := S) ba) fun _ h => .inl h).trans (q2.mono (T' := TT) (fun _ h => .inl h) (by simp)) hs2
    exact st1.trans hst
  · obtain ⟨d, hd⟩ := hi.ends i x hx (by simp) hk
    exact hd.avoid
/-- A block aside turned. -/
theorem TreeAt.aside {S : Nat → Prop} {w : World} {t c : Nat} {M : Int} {p : Nat} {v : Value} {bs : List Nat} {T : List (Option Nd)} {N j : Nat} {cs : Array Value} (h : TreeAt S w t c M p v bs T) (hN : Blk w N 110 cs) (hfr : ∀ (i : Nat) (x : Nd) (b : Nat), T[i]? = some (some x) → bs[i]? = some b → b ≠ N) (val : Value) : TreeAt S (w.setCell ⟨N, j, none⟩ val) t c M p v bs T := by
  have fr : Fr (fun k => S k ∨ k = N) [110] w (w.setCell ⟨N, j, none⟩ val) := Fr.one hN (.inr rfl) (by simp) _
  refine ⟨h.blk.fr fr (by simp), h.own, h.pool.kf (KF.of_fr0 fr (by simp) (by simp) fun _ h => h) (fun _ h => h) fr (by simp) (by simp), h.row.frT fr (by simp), h.rowS, h.len, h.tl, fun i x b hx hb => ?_, h.inj, h.ok, h.m0, h.m1⟩
  obtain ⟨u, hu⟩ := h.nd i x b hx hb
  exact ⟨u, hu.blk.other (by simpa using (hfr i x b hx hb).symm) _, hu.own, hu.row.frT fr (by simp)⟩
theorem TreeAt.blkLt {S : Nat → Prop} {w : World} {t c : Nat} {M : Int} {p : Nat} {v : Value} {bs : List Nat} {T : List (Option Nd)} (h : TreeAt S w t c M p v bs T) {i : Nat} {x : Nd} {b : Nat} (hx : T[i]? = some (some x)) (hb : bs[i]? = some b) : b < w.heap.size := by
  obtain ⟨u, hu⟩ := h.nd i x b hx hb
  exact hu.blk.lt
/-- Behind the pool's Make. -/
structure MakeM (S : Nat → Prop) (t c : Nat) (R : Nat → Nat) (i N : Nat) (s : ByteArray) (w w7 : World) (n : Int) (v : Value) (bs : List Nat) (T : List (Option Nd)) : Prop where
  cell : ∃ u, w7.cell? ⟨N, 12, none⟩ = some u
  fr : w7.frozen? ⟨N, 12, none⟩ = false
  row : Win (w7.setCell ⟨N, 12, none⟩ (.int .i64 n)) 0 107 1 v T.length (ptrs bs T)
  c2 : (w7.setCell ⟨N, 12, none⟩ (.int .i64 n)).cell? ⟨t, 2, none⟩ = some v
  fin : ∀ f o cap w4 tmp, AppTo ((w7.setCell ⟨N, 12, none⟩ (.int .i64 n)).alloc tmp) w4 v f [.pointer (some ⟨N, 0, none⟩)] → Win w4 0 107 1 (.slice (some ⟨f, o, none⟩) (T.length + 1) cap) (T.length + 1) (ptrs bs T ++ [.pointer (some ⟨N, 0, none⟩)]) → MakeF S t c R T i T.length s w w4 v (.slice (some ⟨f, o, none⟩) (T.length + 1) cap)
theorem make_mid {S S' : Nat → Prop} {w w6 w7 : World} {t c : Nat} {M : Int} {p : Nat} {v : Value} {bs : List Nat} {T : List (Option Nd)} {R : Nat → Nat} {N i : Nat} {x : Nd} {s txt : ByteArray} {md uid gid n : Int} (h : TreeAt S w6 t c M p v bs T) (hb : Below w.heap.size w w6) (hi : TInv T R none) (hc : c + 3 ≤ 100000)
    (hx : T[i]? = some (some x)) (hk : x.kind = 1) (hg : i = 0 ∨ 1 ≤ x.named) (hsz : s.size ≤ 5000) (hN : Blk w6 N 110 #[.int .i64 ((T.length : Int) + 1), .int .i64 2, .int .i64 md, .int .i64 uid, .int .i64 gid, .int .i64 0, .int .i64 0, .string txt, .slice none 0 0, .int .i64 0, .int .i64 0, .int .i64 0, .int .i64 0]) (hNw : w.heap.size ≤ N) (hfr : ∀ (i : Nat) (x : Nd) (b : Nat), T[i]? = some (some x) → bs[i]? = some b → b ≠ N)
    (md0 : 0 ≤ md) (md1 : md ≤ 4095) (htx : txt.size ≤ 5000) (n0 : 0 ≤ n) (n1 : n ≤ 1000001) (hs : ∀ k, S k → S' k) (hs2 : ∀ k, S' k → S k ∨ w6.heap.size ≤ k) (hf : Fr S PT w6 w7) (hp : PoolOk S' w7 p (c + 1)) : MakeM S t (c + 3) R i N s w w7 n v bs T := by
  have h7 := h.pooled hs hf hp (Nat.le_succ c)
  have hN7 := hN.fr hf (by simp)
  have h8 := h7.aside (j := 12) hN7 hfr (.int .i64 n)
  have hb6 := hb.size
  refine ⟨⟨_, hN7.cell 12⟩, hN7.free 12, h8.row, h8.cells.2.2, fun f o cap w4 tmp ha hw => ?_⟩
  have hN8 : Blk (w7.setCell ⟨N, 12, none⟩ (.int .i64 n)) N 110 ((⟨2, md, uid, gid, txt, [], 0, 0, 0, n⟩ : Nd).cells (T.length + 1) (.slice none 0 0)) := by simpa [Nd.cells] using hN7.set 12 (.int .i64 n)
  have sup : ∀ k, S' k → S k ∨ w.heap.size ≤ k := fun k hk => (hs2 k hk).imp id fun q => by omega
  refine make_fin (c := c + 1) hs sup ?_ h8 hi (by omega) hx hk hg hsz hN8 hNw hfr rfl ⟨by simp, by simp, md0, md1, htx, by simp, by simp, by simp, by simp, by simp, n0, by simp; omega⟩ ha hw
  exact ((Fr.of_below (S := S) (T := TT) hb).trans (hf.mono (T' := TT) (fun _ h => .inl h) (by simp)) (fun _ h => .inl h)).setCell hN7 (.inr hNw) (by simp) _
theorem make_plain {S : Nat → Prop} {w w6 : World} {t c : Nat} {M : Int} {p : Nat} {v : Value} {bs : List Nat} {T : List (Option Nd)} {R : Nat → Nat} {N i : Nat} {x : Nd} {s txt : ByteArray} {kd md uid gid : Int} (h : TreeAt S w6 t c M p v bs T) (hb : Below w.heap.size w w6) (hi : TInv T R none) (hc : c + 3 ≤ 100000)
    (hx : T[i]? = some (some x)) (hk : x.kind = 1) (hg : i = 0 ∨ 1 ≤ x.named) (hsz : s.size ≤ 5000) (hN : Blk w6 N 110 #[.int .i64 ((T.length : Int) + 1), .int .i64 kd, .int .i64 md, .int .i64 uid, .int .i64 gid, .int .i64 0, .int .i64 0, .string txt, .slice none 0 0, .int .i64 0, .int .i64 0, .int .i64 0, .int .i64 0]) (hNw : w.heap.size ≤ N) (hfr : ∀ (i : Nat) (x : Nd) (b : Nat), T[i]? = some (some x) → bs[i]? = some b → b ≠ N)
    (md0 : 0 ≤ md) (md1 : md ≤ 4095) (htx : txt.size ≤ 5000) (k0 : 1 ≤ kd) (k1 : kd ≤ 3) (f o cap : Nat) (w4 : World) (tmp : Obj) (ha : AppTo (w6.alloc tmp) w4 v f [.pointer (some ⟨N, 0, none⟩)]) (hw : Win w4 0 107 1 (.slice (some ⟨f, o, none⟩) (T.length + 1) cap) (T.length + 1) (ptrs bs T ++ [.pointer (some ⟨N, 0, none⟩)])) : MakeF S t (c + 3) R T i T.length s w w4 v (.slice (some ⟨f, o, none⟩) (T.length + 1) cap) := by
  have hN8 : Blk w6 N 110 ((⟨kd, md, uid, gid, txt, [], 0, 0, 0, 0⟩ : Nd).cells (T.length + 1) (.slice none 0 0)) := by simpa [Nd.cells] using hN
  exact make_fin (c := c + 1) (fun _ h => h) (fun _ h => .inl h) (Fr.of_below hb) (h.mono (Nat.le_succ c)) hi (by omega) hx hk hg hsz hN8 hNw hfr rfl ⟨k0, k1, md0, md1, htx, by simp, by simp, by simp, by simp, by simp, by simp, by simp⟩ ha hw
set_option maxRecDepth 100000 in
set_option maxHeartbeats 1000000 in
theorem tmake_any {S : Nat → Prop} {w : World} {t c : Nat} {bs : List Nat} {T : List (Option Nd)} {R : Nat → Nat} (h : TR S w t c bs T) (hi : TInv T R none) (hc : c + 3 ≤ 100000) (n : Int) (hn : R64 n) (s : ByteArray) (hs : s.size ≤ 5000) (st : Stt) (txt : ByteArray) (htx : txt.size ≤ 5000) :
    Calls Tryz.prog 63 #[.pointer (some ⟨t, 0, none⟩), .int .i64 n, .string s, st.val, .string txt] w (MakeP S t (c + 3) R T w) := by
  obtain ⟨M, p, v, h⟩ := h
  unfold Stt.val
  have HB : Hid (Below w.heap.size w (w.alloc (.cells #[.int .i64 st.node, .int .i64 st.kind, .int .i64 st.mode, .int .i64 st.uid, .int .i64 st.gid, .int .i64 st.links, .int .i64 st.size] 38))) := Lib.hid ((Below.refl _ _).alloc (Nat.le_refl _) _)
  have HP := Lib.hid (Holds.new w #[.int .i64 st.node, .int .i64 st.kind, .int .i64 st.mode, .int .i64 st.uid, .int .i64 st.gid, .int .i64 st.links, .int .i64 st.size] 38)
  have HT := Lib.hid (h.below HB.out)
  have HI := Lib.hid hi
  have HS : Hid (∀ (code : Int) (w' : World), 1 ≤ code → code ≤ 64 → Below w.heap.size w w' → MakeP S t (c + 3) R T w (.returned (.tuple #[.int .i64 0, .int .i64 code])) w') := Lib.hid fun code w' h0 h1 hb => ⟨0, code, S, bs, T, rfl, by omega, h1, by omega, by omega, TStep.same (h.mono (by omega)).tr hb, hi, KK.refl T, fun e => by omega⟩
  clear h hi
  go_enter Tryz.func63, Tryz.ntmps63
  go_upto_region 1 with fail
  generalize w.alloc (.cells #[.int .i64 st.node, .int .i64 st.kind, .int .i64 st.mode, .int .i64 st.uid, .int .i64 st.gid, .int .i64 st.links, .int .i64 st.size] 38) = W at *
  obtain ⟨P, hP⟩ : ∃ P, w.heap.size = P := ⟨_, rfl⟩
  have HPP := Lib.hid hP
  rw [hP] at HP ⊢
  clear hP
  have C1 := dir_any HT.out (by omega) n hn
  have C3 := right_any s (by omega) W
  have p1 : W.cell? ⟨P, 1, none⟩ = some (.int .i64 st.kind) := HP.out.cell 1
  go_wp2_with fail
  refine C1.mono ?_
  rintro e w' ⟨rfl, ⟨hl, rfl⟩ | ⟨i, x, b, rfl, hx, hb, hk, rfl⟩⟩
  · clear hl
    go_wp2_with fail
    go_ret2
    exact HS.out 1 _ (by omega) (by omega) HB.out
  have HX := Lib.hid (And.intro hx (And.intro hk hb))
  clear hx hb hk C1
  go_wp2_with fail
  refine C3.mono ?_
  rintro e w1 ⟨⟨r, rfl⟩, hb1⟩
  have HB1 := Lib.hid (HB.out.trans (hb1.mono HB.out.size))
  have HT1 := Lib.hid (HT.out.below hb1)
  have HP1 := Lib.hid (HP.out.below hb1)
  have q1 : w1.cell? ⟨P, 1, none⟩ = some (.int .i64 st.kind) := HP1.out.cell 1
  have q2 : w1.cell? ⟨P, 2, none⟩ = some (.int .i64 st.mode) := HP1.out.cell 2
  have q3 : w1.cell? ⟨P, 3, none⟩ = some (.int .i64 st.uid) := HP1.out.cell 3
  have q4 : w1.cell? ⟨P, 4, none⟩ = some (.int .i64 st.gid) := HP1.out.cell 4
  clear hb1 C3 p1
  cases r
  · go_wp2_with fail
    go_ret2
    exact HS.out 1 _ (by omega) (by omega) HB1.out
  by_cases hk1 : st.kind < 1
  · go_wp2_with fail
    go_ret2
    exact HS.out 1 _ (by omega) (by omega) HB1.out
  by_cases hk3 : 3 < st.kind
  · go_wp2_with fail
    go_ret2
    exact HS.out 1 _ (by omega) (by omega) HB1.out
  by_cases hbad : ¬ txt = ⟨#[]⟩ ∧ st.kind ≠ 3
  · have e1 : (txt.toList == []) = false := by
      have := sne hbad.1
      simpa using this
    have e2 : (st.kind != 3) = true := by simpa using hbad.2
    go_wp2_with fail
    go_ret2
    exact HS.out 1 _ (by omega) (by omega) HB1.out
  have hok : (txt.toList == []) = true ∨ ((txt.toList == []) = false ∧ (st.kind != 3) = false) := by
    by_cases h1 : txt = ⟨#[]⟩
    · left; subst h1; rw [ByteArray.toList_eq]; rfl
    · by_cases h2 : st.kind = 3
      · right
        refine ⟨?_, by simp [h2]⟩
        have := sne h1
        simpa using this
      · exact absurd ⟨h1, h2⟩ hbad
  clear hbad
  obtain ⟨u, hu⟩ := HT1.out.nd i x b HX.out.1 HX.out.2.2
  have C4 := find_any hu (by have := (HT1.out.ok i x HX.out.1).el; omega) s
  have C5 := gone_any HT1.out (by omega) HX.out.1
  have C6 := links_any HT1.out (by omega) HI.out.el HX.out.1
  have C7 := leftt_any HT1.out (by omega)
  clear hu
  have CC := Lib.hid (And.intro C4 (And.intro C5 (And.intro C6 C7)))
  clear C4 C5 C6 C7
  have hkd : ((txt.toList == []) = true ∧ st.kind = 1) ∨ ((txt.toList == []) = true ∧ st.kind = 2) ∨ (∃ q, (txt.toList == []) = q ∧ st.kind = 3) := by
    have hk : st.kind = 1 ∨ st.kind = 2 ∨ st.kind = 3 := by omega
    rcases hok with e1 | ⟨e1, e2⟩
    · rcases hk with q | q | q
      · exact .inl ⟨e1, q⟩
      · exact .inr (.inl ⟨e1, q⟩)
      · exact .inr (.inr ⟨_, e1, q⟩)
    · exact .inr (.inr ⟨_, e1, by simpa using e2⟩)
  clear hk1 hk3 hok
  rcases hkd with ⟨e1, hkd⟩ | ⟨e1, hkd⟩ | ⟨q, e1, hkd⟩
  case' inr.inr => cases q
  all_goals
    go_wp2_with fail
    refine CC.out.1.mono ?_
    rintro e w2 ⟨rfl, ⟨hno, rfl⟩ | ⟨k, f, hf, rfl⟩⟩
    case inr =>
      have k0 : (0 : Int) ≤ (k : Int) := by omega
      clear hf
      go_wp2_with fail
      go_ret2
      exact HS.out 35 _ (by omega) (by omega) HB1.out
    clear hno
    go_wp2_with fail
    refine CC.out.2.1.mono ?_
    rintro e w3 ⟨rfl, r, rfl, hr⟩
    cases r
    case true =>
      go_wp2_with fail
      go_ret2
      exact HS.out 32 _ (by omega) (by omega) HB1.out
    have HG := Lib.hid (hr rfl)
    clear hr
    go_upto_region 10 with (first | (go_at_call 95; refine CC.out.2.2.1.mono ?_; rintro e w4 ⟨lk, rfl, rfl, lk0, lk1⟩))
    all_goals first | (go_ret2; exact HS.out 44 _ (by omega) (by omega) HB1.out) | skip
  all_goals
    go_wp2_with fail
    refine CC.out.2.2.2.mono ?_
    rintro e w5 ⟨l, rfl, l0, l1, hb5⟩
    have HB5 := Lib.hid (HB1.out.trans (hb5.mono HB1.out.size))
    by_cases hl0 : l = 0
    · go_wp2_with fail
      go_ret2
      exact HS.out 43 _ (by omega) (by omega) HB5.out
    have HT5 := Lib.hid (HT1.out.below hb5)
    have HP5 := Lib.hid (HP1.out.below hb5)
    clear hb5 q1 q2 q3 q4 e1
    have t2 := HT5.out.cells.2.2
    have htl := HT5.out.tl
    obtain ⟨va, vc, hv⟩ := HT5.out.row.value
    subst hv
    have q1 : w5.cell? ⟨P, 1, none⟩ = some (.int .i64 st.kind) := HP5.out.cell 1
    have q2 : w5.cell? ⟨P, 2, none⟩ = some (.int .i64 st.mode) := HP5.out.cell 2
    have q3 : w5.cell? ⟨P, 3, none⟩ = some (.int .i64 st.uid) := HP5.out.cell 3
    have q4 : w5.cell? ⟨P, 4, none⟩ = some (.int .i64 st.gid) := HP5.out.cell 4
    have pn : ¬ P = w5.heap.size := by have := HP5.out.lt; omega
    have pn' : ¬ w5.heap.size = P := by have := HP5.out.lt; omega
    have C8 := masked_any st.mode w5.drew
    have HPk : Hid (∀ o, (w5.alloc o).drew.cell? ⟨P, 1, none⟩ = some (.int .i64 st.kind) ∧ (w5.alloc o).drew.cell? ⟨P, 2, none⟩ = some (.int .i64 st.mode) ∧ (w5.alloc o).drew.cell? ⟨P, 3, none⟩ = some (.int .i64 st.uid) ∧ (w5.alloc o).drew.cell? ⟨P, 4, none⟩ = some (.int .i64 st.gid)) := Lib.hid fun o => ⟨(HP5.out.alloc o).cell 1, (HP5.out.alloc o).cell 2, (HP5.out.alloc o).cell 3, (HP5.out.alloc o).cell 4⟩
    go_upto_region 13 with fail
    go_region_held3 (fun X => X.cell? ⟨P, 1, none⟩ = some (.int .i64 st.kind) ∧ X.cell? ⟨P, 2, none⟩ = some (.int .i64 st.mode) ∧ X.cell? ⟨P, 3, none⟩ = some (.int .i64 st.uid) ∧ X.cell? ⟨P, 4, none⟩ = some (.int .i64 st.gid)) (first | exact ⟨q1, q2, q3, q4⟩ | exact HPk.out _) (first | (go_at_call 97; refine C8.mono ?_; rintro e w6 ⟨⟨md, md0, md1, rfl⟩, rfl⟩))
  all_goals
    have HN0 : Hid (Below w5.heap.size w5 (w5.alloc (.cells #[.int .i64 ((T.length : Int) + 1), .int .i64 st.kind, .int .i64 md, .int .i64 st.uid, .int .i64 st.gid, .int .i64 0, .int .i64 0, .string txt, .slice none 0 0, .int .i64 0, .int .i64 0, .int .i64 0, .int .i64 0] 110)).drew ∧ Blk (w5.alloc (.cells #[.int .i64 ((T.length : Int) + 1), .int .i64 st.kind, .int .i64 md, .int .i64 st.uid, .int .i64 st.gid, .int .i64 0, .int .i64 0, .string txt, .slice none 0 0, .int .i64 0, .int .i64 0, .int .i64 0, .int .i64 0] 110)).drew w5.heap.size 110 #[.int .i64 ((T.length : Int) + 1), .int .i64 st.kind, .int .i64 md, .int .i64 st.uid, .int .i64 st.gid, .int .i64 0, .int .i64 0, .string txt, .slice none 0 0, .int .i64 0, .int .i64 0, .int .i64 0, .int .i64 0]) := Lib.hid ⟨((Below.refl _ _).alloc (Nat.le_refl _) _).drew, (Blk.new _ _ _).drew⟩
    rw [hkd] at HN0
    generalize hw6 : (w5.alloc (.cells #[.int .i64 ((T.length : Int) + 1), .int .i64 _, .int .i64 md, .int .i64 st.uid, .int .i64 st.gid, .int .i64 0, .int .i64 0, .string txt, .slice none 0 0, .int .i64 0, .int .i64 0, .int .i64 0, .int .i64 0] 110)).drew = w6 at HN0 ⊢
    clear hw6
  all_goals
    have HN := Lib.hid (And.intro (HT5.out.below HN0.out.1) (HB5.out.trans (HN0.out.1.mono HB5.out.size)))
    have HFr : Hid (∀ (i : Nat) (x : Nd) (b : Nat), T[i]? = some (some x) → bs[i]? = some b → b ≠ w5.heap.size) := Lib.hid fun i x b hx hb => by have := HT5.out.blkLt hx hb; omega
    have t2 := HN.out.1.cells.2.2
    have t1 := HN.out.1.cells.2.1
    have q1 : w6.cell? ⟨P, 1, none⟩ = some (.int .i64 st.kind) := (HP5.out.below HN0.out.1).cell 1
    have HNw : Hid (w.heap.size ≤ w5.heap.size) := Lib.hid HB5.out.size
    obtain ⟨i107, h71, h72, h73, h74⟩ := info_parts info107
    obtain ⟨N, hNN⟩ : ∃ N, w5.heap.size = N := ⟨_, rfl⟩
    rw [hNN] at HN0 HFr HNw ⊢
    clear hNN pn pn' q2 q3 q4
  · have HF := Lib.hid (fun f o cap w4 tmp ha hw => make_plain HN.out.1 HN.out.2 HI.out hc HX.out.1 HX.out.2.1 HG.out hs HN0.out.2 HNw.out HFr.out md0 md1 htx (by omega) (by omega) f o cap w4 tmp ha hw)
    go_upto_region 16 with fail
    go_upto_region 17 with (first | (at_builtin; go_must (refine wpList_append_two _ rfl (.tmp 98) (.tmp 100) 104 rfl 0 107 i107 _ 1 8 Tryz.underlying104 h71 h72 h73 h74 rfl (by decide) (.slice va T.length vc) T.length (ptrs bs T) rfl (HN.out.1.row.alloc _) ⟨w6.heap.size, 0, none⟩ 1 1 [.pointer (some ⟨N, 0, none⟩)] rfl rfl (new_cells w6 [.pointer (some ⟨N, 0, none⟩)] 107) (by simp [Value.oneCell']) (by decide) (by unfold maxLen; omega) (by omega) (Nat.zero_le _) ?_; intro f' o' cap' w8 hown happ; have HM := Lib.hid (HF.out _ _ _ _ _ happ hown); have g2 := HM.out.cell; have g3 := HM.out.fr; clear hown happ)))
    go_wp2_with (first | (go_at_call 94; refine HM.out.call.mono ?_; rintro e w9 ⟨rfl, hfin⟩; have HE := Lib.hid hfin; clear hfin))
    go_ret2
    exact HE.out
  · have HF := Lib.hid (fun f o cap w4 tmp ha hw => make_plain HN.out.1 HN.out.2 HI.out hc HX.out.1 HX.out.2.1 HG.out hs HN0.out.2 HNw.out HFr.out md0 md1 htx (by omega) (by omega) f o cap w4 tmp ha hw)
    go_upto_region 16 with fail
    go_upto_region 17 with (first | (at_builtin; go_must (refine wpList_append_two _ rfl (.tmp 98) (.tmp 100) 104 rfl 0 107 i107 _ 1 8 Tryz.underlying104 h71 h72 h73 h74 rfl (by decide) (.slice va T.length vc) T.length (ptrs bs T) rfl (HN.out.1.row.alloc _) ⟨w6.heap.size, 0, none⟩ 1 1 [.pointer (some ⟨N, 0, none⟩)] rfl rfl (new_cells w6 [.pointer (some ⟨N, 0, none⟩)] 107) (by simp [Value.oneCell']) (by decide) (by unfold maxLen; omega) (by omega) (Nat.zero_le _) ?_; intro f' o' cap' w8 hown happ; have HM := Lib.hid (HF.out _ _ _ _ _ happ hown); have g2 := HM.out.cell; have g3 := HM.out.fr; clear hown happ)))
    go_wp2_with (first | (go_at_call 94; refine HM.out.call.mono ?_; rintro e w9 ⟨rfl, hfin⟩; have HE := Lib.hid hfin; clear hfin))
    go_ret2
    exact HE.out
  · have HF := Lib.hid (fun f o cap w4 tmp ha hw => make_plain HN.out.1 HN.out.2 HI.out hc HX.out.1 HX.out.2.1 HG.out hs HN0.out.2 HNw.out HFr.out md0 md1 htx (by omega) (by omega) f o cap w4 tmp ha hw)
    go_upto_region 16 with fail
    go_upto_region 17 with (first | (at_builtin; go_must (refine wpList_append_two _ rfl (.tmp 98) (.tmp 100) 104 rfl 0 107 i107 _ 1 8 Tryz.underlying104 h71 h72 h73 h74 rfl (by decide) (.slice va T.length vc) T.length (ptrs bs T) rfl (HN.out.1.row.alloc _) ⟨w6.heap.size, 0, none⟩ 1 1 [.pointer (some ⟨N, 0, none⟩)] rfl rfl (new_cells w6 [.pointer (some ⟨N, 0, none⟩)] 107) (by simp [Value.oneCell']) (by decide) (by unfold maxLen; omega) (by omega) (Nat.zero_le _) ?_; intro f' o' cap' w8 hown happ; have HM := Lib.hid (HF.out _ _ _ _ _ happ hown); have g2 := HM.out.cell; have g3 := HM.out.fr; clear hown happ)))
    go_wp2_with (first | (go_at_call 94; refine HM.out.call.mono ?_; rintro e w9 ⟨rfl, hfin⟩; have HE := Lib.hid hfin; clear hfin))
    go_ret2
    exact HE.out
  · have C9 := make_any S w6 p c HN.out.1.pool (by omega)
    go_upto_region 16 with (first | (go_at_call 98; refine C9.mono ?_; rintro e w7 ⟨fn, S', rfl, fn0, fn1, hs1, hs2, hkf, hfr7, hpo⟩; have HM := Lib.hid (make_mid HN.out.1 HN.out.2 HI.out hc HX.out.1 HX.out.2.1 HG.out hs HN0.out.2 HNw.out HFr.out md0 md1 htx (by omega) fn1 hs1 hs2 hfr7 hpo); obtain ⟨u12, g12⟩ := HM.out.cell; have gf := HM.out.fr; clear hs1 hs2 hkf hfr7 hpo))
    have HF := Lib.hid HM.out.fin
    have HR := Lib.hid HM.out.row
    have t2 := HM.out.c2
    generalize w7.setCell ⟨N, 12, none⟩ (.int .i64 fn) = w6 at HF HR t2 ⊢
    go_upto_region 17 with (first | (at_builtin; go_must (refine wpList_append_two _ rfl (.tmp 98) (.tmp 100) 104 rfl 0 107 i107 _ 1 8 Tryz.underlying104 h71 h72 h73 h74 rfl (by decide) (.slice va T.length vc) T.length (ptrs bs T) rfl (HR.out.alloc _) ⟨w6.heap.size, 0, none⟩ 1 1 [.pointer (some ⟨N, 0, none⟩)] rfl rfl (new_cells w6 [.pointer (some ⟨N, 0, none⟩)] 107) (by simp [Value.oneCell']) (by decide) (by unfold maxLen; omega) (by omega) (Nat.zero_le _) ?_; intro f' o' cap' w8 hown happ; have HM2 := Lib.hid (HF.out _ _ _ _ _ happ hown); have g2 := HM2.out.cell; have g3 := HM2.out.fr; clear hown happ)))
    go_wp2_with (first | (go_at_call 94; refine HM2.out.call.mono ?_; rintro e w9 ⟨rfl, hfin⟩; have HE := Lib.hid hfin; clear hfin))
    go_ret2
    exact HE.out
end Go.Proofs.YtfjghemojnhmbaaGreat
