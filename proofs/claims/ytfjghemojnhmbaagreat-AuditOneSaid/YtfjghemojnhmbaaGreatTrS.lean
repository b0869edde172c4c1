/- The tree: Read, Write, Cut of Files. -/
import Derived.Test.YtfjghemojnhmbaaGreatTrN
namespace Go.Proofs.YtfjghemojnhmbaaGreat
open Go.RowKit

set_option maxRecDepth 100000 in
theorem tread_any {S : Nat → Prop} {w : World} {t c : Nat} {bs : List Nat} {T : List (Option Nd)} (h : TR S w t c bs T) (hc : c ≤ 100000) (n pos most : Int) (hn : R64 n) (hp : R64 pos) (hm : R64 most) :
    Calls Tryz.prog 54 #[.pointer (some ⟨t, 0, none⟩), .int .i64 n, .int .i64 pos, .int .i64 most] w (RdP w) := by
  obtain ⟨M, p, v, h⟩ := h
  have hd := h.below (Below.refl w.heap.size w).drew
  have C1 := filen_any hd hc n hn
  have C2 : Hid (∀ f : Int, 0 ≤ f → f ≤ 1000002 → Calls Tryz.prog 87 #[.pointer (some ⟨p, 0, none⟩), .int .i64 f, .int .i64 pos, .int .i64 most] w.drew (RdP w.drew)) := Lib.hid fun f f0 f1 => bytes_any S w.drew p c hd.pool (by omega) f pos most (by omega) (by omega) hp.2 hm.2
  have t1 := h.cells.2.1
  have tl := h.blk.lt
  clear h hd
  go_enter Tryz.func54, Tryz.ntmps54
  go_upto_region 1 with fail
  go_region_held3 (fun X => X.cell? ⟨t, 1, none⟩ = some (.pointer (some ⟨p, 0, none⟩))) (first | exact t1 | exact q1) (first | (go_at_call 88; refine C1.mono ?_; rintro e w2 ⟨f, rfl, rfl, f0, f1⟩) | (go_at_call 87; refine (C2.out f f0 f1).mono ?_; rintro e w3 ⟨u, xs, code, rfl, c0, c1, hbys, hbel⟩; have q1 : w3.cell? ⟨t, 1, none⟩ = some (.pointer (some ⟨p, 0, none⟩)) := (hbel.cell (p := ⟨t, 1, none⟩) tl).trans t1; have HR := Lib.hid (And.intro hbys hbel); clear hbys hbel))
  go_wp2_with fail
  go_ret2
  exact ⟨u, xs, code, rfl, c0, c1, HR.out.1, (Below.refl w.heap.size w).drew.trans HR.out.2⟩
/-- The files' bytes alone are turned. -/
def WriteP (S : Nat → Prop) (t c : Nat) (bs : List Nat) (T : List (Option Nd)) (w : World) (e : Ending) (w' : World) : Prop := ∃ (code : Int) (S' : Nat → Prop), e = .returned (.int .i64 code) ∧ 0 ≤ code ∧ code ≤ 64 ∧ TStep S S' t c bs w w' T
theorem TreeAt.wrote {S S' : Nat → Prop} {w w' : World} {t c : Nat} {M : Int} {p : Nat} {v : Value} {bs : List Nat} {T : List (Option Nd)} (h : TreeAt S w.drew t c M p v bs T) (hs : ∀ k, S k → S' k) (hs2 : ∀ k, S' k → S k ∨ w.drew.heap.size ≤ k) (hf : Fr S PT w.drew w') (hp : PoolOk S' w' p c) : TStep S S' t c bs w w' T ∧ w'.cell? ⟨t, 1, none⟩ = some (.pointer (some ⟨p, 0, none⟩)) := by
  have h2 := h.pooled hs hf hp (Nat.le_refl c)
  exact ⟨⟨hs, hs2, (Fr.of_below (S := S) (T := TT) (Below.refl w.heap.size w).drew).trans (hf.mono (T' := TT) (fun _ h => .inl h) (by simp)) fun _ h => .inl h, h2.tr⟩, h2.cells.2.1⟩
set_option maxRecDepth 100000 in
theorem twrite_any {S : Nat → Prop} {w : World} {t c : Nat} {bs : List Nat} {T : List (Option Nd)} (h : TR S w t c bs T) (hc : c ≤ 100000) (n pos : Int) (hn : R64 n) (a : Option Addr) (m cap : Nat) (xs : List Value)
    (hd : Win w 0 5 1 (.slice a m cap) m xs) (hb : ∀ x ∈ xs, IsByte x) (hS : ∀ k, (Value.slice a m cap).ownBlock = some k → ¬ S k) :
    Calls Tryz.prog 56 #[.pointer (some ⟨t, 0, none⟩), .int .i64 n, .int .i64 pos, .slice a m cap] w (WriteP S t c bs T w) := by
  obtain ⟨M, p, v, h⟩ := h
  have hd2 := h.below (Below.refl w.heap.size w).drew
  have C1 := filen_any hd2 hc n hn
  have C2 : Hid (∀ f : Int, 0 ≤ f → f ≤ 1000002 → Calls Tryz.prog 89 #[.pointer (some ⟨p, 0, none⟩), .int .i64 f, .int .i64 pos, .slice a m cap] w.drew (PStep S p c 0 64 w.drew)) := Lib.hid fun f f0 f1 => write_any S w.drew p c hd2.pool (by omega) f pos (by omega) (by omega) a m cap xs hd.drew hb hS
  have t1 := h.cells.2.1
  have HT := Lib.hid hd2
  clear h hd hd2 hS hb
  go_enter Tryz.func56, Tryz.ntmps56
  go_upto_region 1 with fail
  go_region_held3 (fun X => X.cell? ⟨t, 1, none⟩ = some (.pointer (some ⟨p, 0, none⟩))) (first | exact t1 | exact q1) (first | (go_at_call 88; refine C1.mono ?_; rintro e w2 ⟨f, rfl, rfl, f0, f1⟩) | (go_at_call 89; refine (C2.out f f0 f1).mono ?_; rintro e w3 ⟨code, S', rfl, c0, c1, hs, hs2, _, hfr, hpo⟩; obtain ⟨hst, q1⟩ := HT.out.wrote hs hs2 hfr hpo; have HR := Lib.hid hst; clear hs hs2 hfr hpo hst))
  go_wp2_with fail
  go_ret
  exact ⟨code, S', rfl, c0, c1, HR.out⟩
set_option maxRecDepth 100000 in
theorem tcut_any {S : Nat → Prop} {w : World} {t c : Nat} {bs : List Nat} {T : List (Option Nd)} (h : TR S w t c bs T) (hc : c ≤ 100000) (n z : Int) (hn : R64 n) :
    Calls Tryz.prog 76 #[.pointer (some ⟨t, 0, none⟩), .int .i64 n, .int .i64 z] w (WriteP S t c bs T w) := by
  obtain ⟨M, p, v, h⟩ := h
  have hd2 := h.below (Below.refl w.heap.size w).drew
  have C1 := filen_any hd2 hc n hn
  have C2 : Hid (∀ f : Int, 0 ≤ f → f ≤ 1000002 → Calls Tryz.prog 112 #[.pointer (some ⟨p, 0, none⟩), .int .i64 f, .int .i64 z] w.drew (PStep S p c 0 64 w.drew)) := Lib.hid fun f f0 f1 => cut_any S w.drew p c hd2.pool (by omega) f z (by omega) (by omega)
  have t1 := h.cells.2.1
  have HT := Lib.hid hd2
  clear h hd2
  go_enter Tryz.func76, Tryz.ntmps76
  go_upto_region 1 with fail
  go_region_held3 (fun X => X.cell? ⟨t, 1, none⟩ = some (.pointer (some ⟨p, 0, none⟩))) (first | exact t1 | exact q1) (first | (go_at_call 88; refine C1.mono ?_; rintro e w2 ⟨f, rfl, rfl, f0, f1⟩) | (go_at_call 112; refine (C2.out f f0 f1).mono ?_; rintro e w3 ⟨code, S', rfl, c0, c1, hs, hs2, _, hfr, hpo⟩; obtain ⟨hst, q1⟩ := HT.out.wrote hs hs2 hfr hpo; have HR := Lib.hid hst; clear hs hs2 hfr hpo hst))
  go_wp2_with fail
  go_ret
  exact ⟨code, S', rfl, c0, c1, HR.out⟩
set_option maxRecDepth 100000 in
theorem poolnew_any (w : World) (n : Int) : Calls Tryz.prog 36 #[.int .i64 n] w fun e w' => e = .returned (.pointer (some ⟨w.heap.size, 0, none⟩)) ∧ w' = w.alloc (.cells #[.int .i64 n, .slice none 0 0] 142) := by
  go_enter Tryz.func36, Tryz.ntmps36
  go_wp2_with fail
  go_ret
  exact ⟨rfl, rfl⟩
end Go.Proofs.YtfjghemojnhmbaaGreat
/- The tree: a new one. -/
namespace Go.Proofs.YtfjghemojnhmbaaGreat
open Go.RowKit

def rootNd : Nd := ⟨1, 493, 0, 0, ⟨#[]⟩, [], 1, 0, 0, 0⟩
/-- What New answers. -/
def NewTP (w : World) (e : Ending) (w' : World) : Prop := ∃ (t N : Nat) (S : Nat → Prop), e = .returned (.tuple #[.pointer (some ⟨t, 0, none⟩), .int .i64 0]) ∧ (∀ k, S k → w.heap.size ≤ k) ∧ Below w.heap.size w w' ∧ TR S w' t 1 [N] [some rootNd]
theorem newt_step {w w4 : World} {f o cap : Nat} (ha : AppTo ((((w.alloc (.cells #[.int .i64 256, .slice none 0 0] 142)).alloc (.cells #[.int .i64 64, .pointer (some ⟨w.heap.size, 0, none⟩), .slice none 0 0] 106)).alloc (.cells #[.int .i64 1, .int .i64 1, .int .i64 493, .int .i64 0, .int .i64 0, .int .i64 0, .int .i64 0, .string ⟨#[]⟩, .slice none 0 0, .int .i64 1, .int .i64 0, .int .i64 0, .int .i64 0] 110)).alloc (.cells #[.pointer (some ⟨w.heap.size + 2, 0, none⟩)] 107)) w4 (.slice none 0 0) f [.pointer (some ⟨w.heap.size + 2, 0, none⟩)])
    (hw : Win w4 0 107 1 (.slice (some ⟨f, o, none⟩) 1 cap) 1 [.pointer (some ⟨w.heap.size + 2, 0, none⟩)]) :
    NewTP w (.returned (.tuple #[.pointer (some ⟨w.heap.size + 1, 0, none⟩), .int .i64 0])) (w4.setCell ⟨w.heap.size + 1, 2, none⟩ (.slice (some ⟨f, o, none⟩) 1 cap)) ∧ w4.cell? ⟨w.heap.size + 1, 2, none⟩ = some (.slice none 0 0) ∧ w4.frozen? ⟨w.heap.size + 1, 2, none⟩ = false := by
  have hp := Blk.new w #[.int .i64 256, .slice none 0 0] 142
  have ht := Blk.new (w.alloc (.cells #[.int .i64 256, .slice none 0 0] 142)) #[.int .i64 64, .pointer (some ⟨w.heap.size, 0, none⟩), .slice none 0 0] 106
  have s1 : (w.alloc (.cells #[.int .i64 256, .slice none 0 0] 142)).heap.size = w.heap.size + 1 := by simp
  rw [s1] at ht
  have hp2 := hp.alloc (.cells #[.int .i64 64, .pointer (some ⟨w.heap.size, 0, none⟩), .slice none 0 0] 106)
  have b2 : Below w.heap.size w ((w.alloc (.cells #[.int .i64 256, .slice none 0 0] 142)).alloc (.cells #[.int .i64 64, .pointer (some ⟨w.heap.size, 0, none⟩), .slice none 0 0] 106)) := ((Below.refl _ _).alloc (Nat.le_refl _) _).alloc (by simp) _
  have s2 : ((w.alloc (.cells #[.int .i64 256, .slice none 0 0] 142)).alloc (.cells #[.int .i64 64, .pointer (some ⟨w.heap.size, 0, none⟩), .slice none 0 0] 106)).heap.size = w.heap.size + 2 := by simp
  generalize (w.alloc (.cells #[.int .i64 256, .slice none 0 0] 142)).alloc (.cells #[.int .i64 64, .pointer (some ⟨w.heap.size, 0, none⟩), .slice none 0 0] 106) = w2 at *
  have hN := Blk.new w2 #[.int .i64 1, .int .i64 1, .int .i64 493, .int .i64 0, .int .i64 0, .int .i64 0, .int .i64 0, .string ⟨#[]⟩, .slice none 0 0, .int .i64 1, .int .i64 0, .int .i64 0, .int .i64 0] 110
  rw [s2] at hN
  have h0 : TreeAt (fun k => k = w.heap.size ∨ k = w.heap.size + 1) w2 (w.heap.size + 1) 0 64 w.heap.size (.slice none 0 0) [] [] :=
    ⟨ht, .inr rfl, ⟨256, .slice none 0 0, 0, [], hp2, .inl rfl, by omega, by omega, Win.nil _ _ _ _, fun k hk => (by cases hk), Nat.le_refl _, (by simp)⟩, Win.nil _ _ _ _, fun k hk => (by cases hk), rfl, Nat.le_refl _, fun i x b h => (by simp at h), fun i j x y b h => (by simp at h), fun i x h => (by simp at h), (by omega), (by omega)⟩
  have h1 := h0.below ((Below.refl w2.heap.size w2).alloc (Nat.le_refl _) (.cells #[.int .i64 1, .int .i64 1, .int .i64 493, .int .i64 0, .int .i64 0, .int .i64 0, .int .i64 0, .string ⟨#[]⟩, .slice none 0 0, .int .i64 1, .int .i64 0, .int .i64 0, .int .i64 0] 110))
  have b3 := b2.alloc b2.size (.cells #[.int .i64 1, .int .i64 1, .int .i64 493, .int .i64 0, .int .i64 0, .int .i64 0, .int .i64 0, .string ⟨#[]⟩, .slice none 0 0, .int .i64 1, .int .i64 0, .int .i64 0, .int .i64 0] 110)
  generalize w2.alloc (.cells #[.int .i64 1, .int .i64 1, .int .i64 493, .int .i64 0, .int .i64 0, .int .i64 0, .int .i64 0, .string ⟨#[]⟩, .slice none 0 0, .int .i64 1, .int .i64 0, .int .i64 0, .int .i64 0] 110) = w3 at *
  have ba : Below w3.heap.size w3 (w3.alloc (.cells #[.pointer (some ⟨w.heap.size + 2, 0, none⟩)] 107)) := (Below.refl _ _).alloc (Nat.le_refl _) _
  obtain ⟨⟨q1, q2, q3⟩, q4, q5⟩ := (h1.below ba).push (y := rootNd) (hN.alloc _) rfl rfl (fun i x b h => by simp at h) ⟨by simp [rootNd], by simp [rootNd], by simp [rootNd], by simp [rootNd], by decide, by simp [rootNd], by simp [rootNd], by simp [rootNd], by simp [rootNd], by simp [rootNd], by simp [rootNd], by simp [rootNd]⟩ ha (by simpa [ptrs] using hw)
  have b4 := b3.alloc b3.size (.cells #[.pointer (some ⟨w.heap.size + 2, 0, none⟩)] 107)
  have hf : w3.heap.size ≤ f ∧ Below (w3.alloc (.cells #[.pointer (some ⟨w.heap.size + 2, 0, none⟩)] 107)).heap.size (w3.alloc (.cells #[.pointer (some ⟨w.heap.size + 2, 0, none⟩)] 107)) w4 := by
    rcases ha with ⟨e, _⟩ | ⟨e1, e2⟩
    · cases e
    · have := ba.size
      exact ⟨by omega, e2⟩
  have hsz := b3.size
  refine ⟨⟨w.heap.size + 1, w.heap.size + 2, _, rfl, ?_, ?_, q1.tr⟩, q4, q5⟩
  · rintro k ((rfl | rfl) | rfl | rfl)
    · exact Nat.le_refl _
    · omega
    · omega
    · omega
  · exact (b4.trans (hf.2.mono b4.size)).setCell (by simp) _
set_option maxRecDepth 100000 in
theorem newt_any (w : World) : Calls Tryz.prog 17 #[.int .i64 64, .int .i64 256] w (NewTP w) := by
  have C1 := poolnew_any w 256
  obtain ⟨i107, h71, h72, h73, h74⟩ := info_parts info107
  go_enter Tryz.func17, Tryz.ntmps17
  go_upto_region 4 with (first | (go_at_call 36; refine C1.mono ?_; rintro e w1 ⟨rfl, rfl⟩))
  go_upto_region 5 with (first | (at_builtin; go_must (refine wpList_append_two _ rfl (.tmp 30) (.tmp 34) 104 rfl 0 107 i107 _ 1 8 Tryz.underlying104 h71 h72 h73 h74 rfl (by decide) (.slice none 0 0) 0 [] rfl (Win.nil _ _ _ _) ⟨w.heap.size + 3, 0, none⟩ 1 1 [.pointer (some ⟨w.heap.size + 2, 0, none⟩)] rfl rfl (by have := new_cells (((w.alloc (.cells #[.int .i64 256, .slice none 0 0] 142)).alloc (.cells #[.int .i64 64, .pointer (some ⟨w.heap.size, 0, none⟩), .slice none 0 0] 106)).alloc (.cells #[.int .i64 1, .int .i64 1, .int .i64 493, .int .i64 0, .int .i64 0, .int .i64 0, .int .i64 0, .string ⟨#[]⟩, .slice none 0 0, .int .i64 1, .int .i64 0, .int .i64 0, .int .i64 0] 110)) [.pointer (some ⟨w.heap.size + 2, 0, none⟩)] 107; simpa using this) (by simp [Value.oneCell']) (by decide) (by unfold maxLen; omega) (by omega) (Nat.zero_le _) ?_; intro f' o' cap' w8 hown happ; obtain ⟨HN, g2, g3⟩ := newt_step happ hown; have HN := Lib.hid HN; clear hown happ)))
  go_wp2_with fail
  go_ret2
  exact HN.out
end Go.Proofs.YtfjghemojnhmbaaGreat
