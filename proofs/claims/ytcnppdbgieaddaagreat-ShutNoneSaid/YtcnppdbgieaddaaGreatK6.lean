/- Words seen as things: the program's view: a channel, a sudog, a goroutine. -/
import Derived.Test.YtcnppdbgieaddaaGreatK5
import Derived.Deep.DrawnRows
namespace Go.Proofs.YtcnppdbgieaddaaGreat
open Go.RowKit
set_option linter.unusedVariables false
variable {w w' : World} {L : Lay} {s : PH}
attribute [local go_sem ↓] Go.wp_at_zero Go.wp_at_succ

structure PChan where
  (cap closed count start buf th tt sh st : Int)
structure PSudog where
  (gor chan value next goto reg more : Int)
abbrev PChan.v (c : PChan) : Value := .agg #[iv c.cap, iv c.closed, iv c.count, iv c.start, iv c.buf, iv c.th, iv c.tt, iv c.sh, iv c.st]
abbrev PSudog.v (c : PSudog) : Value := .agg #[iv c.gor, iv c.chan, iv c.value, iv c.next, iv c.goto, iv c.reg, iv c.more]
def PChan.zero : PChan := ⟨0, 0, 0, 0, 0, 0, 0, 0, 0⟩
def PSudog.zero : PSudog := ⟨0, 0, 0, 0, 0, 0, 0⟩
def nthI (l : List Int) (i : Nat) : Int := l.getD i 0
def chanOf (l : List Int) : PChan := ⟨numW (nthI l 0), numW (nthI l 1), numW (nthI l 2), numW (nthI l 3), atW (nthI l 4), atW (nthI l 5), atW (nthI l 6), atW (nthI l 7), atW (nthI l 8)⟩
def sudogOf (l : List Int) : PSudog := ⟨atW (nthI l 0), atW (nthI l 1), nthI l 2, atW (nthI l 3), numW (nthI l 4), numW (nthI l 5), atW (nthI l 6)⟩
/-- The channel at a place. -/
def chanA (A : AS) (a : Int) : Option PChan := (seenA A a 1).map chanOf
def sudogA (A : AS) (a : Int) : Option PSudog := (seenA A a 3).map sudogOf
def chanR (A : AS) (a : Int) : PChan × Int := match chanA A a with | some c => (c, 0) | none => (PChan.zero, 10)
def sudogR (A : AS) (a : Int) : PSudog × Int := match sudogA A a with | some c => (c, 0) | none => (PSudog.zero, 10)

theorem list9 {l : List Int} (h : l.length = 9) : ∃ a b c d e f g i j, l = [a, b, c, d, e, f, g, i, j] := by
  match l, h with
  | [a, b, c, d, e, f, g, i, j], _ => exact ⟨a, b, c, d, e, f, g, i, j, rfl⟩
theorem list7 {l : List Int} (h : l.length = 7) : ∃ a b c d e f g, l = [a, b, c, d, e, f, g] := by
  match l, h with
  | [a, b, c, d, e, f, g], _ => exact ⟨a, b, c, d, e, f, g, rfl⟩
theorem list10 {l : List Int} (h : l.length = 10) : ∃ a b c d e f g i j k, l = [a, b, c, d, e, f, g, i, j, k] := by
  match l, h with
  | [a, b, c, d, e, f, g, i, j, k], _ => exact ⟨a, b, c, d, e, f, g, i, j, k, rfl⟩
theorem seenA_i64 (h : s.A.I64) {a kind : Int} {ws : List Int} (e : seenA s.A a kind = some ws) : ∀ x ∈ ws, I64 x :=
  h _ _ _ (objA_nonneg (seenA_some e).1).2
/-- The slice of a row that is not empty lies in a block; its cells. -/
theorem own_cells {v : Value} {l : List Int} {base : Nat} (h : w.ownsRow base 3 1 v l.length (intsV l)) (hne : l ≠ []) :
    ∃ g cap, v = .slice (some ⟨g, 0, none⟩) l.length cap ∧ g < w.heap.size ∧ base ≤ g ∧ l.length ≤ cap ∧ ∀ i x, l[i]? = some x → w.cell? ⟨g, i, none⟩ = some (iv x) := by
  rcases h with ⟨h1, ⟨h2, h3⟩ | ⟨g, cap, cur, hv, hb, hg, hc, hm, hs, ht⟩⟩
  · exact absurd (List.eq_nil_of_length_eq_zero h3) hne
  · refine ⟨g, cap, hv, (Array.getElem?_eq_some_iff.1 hg).1, hb, hc, fun i x hx => ?_⟩
    have hi := (List.getElem?_eq_some_iff.1 hx).1
    have : (intsV l)[i]? = some (iv x) := by simp [intsV, hx]
    rw [← ht, List.getElem?_take, if_pos (by omega)] at this
    simp only [World.cell?, hg]
    simpa using this
theorem Below.set7 {n b : Nat} {a w : World} (h : Below n a w) (hb : n ≤ b) (v0 v1 v2 v3 v4 v5 v6 : Value) : Below n a (((((((w.setCell ⟨b, 0, none⟩ v0).setCell ⟨b, 1, none⟩ v1).setCell ⟨b, 2, none⟩ v2).setCell ⟨b, 3, none⟩ v3).setCell ⟨b, 4, none⟩ v4).setCell ⟨b, 5, none⟩ v5).setCell ⟨b, 6, none⟩ v6) :=
  ((((((h.setCell (p := ⟨b, 0, none⟩) hb v0).setCell (p := ⟨b, 1, none⟩) hb v1).setCell (p := ⟨b, 2, none⟩) hb v2).setCell (p := ⟨b, 3, none⟩) hb v3).setCell (p := ⟨b, 4, none⟩) hb v4).setCell (p := ⟨b, 5, none⟩) hb v5).setCell (p := ⟨b, 6, none⟩) hb v6
theorem Below.set9 {n b : Nat} {a w : World} (h : Below n a w) (hb : n ≤ b) (v0 v1 v2 v3 v4 v5 v6 v7 v8 : Value) : Below n a (((((((((w.setCell ⟨b, 0, none⟩ v0).setCell ⟨b, 1, none⟩ v1).setCell ⟨b, 2, none⟩ v2).setCell ⟨b, 3, none⟩ v3).setCell ⟨b, 4, none⟩ v4).setCell ⟨b, 5, none⟩ v5).setCell ⟨b, 6, none⟩ v6).setCell ⟨b, 7, none⟩ v7).setCell ⟨b, 8, none⟩ v8) :=
  ((Below.set7 h hb v0 v1 v2 v3 v4 v5 v6).setCell (p := ⟨b, 7, none⟩) hb v7).setCell (p := ⟨b, 8, none⟩) hb v8
theorem Blk.at {b : Nat} {vs : List Value} (h : Blk w b vs) (i : Nat) {v : Value} (e : vs[i]? = some v) : w.cell? ⟨b, i, none⟩ = some v := (h.cell i).trans e

set_option maxHeartbeats 4000000 in
set_option maxRecDepth 100000 in
theorem vchan_c (w : World) (h : HeapAt w L s) (a : Int) : Calls Tryz.prog 40 #[hptr L, iv a] w fun e w' => e = .returned (.tuple #[(chanR s.A a).1.v, iv (chanR s.A a).2]) ∧ Below w.heap.size w w' := by
  have hs := seen_c (w.alloc (.cells #[iv 0, iv 0, iv 0, iv 0, iv 0, iv 0, iv 0, iv 0, iv 0] 63)) (h.below ((Below.refl _ _).alloc (Nat.le_refl _) _)) a 1 (by omega) (by omega)
  cases e : seenA s.A a 1 with
  | none =>
    rw [e] at hs
    have hr : Hid (chanR s.A a = (PChan.zero, 10)) := by simp [Hid, chanR, chanA, e]
    have HS := Lib.hid hs; clear hs h e
    go_enter Tryz.func40, Tryz.ntmps40
    go_wp2_with fail
    refine HS.out.mono ?_
    rintro e w1 ⟨b1, rfl⟩
    have kb : Blk w1 w.heap.size [iv 0, iv 0, iv 0, iv 0, iv 0, iv 0, iv 0, iv 0, iv 0] := (Blk.new w _ _).keep (b1.block _ (by simp))
    have k0 := kb.at 0 rfl; have k1 := kb.at 1 rfl; have k2 := kb.at 2 rfl; have k3 := kb.at 3 rfl; have k4 := kb.at 4 rfl; have k5 := kb.at 5 rfl; have k6 := kb.at 6 rfl; have k7 := kb.at 7 rfl; have k8 := kb.at 8 rfl
    have g0 := kb.free 0; have g1 := kb.free 1; have g2 := kb.free 2; have g3 := kb.free 3; have g4 := kb.free 4; have g5 := kb.free 5; have g6 := kb.free 6; have g7 := kb.free 7; have g8 := kb.free 8
    have B1 := Lib.hid b1; clear b1 kb HS
    go_wp2
    exact bodyPost_ret (v := .tuple #[PChan.zero.v, iv 10]) (by simp [results, Tryz.results40, go_sem, k0, k1, k2, k3, k4, k5, k6, k7, k8, PChan.zero]) rfl ⟨ret_eq (by rw [hr.out]), by
      have hb := ((Below.refl w.heap.size w).alloc (Nat.le_refl _) _).trans (B1.out.mono (by simp))
      exact Below.set9 hb (Nat.le_refl _) _ _ _ _ _ _ _ _ _⟩
  | some ws =>
    rw [e] at hs
    have h64 := seenA_i64 h.i64 e
    obtain ⟨x0, x1, x2, x3, x4, x5, x6, x7, x8, rfl⟩ := list9 (seenA_some e).2
    have hr : Hid (chanR s.A a = (chanOf [x0, x1, x2, x3, x4, x5, x6, x7, x8], 0)) := by simp [Hid, chanR, chanA, e]
    have n0 := Lib.hid (num_c x0 (h64 _ (by simp))); have n1 := Lib.hid (num_c x1 (h64 _ (by simp))); have n2 := Lib.hid (num_c x2 (h64 _ (by simp))); have n3 := Lib.hid (num_c x3 (h64 _ (by simp)))
    have n4 := Lib.hid (at_c x4 (h64 _ (by simp))); have n5 := Lib.hid (at_c x5 (h64 _ (by simp))); have n6 := Lib.hid (at_c x6 (h64 _ (by simp))); have n7 := Lib.hid (at_c x7 (h64 _ (by simp))); have n8 := Lib.hid (at_c x8 (h64 _ (by simp)))
    have HS := Lib.hid hs; clear hs h e h64
    go_enter Tryz.func40, Tryz.ntmps40
    go_wp2_with fail
    refine HS.out.mono ?_
    rintro e w1 ⟨b1, v, rfl, ho⟩
    obtain ⟨g, cap, rfl, hg, hgb, hcap, hc⟩ := own_cells ho (by simp)
    have c0 := hc 0 _ rfl; have c1 := hc 1 _ rfl; have c2 := hc 2 _ rfl; have c3 := hc 3 _ rfl; have c4 := hc 4 _ rfl
    have c5 := hc 5 _ rfl; have c6 := hc 6 _ rfl; have c7 := hc 7 _ rfl; have c8 := hc 8 _ rfl
    have B1 := Lib.hid b1
    clear ho hc HS b1
    have kb : Blk w1 w.heap.size [iv 0, iv 0, iv 0, iv 0, iv 0, iv 0, iv 0, iv 0, iv 0] := (Blk.new w _ _).keep (B1.out.block _ (by simp))
    have k0 := kb.at 0 rfl; have k1 := kb.at 1 rfl; have k2 := kb.at 2 rfl; have k3 := kb.at 3 rfl; have k4 := kb.at 4 rfl; have k5 := kb.at 5 rfl; have k6 := kb.at 6 rfl; have k7 := kb.at 7 rfl; have k8 := kb.at 8 rfl
    have g0 := kb.free 0; have g1 := kb.free 1; have g2 := kb.free 2; have g3 := kb.free 3; have g4 := kb.free 4; have g5 := kb.free 5; have g6 := kb.free 6; have g7 := kb.free 7; have g8 := kb.free 8
    clear kb
    have hne1 : w.heap.size ≠ g := by simp only [World.size_alloc] at hgb; omega
    have hne2 : g ≠ w.heap.size := fun q => hne1 q.symm
    clear hgb hcap
    go_wp2_with fail
    go_region_held3 (fun w' => w'.cell? ⟨g, 0, none⟩ = some (iv x0) ∧ w'.cell? ⟨g, 1, none⟩ = some (iv x1) ∧ w'.cell? ⟨g, 2, none⟩ = some (iv x2) ∧ w'.cell? ⟨g, 3, none⟩ = some (iv x3) ∧ w'.cell? ⟨g, 4, none⟩ = some (iv x4) ∧ w'.cell? ⟨g, 5, none⟩ = some (iv x5) ∧ w'.cell? ⟨g, 6, none⟩ = some (iv x6) ∧ w'.cell? ⟨g, 7, none⟩ = some (iv x7) ∧ w'.cell? ⟨g, 8, none⟩ = some (iv x8)) (go_keep)
      (first | (go_at_call_of 121 (iv x0); refine (n0.out _).mono ?_; rintro e w' ⟨rfl, rfl⟩) | (go_at_call_of 121 (iv x1); refine (n1.out _).mono ?_; rintro e w' ⟨rfl, rfl⟩) | (go_at_call_of 121 (iv x2); refine (n2.out _).mono ?_; rintro e w' ⟨rfl, rfl⟩) | (go_at_call_of 121 (iv x3); refine (n3.out _).mono ?_; rintro e w' ⟨rfl, rfl⟩) | (go_at_call_of 122 (iv x4); refine (n4.out _).mono ?_; rintro e w' ⟨rfl, rfl⟩) | (go_at_call_of 122 (iv x5); refine (n5.out _).mono ?_; rintro e w' ⟨rfl, rfl⟩) | (go_at_call_of 122 (iv x6); refine (n6.out _).mono ?_; rintro e w' ⟨rfl, rfl⟩) | (go_at_call_of 122 (iv x7); refine (n7.out _).mono ?_; rintro e w' ⟨rfl, rfl⟩) | (go_at_call_of 122 (iv x8); refine (n8.out _).mono ?_; rintro e w' ⟨rfl, rfl⟩))
    go_wp2
    exact bodyPost_ret (v := .tuple #[(chanOf [x0, x1, x2, x3, x4, x5, x6, x7, x8]).v, iv 0]) (by simp [results, Tryz.results40, go_sem, k0, k1, k2, k3, k4, k5, k6, k7, k8, chanOf, nthI]) rfl ⟨ret_eq (by rw [hr.out]), by
      have hb := ((Below.refl w.heap.size w).alloc (Nat.le_refl _) _).trans (B1.out.mono (by simp))
      exact (Below.set9 hb (Nat.le_refl _) _ _ _ _ _ _ _ _ _).drew⟩
end Go.Proofs.YtcnppdbgieaddaaGreat
