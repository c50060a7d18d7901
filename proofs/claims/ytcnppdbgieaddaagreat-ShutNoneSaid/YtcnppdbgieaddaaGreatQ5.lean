/- The document's side: a channel, a sudog, seen; laid. -/
import Derived.Test.YtcnppdbgieaddaaGreatQ4
import Derived.Test.YtcnppdbgieaddaaGreatK7
import Derived.Deep.DrawnRows
namespace Go.Proofs.YtcnppdbgieaddaaGreat
open Go.RowKit
set_option linter.unusedVariables false
set_option linter.unusedSimpArgs false
variable {w w' : World} {R : RLay} {s : PH}
attribute [local go_sem ↓] Go.wp_at_zero Go.wp_at_succ

theorem RPost.after {w1 : World} {s' : PH} {r : Value} {e : Ending} (hb : Below w.heap.size w w1) (h : RPost R s' r w1 e w') : RPost R s' r w e w' := by
  obtain ⟨h0, R', h1, h2, h3, h4⟩ := h
  exact ⟨h0, R', h1, h2, h3, (Stp.below hb).trans h4⟩
set_option maxHeartbeats 4000000 in
set_option maxRecDepth 100000 in
theorem rchan_c (w : World) (h : RefAt w R s) (a : Int) : Calls Tryz.prog 47 #[rptr R, iv a] w fun e w' => e = .returned (.tuple #[(chanR s.A a).1.v, iv (chanR s.A a).2]) ∧ Below w.heap.size w w' := by
  have hs := rwds_c (w.alloc (.cells #[iv 0, iv 0, iv 0, iv 0, iv 0, iv 0, iv 0, iv 0, iv 0] 63)) (h.below ((Below.refl _ _).alloc (Nat.le_refl _) _)) a 1 (by omega) (by omega)
  cases e : seenA s.A a 1 with
  | none =>
    rw [e] at hs
    have hr : Hid (chanR s.A a = (PChan.zero, 10)) := by simp [Hid, chanR, chanA, e]
    have HS := Lib.hid hs; clear hs h e
    go_enter Tryz.func47, Tryz.ntmps47
    go_wp2_with fail
    refine HS.out.mono ?_
    rintro e w1 ⟨b1, rfl⟩
    have kb : Blk w1 w.heap.size [iv 0, iv 0, iv 0, iv 0, iv 0, iv 0, iv 0, iv 0, iv 0] := (Blk.new w _ _).keep (b1.block _ (by simp))
    have k0 := kb.at 0 rfl; have k1 := kb.at 1 rfl; have k2 := kb.at 2 rfl; have k3 := kb.at 3 rfl; have k4 := kb.at 4 rfl; have k5 := kb.at 5 rfl; have k6 := kb.at 6 rfl; have k7 := kb.at 7 rfl; have k8 := kb.at 8 rfl
    have g0 := kb.free 0; have g1 := kb.free 1; have g2 := kb.free 2; have g3 := kb.free 3; have g4 := kb.free 4; have g5 := kb.free 5; have g6 := kb.free 6; have g7 := kb.free 7; have g8 := kb.free 8
    have B1 := Lib.hid b1; clear b1 kb HS
    go_wp2
    exact bodyPost_ret (v := .tuple #[PChan.zero.v, iv 10]) (by simp [results, Tryz.results47, go_sem, k0, k1, k2, k3, k4, k5, k6, k7, k8, PChan.zero]) rfl ⟨ret_eq (by rw [hr.out]), by
      have hb := ((Below.refl w.heap.size w).alloc (Nat.le_refl _) _).trans (B1.out.mono (by simp))
      exact Below.set9 hb (Nat.le_refl _) _ _ _ _ _ _ _ _ _⟩
  | some ws =>
    rw [e] at hs
    have h64 := seenA_i64 h.i64 e
    obtain ⟨x0, x1, x2, x3, x4, x5, x6, x7, x8, rfl⟩ := list9 (seenA_some e).2
    have hr : Hid (chanR s.A a = (chanOf [x0, x1, x2, x3, x4, x5, x6, x7, x8], 0)) := by simp [Hid, chanR, chanA, e]
    have n0 := Lib.hid (rnumber_c x0 (h64 _ (by simp))); have n1 := Lib.hid (rnumber_c x1 (h64 _ (by simp))); have n2 := Lib.hid (rnumber_c x2 (h64 _ (by simp))); have n3 := Lib.hid (rnumber_c x3 (h64 _ (by simp)))
    have n4 := Lib.hid (rplace_c x4 (h64 _ (by simp))); have n5 := Lib.hid (rplace_c x5 (h64 _ (by simp))); have n6 := Lib.hid (rplace_c x6 (h64 _ (by simp))); have n7 := Lib.hid (rplace_c x7 (h64 _ (by simp))); have n8 := Lib.hid (rplace_c x8 (h64 _ (by simp)))
    have HS := Lib.hid hs; clear hs h e h64
    go_enter Tryz.func47, Tryz.ntmps47
    go_wp2_with fail
    refine HS.out.mono ?_
    rintro e w1 ⟨b1, v, rfl, ho⟩
    obtain ⟨g, cap, rfl, hg, hgb, hcap, hc⟩ := own_cells ho (by simp)
    have c0 := hc 0 _ rfl; have c1 := hc 1 _ rfl; have c2 := hc 2 _ rfl; have c3 := hc 3 _ rfl; have c4 := hc 4 _ rfl
    have c5 := hc 5 _ rfl; have c6 := hc 6 _ rfl; have c7 := hc 7 _ rfl; have c8 := hc 8 _ rfl
    have B1 := Lib.hid b1
    clear ho hc HS b1
    have kb : Blk w1 w.heap.size [iv 0, iv 0, iv 0, iv 0, iv 0, iv 0, iv 0, iv 0, iv 0] := (Blk.new w _ _).keep (B1.out.block _ (by simp))
    have k0 := kb.at 0 rfl; have k1 := kb.at 1 rfl; have k2 := kb.at 2 rfl; have k3 := kb.at 3 rfl; have k4 := kb.at 4 rfl; have k5 := kb.at 5 rfl; have k6 := kb.at 6 rfl; have k7 := kb.at 7 rfl; have k8 := kb.at 8 rfl
    have g0 := kb.free 0; have g1 := kb.free 1; have g2 := kb.free 2; have g3 := kb.free 3; have g4 := kb.free 4; have g5 := kb.free 5; have g6 := kb.free 6; have g7 := kb.free 7; have g8 := kb.free 8
    clear kb
    have hne1 : w.heap.size ≠ g := by simp only [World.size_alloc] at hgb; omega
    have hne2 : g ≠ w.heap.size := fun q => hne1 q.symm
    clear hgb hcap
    go_wp2_with fail
    go_region_held3 (fun w' => w'.cell? ⟨g, 0, none⟩ = some (iv x0) ∧ w'.cell? ⟨g, 1, none⟩ = some (iv x1) ∧ w'.cell? ⟨g, 2, none⟩ = some (iv x2) ∧ w'.cell? ⟨g, 3, none⟩ = some (iv x3) ∧ w'.cell? ⟨g, 4, none⟩ = some (iv x4) ∧ w'.cell? ⟨g, 5, none⟩ = some (iv x5) ∧ w'.cell? ⟨g, 6, none⟩ = some (iv x6) ∧ w'.cell? ⟨g, 7, none⟩ = some (iv x7) ∧ w'.cell? ⟨g, 8, none⟩ = some (iv x8)) (go_keep)
      (first | (go_at_call_of 138 (iv x0); refine (n0.out _).mono ?_; rintro e w' ⟨rfl, rfl⟩) | (go_at_call_of 138 (iv x1); refine (n1.out _).mono ?_; rintro e w' ⟨rfl, rfl⟩) | (go_at_call_of 138 (iv x2); refine (n2.out _).mono ?_; rintro e w' ⟨rfl, rfl⟩) | (go_at_call_of 138 (iv x3); refine (n3.out _).mono ?_; rintro e w' ⟨rfl, rfl⟩) | (go_at_call_of 139 (iv x4); refine (n4.out _).mono ?_; rintro e w' ⟨rfl, rfl⟩) | (go_at_call_of 139 (iv x5); refine (n5.out _).mono ?_; rintro e w' ⟨rfl, rfl⟩) | (go_at_call_of 139 (iv x6); refine (n6.out _).mono ?_; rintro e w' ⟨rfl, rfl⟩) | (go_at_call_of 139 (iv x7); refine (n7.out _).mono ?_; rintro e w' ⟨rfl, rfl⟩) | (go_at_call_of 139 (iv x8); refine (n8.out _).mono ?_; rintro e w' ⟨rfl, rfl⟩))
    go_wp2
    exact bodyPost_ret (v := .tuple #[(chanOf [x0, x1, x2, x3, x4, x5, x6, x7, x8]).v, iv 0]) (by simp [results, Tryz.results47, go_sem, k0, k1, k2, k3, k4, k5, k6, k7, k8, chanOf, nthI]) rfl ⟨ret_eq (by rw [hr.out]), by
      have hb := ((Below.refl w.heap.size w).alloc (Nat.le_refl _) _).trans (B1.out.mono (by simp))
      exact (Below.set9 hb (Nat.le_refl _) _ _ _ _ _ _ _ _ _).drew⟩

set_option maxHeartbeats 4000000 in
set_option maxRecDepth 100000 in
theorem rsudog_c (w : World) (h : RefAt w R s) (a : Int) : Calls Tryz.prog 209 #[rptr R, iv a] w fun e w' => e = .returned (.tuple #[(sudogR s.A a).1.v, iv (sudogR s.A a).2]) ∧ Below w.heap.size w w' := by
  have hs := rwds_c (w.alloc (.cells #[iv 0, iv 0, iv 0, iv 0, iv 0, iv 0, iv 0] 36)) (h.below ((Below.refl _ _).alloc (Nat.le_refl _) _)) a 3 (by omega) (by omega)
  cases e : seenA s.A a 3 with
  | none =>
    rw [e] at hs
    have hr : Hid (sudogR s.A a = (PSudog.zero, 10)) := by simp [Hid, sudogR, sudogA, e]
    have HS := Lib.hid hs; clear hs h e
    go_enter Tryz.func209, Tryz.ntmps209
    go_wp2_with fail
    refine HS.out.mono ?_
    rintro e w1 ⟨b1, rfl⟩
    have kb : Blk w1 w.heap.size [iv 0, iv 0, iv 0, iv 0, iv 0, iv 0, iv 0] := (Blk.new w _ _).keep (b1.block _ (by simp))
    have k0 := kb.at 0 rfl; have k1 := kb.at 1 rfl; have k2 := kb.at 2 rfl; have k3 := kb.at 3 rfl; have k4 := kb.at 4 rfl; have k5 := kb.at 5 rfl; have k6 := kb.at 6 rfl
    have g0 := kb.free 0; have g1 := kb.free 1; have g2 := kb.free 2; have g3 := kb.free 3; have g4 := kb.free 4; have g5 := kb.free 5; have g6 := kb.free 6
    have B1 := Lib.hid b1; clear b1 kb HS
    go_wp2
    exact bodyPost_ret (v := .tuple #[PSudog.zero.v, iv 10]) (by simp [results, Tryz.results209, go_sem, k0, k1, k2, k3, k4, k5, k6, PSudog.zero]) rfl ⟨ret_eq (by rw [hr.out]), by
      have hb := ((Below.refl w.heap.size w).alloc (Nat.le_refl _) _).trans (B1.out.mono (by simp))
      exact Below.set7 hb (Nat.le_refl _) _ _ _ _ _ _ _⟩
  | some ws =>
    rw [e] at hs
    have h64 := seenA_i64 h.i64 e
    obtain ⟨x0, x1, x2, x3, x4, x5, x6, rfl⟩ := list7 (seenA_some e).2
    have hr : Hid (sudogR s.A a = (sudogOf [x0, x1, x2, x3, x4, x5, x6], 0)) := by simp [Hid, sudogR, sudogA, e]
    have n0 := Lib.hid (rplace_c x0 (h64 _ (by simp)))
    have n1 := Lib.hid (rplace_c x1 (h64 _ (by simp)))
    have n3 := Lib.hid (rplace_c x3 (h64 _ (by simp)))
    have n4 := Lib.hid (rnumber_c x4 (h64 _ (by simp)))
    have n5 := Lib.hid (rnumber_c x5 (h64 _ (by simp)))
    have n6 := Lib.hid (rplace_c x6 (h64 _ (by simp)))
    have HS := Lib.hid hs; clear hs h e h64
    go_enter Tryz.func209, Tryz.ntmps209
    go_wp2_with fail
    refine HS.out.mono ?_
    rintro e w1 ⟨b1, v, rfl, ho⟩
    obtain ⟨g, cap, rfl, hg, hgb, hcap, hc⟩ := own_cells ho (by simp)
    have c0 := hc 0 _ rfl; have c1 := hc 1 _ rfl; have c2 := hc 2 _ rfl; have c3 := hc 3 _ rfl; have c4 := hc 4 _ rfl; have c5 := hc 5 _ rfl; have c6 := hc 6 _ rfl
    have B1 := Lib.hid b1
    clear ho hc HS
    have kb : Blk w1 w.heap.size [iv 0, iv 0, iv 0, iv 0, iv 0, iv 0, iv 0] := (Blk.new w _ _).keep (b1.block _ (by simp))
    have k0 := kb.at 0 rfl; have k1 := kb.at 1 rfl; have k2 := kb.at 2 rfl; have k3 := kb.at 3 rfl; have k4 := kb.at 4 rfl; have k5 := kb.at 5 rfl; have k6 := kb.at 6 rfl
    have g0 := kb.free 0; have g1 := kb.free 1; have g2 := kb.free 2; have g3 := kb.free 3; have g4 := kb.free 4; have g5 := kb.free 5; have g6 := kb.free 6
    clear kb b1
    have hne1 : w.heap.size ≠ g := by simp only [World.size_alloc] at hgb; omega
    have hne2 : g ≠ w.heap.size := fun q => hne1 q.symm
    clear hgb hcap
    go_wp2_with fail
    go_region_held3 (fun w' => w'.cell? ⟨g, 0, none⟩ = some (iv x0) ∧ w'.cell? ⟨g, 1, none⟩ = some (iv x1) ∧ w'.cell? ⟨g, 2, none⟩ = some (iv x2) ∧ w'.cell? ⟨g, 3, none⟩ = some (iv x3) ∧ w'.cell? ⟨g, 4, none⟩ = some (iv x4) ∧ w'.cell? ⟨g, 5, none⟩ = some (iv x5) ∧ w'.cell? ⟨g, 6, none⟩ = some (iv x6)) (go_keep)
      (first | (go_at_call_of 139 (iv x0); refine (n0.out _).mono ?_; rintro e w' ⟨rfl, rfl⟩) | (go_at_call_of 139 (iv x1); refine (n1.out _).mono ?_; rintro e w' ⟨rfl, rfl⟩) | (go_at_call_of 139 (iv x3); refine (n3.out _).mono ?_; rintro e w' ⟨rfl, rfl⟩) | (go_at_call_of 138 (iv x4); refine (n4.out _).mono ?_; rintro e w' ⟨rfl, rfl⟩) | (go_at_call_of 138 (iv x5); refine (n5.out _).mono ?_; rintro e w' ⟨rfl, rfl⟩) | (go_at_call_of 139 (iv x6); refine (n6.out _).mono ?_; rintro e w' ⟨rfl, rfl⟩))
    go_wp2
    exact bodyPost_ret (v := .tuple #[(sudogOf [x0, x1, x2, x3, x4, x5, x6]).v, iv 0]) (by simp [results, Tryz.results209, go_sem, k0, k1, k2, k3, k4, k5, k6, sudogOf, nthI]) rfl ⟨ret_eq (by rw [hr.out]), by
      have hb := ((Below.refl w.heap.size w).alloc (Nat.le_refl _) _).trans (B1.out.mono (by simp))
      exact (Below.set7 hb (Nat.le_refl _) _ _ _ _ _ _ _).drew⟩
end Go.Proofs.YtcnppdbgieaddaaGreat
