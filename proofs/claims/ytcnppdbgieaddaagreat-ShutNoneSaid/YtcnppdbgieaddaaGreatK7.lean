/- Words seen as things: the program's view: a sudog. Words seen as things: the program's view: a channel, a sudog is laid. Words seen as things: the program's view: a sudog is laid. -/
import Derived.Test.YtcnppdbgieaddaaGreatK6
namespace Go.Proofs.YtcnppdbgieaddaaGreat
open Go.RowKit
set_option linter.unusedVariables false
variable {w w' : World} {L : Lay} {s : PH}
attribute [local go_sem ↓] Go.wp_at_zero Go.wp_at_succ

set_option maxHeartbeats 4000000 in
set_option maxRecDepth 100000 in
theorem vsudog_c (w : World) (h : HeapAt w L s) (a : Int) : Calls Tryz.prog 113 #[hptr L, iv a] w fun e w' => e = .returned (.tuple #[(sudogR s.A a).1.v, iv (sudogR s.A a).2]) ∧ Below w.heap.size w w' := by
  have hs := seen_c (w.alloc (.cells #[iv 0, iv 0, iv 0, iv 0, iv 0, iv 0, iv 0] 36)) (h.below ((Below.refl _ _).alloc (Nat.le_refl _) _)) a 3 (by omega) (by omega)
  cases e : seenA s.A a 3 with
  | none =>
    rw [e] at hs
    have hr : Hid (sudogR s.A a = (PSudog.zero, 10)) := by simp [Hid, sudogR, sudogA, e]
    have HS := Lib.hid hs; clear hs h e
    go_enter Tryz.func113, Tryz.ntmps113
    go_wp2_with fail
    refine HS.out.mono ?_
    rintro e w1 ⟨b1, rfl⟩
    have kb : Blk w1 w.heap.size [iv 0, iv 0, iv 0, iv 0, iv 0, iv 0, iv 0] := (Blk.new w _ _).keep (b1.block _ (by simp))
    have k0 := kb.at 0 rfl; have k1 := kb.at 1 rfl; have k2 := kb.at 2 rfl; have k3 := kb.at 3 rfl; have k4 := kb.at 4 rfl; have k5 := kb.at 5 rfl; have k6 := kb.at 6 rfl
    have g0 := kb.free 0; have g1 := kb.free 1; have g2 := kb.free 2; have g3 := kb.free 3; have g4 := kb.free 4; have g5 := kb.free 5; have g6 := kb.free 6
    have B1 := Lib.hid b1; clear b1 kb HS
    go_wp2
    exact bodyPost_ret (v := .tuple #[PSudog.zero.v, iv 10]) (by simp [results, Tryz.results113, go_sem, k0, k1, k2, k3, k4, k5, k6, PSudog.zero]) rfl ⟨ret_eq (by rw [hr.out]), by
      have hb := ((Below.refl w.heap.size w).alloc (Nat.le_refl _) _).trans (B1.out.mono (by simp))
      exact Below.set7 hb (Nat.le_refl _) _ _ _ _ _ _ _⟩
  | some ws =>
    rw [e] at hs
    have h64 := seenA_i64 h.i64 e
    obtain ⟨x0, x1, x2, x3, x4, x5, x6, rfl⟩ := list7 (seenA_some e).2
    have hr : Hid (sudogR s.A a = (sudogOf [x0, x1, x2, x3, x4, x5, x6], 0)) := by simp [Hid, sudogR, sudogA, e]
    have n0 := Lib.hid (at_c x0 (h64 _ (by simp)))
    have n1 := Lib.hid (at_c x1 (h64 _ (by simp)))
    have n3 := Lib.hid (at_c x3 (h64 _ (by simp)))
    have n4 := Lib.hid (num_c x4 (h64 _ (by simp)))
    have n5 := Lib.hid (num_c x5 (h64 _ (by simp)))
    have n6 := Lib.hid (at_c x6 (h64 _ (by simp)))
    have HS := Lib.hid hs; clear hs h e h64
    go_enter Tryz.func113, Tryz.ntmps113
    go_wp2_with fail
    refine HS.out.mono ?_
    rintro e w1 ⟨b1, v, rfl, ho⟩
    obtain ⟨g, cap, rfl, hg, hgb, hcap, hc⟩ := own_cells ho (by simp)
    have c0 := hc 0 _ rfl; have c1 := hc 1 _ rfl; have c2 := hc 2 _ rfl; have c3 := hc 3 _ rfl; have c4 := hc 4 _ rfl; have c5 := hc 5 _ rfl; have c6 := hc 6 _ rfl
    have B1 := Lib.hid b1
    clear ho hc HS
    have kb : Blk w1 w.heap.size [iv 0, iv 0, iv 0, iv 0, iv 0, iv 0, iv 0] := (Blk.new w _ _).keep (b1.block _ (by simp))
    have k0 := kb.at 0 rfl; have k1 := kb.at 1 rfl; have k2 := kb.at 2 rfl; have k3 := kb.at 3 rfl; have k4 := kb.at 4 rfl; have k5 := kb.at 5 rfl; have k6 := kb.at 6 rfl
    have g0 := kb.free 0; have g1 := kb.free 1; have g2 := kb.free 2; have g3 := kb.free 3; have g4 := kb.free 4; have g5 := kb.free 5; have g6 := kb.free 6
    clear kb b1
    have hne1 : w.heap.size ≠ g := by simp only [World.size_alloc] at hgb; omega
    have hne2 : g ≠ w.heap.size := fun q => hne1 q.symm
    clear hgb hcap
    go_wp2_with fail
    go_region_held3 (fun w' => w'.cell? ⟨g, 0, none⟩ = some (iv x0) ∧ w'.cell? ⟨g, 1, none⟩ = some (iv x1) ∧ w'.cell? ⟨g, 2, none⟩ = some (iv x2) ∧ w'.cell? ⟨g, 3, none⟩ = some (iv x3) ∧ w'.cell? ⟨g, 4, none⟩ = some (iv x4) ∧ w'.cell? ⟨g, 5, none⟩ = some (iv x5) ∧ w'.cell? ⟨g, 6, none⟩ = some (iv x6)) (go_keep)
      (first | (go_at_call_of 122 (iv x0); refine (n0.out _).mono ?_; rintro e w' ⟨rfl, rfl⟩) | (go_at_call_of 122 (iv x1); refine (n1.out _).mono ?_; rintro e w' ⟨rfl, rfl⟩) | (go_at_call_of 122 (iv x3); refine (n3.out _).mono ?_; rintro e w' ⟨rfl, rfl⟩) | (go_at_call_of 121 (iv x4); refine (n4.out _).mono ?_; rintro e w' ⟨rfl, rfl⟩) | (go_at_call_of 121 (iv x5); refine (n5.out _).mono ?_; rintro e w' ⟨rfl, rfl⟩) | (go_at_call_of 122 (iv x6); refine (n6.out _).mono ?_; rintro e w' ⟨rfl, rfl⟩))
    go_wp2
    exact bodyPost_ret (v := .tuple #[(sudogOf [x0, x1, x2, x3, x4, x5, x6]).v, iv 0]) (by simp [results, Tryz.results113, go_sem, k0, k1, k2, k3, k4, k5, k6, sudogOf, nthI]) rfl ⟨ret_eq (by rw [hr.out]), by
      have hb := ((Below.refl w.heap.size w).alloc (Nat.le_refl _) _).trans (B1.out.mono (by simp))
      exact (Below.set7 hb (Nat.le_refl _) _ _ _ _ _ _ _).drew⟩
end Go.Proofs.YtcnppdbgieaddaaGreat

namespace Go.Proofs.YtcnppdbgieaddaaGreat
open Go.RowKit
set_option linter.unusedVariables false
variable {w w' : World} {L : Lay} {s : PH}
attribute [local go_sem ↓] Go.wp_at_zero Go.wp_at_succ

def chanL (c : PChan) : List Int := [intW c.cap, intW c.closed, intW c.count, intW c.start, ptrOr c.buf, ptrOr c.th, ptrOr c.tt, ptrOr c.sh, ptrOr c.st]
def sudogL (c : PSudog) : List Int := [ptrOr c.gor, ptrOr c.chan, c.value, ptrOr c.next, intW c.goto, intW c.reg, ptrOr c.more]
theorem i64_wrap (x : Int) : I64 (wrap64 x) := by unfold I64 wrap64; constructor <;> omega
theorem i64_intW (x : Int) : I64 (intW x) := i64_wrap _
theorem i64_ptrOr (x : Int) : I64 (ptrOr x) := by
  unfold ptrOr; split
  · exact i64_wrap _
  · exact i64_wrap _
def putChanH (s : PH) (a : Int) (c : PChan) : PH × Int := putH s a 1 (chanL c)
def putSudogH (s : PH) (a : Int) (c : PSudog) : PH × Int := putH s a 3 (sudogL c)

theorem HPost.after {w1 : World} {s' : PH} {r : Value} {e : Ending} (hb : Below w.heap.size w w1) (h : HPost L s' r w1 e w') : HPost L s' r w e w' := by
  obtain ⟨h0, L', h1, h2, h3, h4⟩ := h
  exact ⟨h0, L', h1, h2, h3, (Stp.below hb).trans h4⟩
theorem HPost.out {s' : PH} {r : Value} {e : Ending} (h : HPost L s' r w e w') : ∃ L', HeapAt w' L' s' ∧ L'.hb = L.hb ∧ L'.ab = L.ab ∧ Stp L.own L'.own w w' := h.2
theorem size_drew (w : World) : w.drew.heap.size = w.heap.size := rfl
/-- Words laid out of a slice of one's own, behind a box of one's own. -/
theorem put_new (w : World) (h : HeapAt w L s) (a kind : Int) (hk : 1 ≤ kind) (hk2 : kind ≠ 2) (l : List Int) (hl : l.length = fieldsN kind) (h64 : ∀ x ∈ l, I64 x) (vs : List Value) (t t2 : TypeId) (W : World) (hW : W = ((w.alloc (.cells vs.toArray t)).drew.alloc (.cells (intsV l).toArray t2))) :
    Calls Tryz.prog 110 #[hptr L, iv a, iv kind, .slice (some ⟨w.heap.size + 1, 0, none⟩) l.length l.length] W fun e w' => e = .returned (iv (putH s a kind l).2) ∧ HPost L (putH s a kind l).1 (iv (putH s a kind l).2) w e w' ∧ Blk w' w.heap.size vs := by
  have hb : Below w.heap.size w W := by
    subst hW
    exact ((((Below.refl _ _).alloc (Nat.le_refl _) _).drew).alloc (by rw [size_drew, World.size_alloc]; omega) _)
  have hv : IntsAt W (.slice (some ⟨w.heap.size + 1, 0, none⟩) l.length l.length) l := by
    subst hW
    refine .inr ⟨w.heap.size + 1, 0, l.length, rfl, (by rw [World.size_alloc, size_drew, World.size_alloc]; omega), fun i x hx => ?_⟩
    have := (Blk.new ((w.alloc (.cells vs.toArray t)).drew) (intsV l) t2).cell i
    have e : (w.alloc (.cells vs.toArray t)).drew.heap.size = w.heap.size + 1 := by rw [size_drew, World.size_alloc]
    rw [e] at this
    rw [Nat.zero_add, this]
    simp [intsV, hx]
  have hbx : Blk W w.heap.size vs := by
    subst hW
    exact ((Blk.new w vs t).drew).alloc _
  refine (put_c W (h.below hb) a kind hk hk2 hv hl (fun b e => ?_) h64).mono ?_
  · cases e; intro hm; have := h.lt _ hm; simp only at this; omega
  · rintro e w' ⟨rfl, hp⟩
    refine ⟨rfl, HPost.after hb ⟨rfl, hp⟩, ?_⟩
    obtain ⟨L', h1, h2, h3, h4⟩ := hp
    exact hbx.keep (h4.block _ hbx.lt (fun hm => by have := h.lt _ hm; omega))

set_option maxHeartbeats 4000000 in
set_option maxRecDepth 100000 in
theorem putChan_c (w : World) (h : HeapAt w L s) (a : Int) (c : PChan) : Calls Tryz.prog 42 #[hptr L, iv a, c.v] w (HPost L (putChanH s a c).1 (iv (putChanH s a c).2) w) := by
  obtain ⟨x0, x1, x2, x3, x4, x5, x6, x7, x8⟩ := c
  have n0 := Lib.hid (int_c x0); have n1 := Lib.hid (int_c x1); have n2 := Lib.hid (int_c x2); have n3 := Lib.hid (int_c x3)
  have n4 := Lib.hid (vptr_c x4); have n5 := Lib.hid (vptr_c x5); have n6 := Lib.hid (vptr_c x6); have n7 := Lib.hid (vptr_c x7); have n8 := Lib.hid (vptr_c x8)
  have hp := put_new w h a 1 (by omega) (by omega) (chanL ⟨x0, x1, x2, x3, x4, x5, x6, x7, x8⟩) rfl (by intro x hx; simp only [chanL, List.mem_cons, List.not_mem_nil, or_false] at hx; rcases hx with rfl | rfl | rfl | rfl | rfl | rfl | rfl | rfl | rfl <;> first | exact i64_intW _ | exact i64_ptrOr _) [iv x0, iv x1, iv x2, iv x3, iv x4, iv x5, iv x6, iv x7, iv x8] 63 3
  unfold putChanH
  generalize putH s a 1 (chanL ⟨x0, x1, x2, x3, x4, x5, x6, x7, x8⟩) = R at hp ⊢
  have hq : ∀ W, W = ((w.alloc (.cells [iv x0, iv x1, iv x2, iv x3, iv x4, iv x5, iv x6, iv x7, iv x8].toArray 63)).drew.alloc (.cells (intsV (chanL ⟨x0, x1, x2, x3, x4, x5, x6, x7, x8⟩)).toArray 3)) →
      Calls Tryz.prog 110 #[hptr L, iv a, iv 1, .slice (some ⟨w.heap.size + 1, 0, none⟩) 9 9] W fun e w' => e = .returned (iv R.2) ∧ Hid (HPost L R.1 (iv R.2) w e w') ∧ w'.cell? ⟨w.heap.size, 0, none⟩ = some (iv x0) ∧ w'.cell? ⟨w.heap.size, 1, none⟩ = some (iv x1) ∧ w'.cell? ⟨w.heap.size, 2, none⟩ = some (iv x2) ∧ w'.cell? ⟨w.heap.size, 3, none⟩ = some (iv x3) ∧ w'.cell? ⟨w.heap.size, 4, none⟩ = some (iv x4) ∧ w'.cell? ⟨w.heap.size, 5, none⟩ = some (iv x5) ∧ w'.cell? ⟨w.heap.size, 6, none⟩ = some (iv x6) ∧ w'.cell? ⟨w.heap.size, 7, none⟩ = some (iv x7) ∧ w'.cell? ⟨w.heap.size, 8, none⟩ = some (iv x8) := by
    intro W hW
    refine (hp W hW).mono ?_
    rintro e w' ⟨h1, h2, h3⟩
    exact ⟨h1, h2, h3.at 0 rfl, h3.at 1 rfl, h3.at 2 rfl, h3.at 3 rfl, h3.at 4 rfl, h3.at 5 rfl, h3.at 6 rfl, h3.at 7 rfl, h3.at 8 rfl⟩
  have HQ := Lib.hid hq; clear hq hp h
  go_enter Tryz.func42, Tryz.ntmps42
  go_wp2_with fail
  go_region_held3 (fun w' => w'.cell? ⟨w.heap.size, 0, none⟩ = some (iv x0) ∧ w'.cell? ⟨w.heap.size, 1, none⟩ = some (iv x1) ∧ w'.cell? ⟨w.heap.size, 2, none⟩ = some (iv x2) ∧ w'.cell? ⟨w.heap.size, 3, none⟩ = some (iv x3) ∧ w'.cell? ⟨w.heap.size, 4, none⟩ = some (iv x4) ∧ w'.cell? ⟨w.heap.size, 5, none⟩ = some (iv x5) ∧ w'.cell? ⟨w.heap.size, 6, none⟩ = some (iv x6) ∧ w'.cell? ⟨w.heap.size, 7, none⟩ = some (iv x7) ∧ w'.cell? ⟨w.heap.size, 8, none⟩ = some (iv x8)) (go_keep)
    (first | (go_at_call_of 112 (iv x0); refine (n0.out _).mono ?_; rintro e w' ⟨rfl, rfl⟩) | (go_at_call_of 112 (iv x1); refine (n1.out _).mono ?_; rintro e w' ⟨rfl, rfl⟩) | (go_at_call_of 112 (iv x2); refine (n2.out _).mono ?_; rintro e w' ⟨rfl, rfl⟩) | (go_at_call_of 112 (iv x3); refine (n3.out _).mono ?_; rintro e w' ⟨rfl, rfl⟩) | (go_at_call_of 111 (iv x4); refine (n4.out _).mono ?_; rintro e w' ⟨rfl, rfl⟩) | (go_at_call_of 111 (iv x5); refine (n5.out _).mono ?_; rintro e w' ⟨rfl, rfl⟩) | (go_at_call_of 111 (iv x6); refine (n6.out _).mono ?_; rintro e w' ⟨rfl, rfl⟩) | (go_at_call_of 111 (iv x7); refine (n7.out _).mono ?_; rintro e w' ⟨rfl, rfl⟩) | (go_at_call_of 111 (iv x8); refine (n8.out _).mono ?_; rintro e w' ⟨rfl, rfl⟩) | (go_at_call 110; refine (HQ.out _ ?_).mono ?_; rfl; rintro e w' ⟨rfl, HP, s0, s1, s2, s3, s4, s5, s6, s7, s8⟩))
  go_wp2
  go_ret
  exact HP.out
end Go.Proofs.YtcnppdbgieaddaaGreat

namespace Go.Proofs.YtcnppdbgieaddaaGreat
open Go.RowKit
set_option linter.unusedVariables false
variable {w w' : World} {L : Lay} {s : PH}
attribute [local go_sem ↓] Go.wp_at_zero Go.wp_at_succ

set_option maxHeartbeats 4000000 in
set_option maxRecDepth 100000 in
theorem putSudog_c (w : World) (h : HeapAt w L s) (a : Int) (c : PSudog) (hv : I64 c.value) : Calls Tryz.prog 22 #[hptr L, iv a, c.v] w (HPost L (putSudogH s a c).1 (iv (putSudogH s a c).2) w) := by
  obtain ⟨x0, x1, x2, x3, x4, x5, x6⟩ := c
  have n0 := Lib.hid (vptr_c x0)
  have n1 := Lib.hid (vptr_c x1)
  have n3 := Lib.hid (vptr_c x3)
  have n4 := Lib.hid (int_c x4)
  have n5 := Lib.hid (int_c x5)
  have n6 := Lib.hid (vptr_c x6)
  have hp := put_new w h a 3 (by omega) (by omega) (sudogL ⟨x0, x1, x2, x3, x4, x5, x6⟩) rfl (by intro x hx; simp only [sudogL, List.mem_cons, List.not_mem_nil, or_false] at hx; rcases hx with rfl | rfl | rfl | rfl | rfl | rfl | rfl <;> first | exact hv | exact i64_intW _ | exact i64_ptrOr _) [iv x0, iv x1, iv x2, iv x3, iv x4, iv x5, iv x6] 36 3
  unfold putSudogH
  generalize putH s a 3 (sudogL ⟨x0, x1, x2, x3, x4, x5, x6⟩) = R at hp ⊢
  have hq : ∀ W, W = ((w.alloc (.cells [iv x0, iv x1, iv x2, iv x3, iv x4, iv x5, iv x6].toArray 36)).drew.alloc (.cells (intsV (sudogL ⟨x0, x1, x2, x3, x4, x5, x6⟩)).toArray 3)) →
      Calls Tryz.prog 110 #[hptr L, iv a, iv 3, .slice (some ⟨w.heap.size + 1, 0, none⟩) 7 7] W fun e w' => e = .returned (iv R.2) ∧ Hid (HPost L R.1 (iv R.2) w e w') ∧ w'.cell? ⟨w.heap.size, 0, none⟩ = some (iv x0) ∧ w'.cell? ⟨w.heap.size, 1, none⟩ = some (iv x1) ∧ w'.cell? ⟨w.heap.size, 2, none⟩ = some (iv x2) ∧ w'.cell? ⟨w.heap.size, 3, none⟩ = some (iv x3) ∧ w'.cell? ⟨w.heap.size, 4, none⟩ = some (iv x4) ∧ w'.cell? ⟨w.heap.size, 5, none⟩ = some (iv x5) ∧ w'.cell? ⟨w.heap.size, 6, none⟩ = some (iv x6) := by
    intro W hW
    refine (hp W hW).mono ?_
    rintro e w' ⟨h1, h2, h3⟩
    exact ⟨h1, h2, h3.at 0 rfl, h3.at 1 rfl, h3.at 2 rfl, h3.at 3 rfl, h3.at 4 rfl, h3.at 5 rfl, h3.at 6 rfl⟩
  have HQ := Lib.hid hq; clear hq hp h hv
  go_enter Tryz.func22, Tryz.ntmps22
  go_wp2_with fail
  go_region_held3 (fun w' => w'.cell? ⟨w.heap.size, 0, none⟩ = some (iv x0) ∧ w'.cell? ⟨w.heap.size, 1, none⟩ = some (iv x1) ∧ w'.cell? ⟨w.heap.size, 2, none⟩ = some (iv x2) ∧ w'.cell? ⟨w.heap.size, 3, none⟩ = some (iv x3) ∧ w'.cell? ⟨w.heap.size, 4, none⟩ = some (iv x4) ∧ w'.cell? ⟨w.heap.size, 5, none⟩ = some (iv x5) ∧ w'.cell? ⟨w.heap.size, 6, none⟩ = some (iv x6)) (go_keep)
    (first | (go_at_call_of 111 (iv x0); refine (n0.out _).mono ?_; rintro e w' ⟨rfl, rfl⟩) | (go_at_call_of 111 (iv x1); refine (n1.out _).mono ?_; rintro e w' ⟨rfl, rfl⟩) | (go_at_call_of 111 (iv x3); refine (n3.out _).mono ?_; rintro e w' ⟨rfl, rfl⟩) | (go_at_call_of 112 (iv x4); refine (n4.out _).mono ?_; rintro e w' ⟨rfl, rfl⟩) | (go_at_call_of 112 (iv x5); refine (n5.out _).mono ?_; rintro e w' ⟨rfl, rfl⟩) | (go_at_call_of 111 (iv x6); refine (n6.out _).mono ?_; rintro e w' ⟨rfl, rfl⟩) | (go_at_call 110; refine (HQ.out _ ?_).mono ?_; rfl; rintro e w' ⟨rfl, HP, s0, s1, s2, s3, s4, s5, s6⟩))
  go_wp2
  go_ret
  exact HP.out
end Go.Proofs.YtcnppdbgieaddaaGreat
