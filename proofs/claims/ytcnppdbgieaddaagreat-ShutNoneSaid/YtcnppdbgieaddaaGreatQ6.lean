/- The document's side: a channel, a sudog, laid. -/
import Derived.Test.YtcnppdbgieaddaaGreatQ5
import Derived.Test.YtcnppdbgieaddaaGreatK7
import Derived.Deep.DrawnRows
namespace Go.Proofs.YtcnppdbgieaddaaGreat
open Go.RowKit
set_option linter.unusedVariables false
set_option linter.unusedSimpArgs false
variable {w w' : World} {R : RLay} {s : PH}
attribute [local go_sem ↓] Go.wp_at_zero Go.wp_at_succ

/-- Words laid out of a slice of one's own, behind a box of one's own. -/
theorem rput_new (w : World) (h : RefAt w R s) (a kind : Int) (hk : 1 ≤ kind) (hk2 : kind ≠ 2) (l : List Int) (hl : l.length = fieldsN kind) (h64 : ∀ x ∈ l, I64 x) (vs : List Value) (t t2 : TypeId) (W : World) (hW : W = ((w.alloc (.cells vs.toArray t)).drew.alloc (.cells (intsV l).toArray t2))) :
    Calls Tryz.prog 196 #[rptr R, iv a, iv kind, .slice (some ⟨w.heap.size + 1, 0, none⟩) l.length l.length] W fun e w' => e = .returned (iv (putH s a kind l).2) ∧ RPost R (putH s a kind l).1 (iv (putH s a kind l).2) w e w' ∧ Blk w' w.heap.size vs := by
  have hb : Below w.heap.size w W := by
    subst hW
    exact ((((Below.refl _ _).alloc (Nat.le_refl _) _).drew).alloc (by rw [size_drew, World.size_alloc]; omega) _)
  have hv : IntsAt W (.slice (some ⟨w.heap.size + 1, 0, none⟩) l.length l.length) l := by
    subst hW
    refine .inr ⟨w.heap.size + 1, 0, l.length, rfl, (by rw [World.size_alloc, size_drew, World.size_alloc]; omega), fun i x hx => ?_⟩
    have := (Blk.new ((w.alloc (.cells vs.toArray t)).drew) (intsV l) t2).cell i
    have e : (w.alloc (.cells vs.toArray t)).drew.heap.size = w.heap.size + 1 := by rw [size_drew, World.size_alloc]
    rw [e] at this
    rw [Nat.zero_add, this]
    simp [intsV, hx]
  have hbx : Blk W w.heap.size vs := by
    subst hW
    exact ((Blk.new w vs t).drew).alloc _
  refine (rput_c W (h.below hb) a kind hk hk2 hv hl (fun b e => ?_) h64).mono ?_
  · cases e; intro hm; have := h.lt _ hm; simp only at this; omega
  · rintro e w' ⟨rfl, hp⟩
    refine ⟨rfl, RPost.after hb ⟨rfl, hp⟩, ?_⟩
    obtain ⟨R', h1, h2, h3, h4⟩ := hp
    exact hbx.keep (h4.block _ hbx.lt (fun hm => by have := h.lt _ hm; omega))

set_option maxHeartbeats 4000000 in
set_option maxRecDepth 100000 in
theorem rputChan_c (w : World) (h : RefAt w R s) (a : Int) (c : PChan) : Calls Tryz.prog 103 #[rptr R, iv a, c.v] w (RPost R (putChanH s a c).1 (iv (putChanH s a c).2) w) := by
  obtain ⟨x0, x1, x2, x3, x4, x5, x6, x7, x8⟩ := c
  have n0 := Lib.hid (rint_c x0); have n1 := Lib.hid (rint_c x1); have n2 := Lib.hid (rint_c x2); have n3 := Lib.hid (rint_c x3)
  have n4 := Lib.hid (rptr11_c x4); have n5 := Lib.hid (rptr11_c x5); have n6 := Lib.hid (rptr11_c x6); have n7 := Lib.hid (rptr11_c x7); have n8 := Lib.hid (rptr11_c x8)
  have hp := rput_new w h a 1 (by omega) (by omega) (chanL ⟨x0, x1, x2, x3, x4, x5, x6, x7, x8⟩) rfl (by intro x hx; simp only [chanL, List.mem_cons, List.not_mem_nil, or_false] at hx; rcases hx with rfl | rfl | rfl | rfl | rfl | rfl | rfl | rfl | rfl <;> first | exact i64_intW _ | exact i64_ptrOr _) [iv x0, iv x1, iv x2, iv x3, iv x4, iv x5, iv x6, iv x7, iv x8] 63 3
  unfold putChanH
  generalize putH s a 1 (chanL ⟨x0, x1, x2, x3, x4, x5, x6, x7, x8⟩) = RR at hp ⊢
  have hq : ∀ W, W = ((w.alloc (.cells [iv x0, iv x1, iv x2, iv x3, iv x4, iv x5, iv x6, iv x7, iv x8].toArray 63)).drew.alloc (.cells (intsV (chanL ⟨x0, x1, x2, x3, x4, x5, x6, x7, x8⟩)).toArray 3)) →
      Calls Tryz.prog 196 #[rptr R, iv a, iv 1, .slice (some ⟨w.heap.size + 1, 0, none⟩) 9 9] W fun e w' => e = .returned (iv RR.2) ∧ Hid (RPost R RR.1 (iv RR.2) w e w') ∧ w'.cell? ⟨w.heap.size, 0, none⟩ = some (iv x0) ∧ w'.cell? ⟨w.heap.size, 1, none⟩ = some (iv x1) ∧ w'.cell? ⟨w.heap.size, 2, none⟩ = some (iv x2) ∧ w'.cell? ⟨w.heap.size, 3, none⟩ = some (iv x3) ∧ w'.cell? ⟨w.heap.size, 4, none⟩ = some (iv x4) ∧ w'.cell? ⟨w.heap.size, 5, none⟩ = some (iv x5) ∧ w'.cell? ⟨w.heap.size, 6, none⟩ = some (iv x6) ∧ w'.cell? ⟨w.heap.size, 7, none⟩ = some (iv x7) ∧ w'.cell? ⟨w.heap.size, 8, none⟩ = some (iv x8) := by
    intro W hW
    refine (hp W hW).mono ?_
    rintro e w' ⟨h1, h2, h3⟩
    exact ⟨h1, h2, h3.at 0 rfl, h3.at 1 rfl, h3.at 2 rfl, h3.at 3 rfl, h3.at 4 rfl, h3.at 5 rfl, h3.at 6 rfl, h3.at 7 rfl, h3.at 8 rfl⟩
  have HQ := Lib.hid hq; clear hq hp h
  go_enter Tryz.func103, Tryz.ntmps103
  go_wp2_with fail
  go_region_held3 (fun w' => w'.cell? ⟨w.heap.size, 0, none⟩ = some (iv x0) ∧ w'.cell? ⟨w.heap.size, 1, none⟩ = some (iv x1) ∧ w'.cell? ⟨w.heap.size, 2, none⟩ = some (iv x2) ∧ w'.cell? ⟨w.heap.size, 3, none⟩ = some (iv x3) ∧ w'.cell? ⟨w.heap.size, 4, none⟩ = some (iv x4) ∧ w'.cell? ⟨w.heap.size, 5, none⟩ = some (iv x5) ∧ w'.cell? ⟨w.heap.size, 6, none⟩ = some (iv x6) ∧ w'.cell? ⟨w.heap.size, 7, none⟩ = some (iv x7) ∧ w'.cell? ⟨w.heap.size, 8, none⟩ = some (iv x8)) (go_keep)
    (first | (go_at_call_of 197 (iv x0); refine (n0.out _).mono ?_; rintro e w' ⟨rfl, rfl⟩) | (go_at_call_of 197 (iv x1); refine (n1.out _).mono ?_; rintro e w' ⟨rfl, rfl⟩) | (go_at_call_of 197 (iv x2); refine (n2.out _).mono ?_; rintro e w' ⟨rfl, rfl⟩) | (go_at_call_of 197 (iv x3); refine (n3.out _).mono ?_; rintro e w' ⟨rfl, rfl⟩) | (go_at_call_of 198 (iv x4); refine (n4.out _).mono ?_; rintro e w' ⟨rfl, rfl⟩) | (go_at_call_of 198 (iv x5); refine (n5.out _).mono ?_; rintro e w' ⟨rfl, rfl⟩) | (go_at_call_of 198 (iv x6); refine (n6.out _).mono ?_; rintro e w' ⟨rfl, rfl⟩) | (go_at_call_of 198 (iv x7); refine (n7.out _).mono ?_; rintro e w' ⟨rfl, rfl⟩) | (go_at_call_of 198 (iv x8); refine (n8.out _).mono ?_; rintro e w' ⟨rfl, rfl⟩) | (go_at_call 196; refine (HQ.out _ ?_).mono ?_; rfl; rintro e w' ⟨rfl, HP, s0, s1, s2, s3, s4, s5, s6, s7, s8⟩))
  go_wp2
  go_ret
  exact HP.out
set_option maxHeartbeats 4000000 in
set_option maxRecDepth 100000 in
theorem rputSudog_c (w : World) (h : RefAt w R s) (a : Int) (c : PSudog) (hv : I64 c.value) : Calls Tryz.prog 131 #[rptr R, iv a, c.v] w (RPost R (putSudogH s a c).1 (iv (putSudogH s a c).2) w) := by
  obtain ⟨x0, x1, x2, x3, x4, x5, x6⟩ := c
  have n0 := Lib.hid (rptr11_c x0)
  have n1 := Lib.hid (rptr11_c x1)
  have n3 := Lib.hid (rptr11_c x3)
  have n4 := Lib.hid (rint_c x4)
  have n5 := Lib.hid (rint_c x5)
  have n6 := Lib.hid (rptr11_c x6)
  have hp := rput_new w h a 3 (by omega) (by omega) (sudogL ⟨x0, x1, x2, x3, x4, x5, x6⟩) rfl (by intro x hx; simp only [sudogL, List.mem_cons, List.not_mem_nil, or_false] at hx; rcases hx with rfl | rfl | rfl | rfl | rfl | rfl | rfl <;> first | exact hv | exact i64_intW _ | exact i64_ptrOr _) [iv x0, iv x1, iv x2, iv x3, iv x4, iv x5, iv x6] 36 3
  unfold putSudogH
  generalize putH s a 3 (sudogL ⟨x0, x1, x2, x3, x4, x5, x6⟩) = RR at hp ⊢
  have hq : ∀ W, W = ((w.alloc (.cells [iv x0, iv x1, iv x2, iv x3, iv x4, iv x5, iv x6].toArray 36)).drew.alloc (.cells (intsV (sudogL ⟨x0, x1, x2, x3, x4, x5, x6⟩)).toArray 3)) →
      Calls Tryz.prog 196 #[rptr R, iv a, iv 3, .slice (some ⟨w.heap.size + 1, 0, none⟩) 7 7] W fun e w' => e = .returned (iv RR.2) ∧ Hid (RPost R RR.1 (iv RR.2) w e w') ∧ w'.cell? ⟨w.heap.size, 0, none⟩ = some (iv x0) ∧ w'.cell? ⟨w.heap.size, 1, none⟩ = some (iv x1) ∧ w'.cell? ⟨w.heap.size, 2, none⟩ = some (iv x2) ∧ w'.cell? ⟨w.heap.size, 3, none⟩ = some (iv x3) ∧ w'.cell? ⟨w.heap.size, 4, none⟩ = some (iv x4) ∧ w'.cell? ⟨w.heap.size, 5, none⟩ = some (iv x5) ∧ w'.cell? ⟨w.heap.size, 6, none⟩ = some (iv x6) := by
    intro W hW
    refine (hp W hW).mono ?_
    rintro e w' ⟨h1, h2, h3⟩
    exact ⟨h1, h2, h3.at 0 rfl, h3.at 1 rfl, h3.at 2 rfl, h3.at 3 rfl, h3.at 4 rfl, h3.at 5 rfl, h3.at 6 rfl⟩
  have HQ := Lib.hid hq; clear hq hp h hv
  go_enter Tryz.func131, Tryz.ntmps131
  go_wp2_with fail
  go_region_held3 (fun w' => w'.cell? ⟨w.heap.size, 0, none⟩ = some (iv x0) ∧ w'.cell? ⟨w.heap.size, 1, none⟩ = some (iv x1) ∧ w'.cell? ⟨w.heap.size, 2, none⟩ = some (iv x2) ∧ w'.cell? ⟨w.heap.size, 3, none⟩ = some (iv x3) ∧ w'.cell? ⟨w.heap.size, 4, none⟩ = some (iv x4) ∧ w'.cell? ⟨w.heap.size, 5, none⟩ = some (iv x5) ∧ w'.cell? ⟨w.heap.size, 6, none⟩ = some (iv x6)) (go_keep)
    (first | (go_at_call_of 198 (iv x0); refine (n0.out _).mono ?_; rintro e w' ⟨rfl, rfl⟩) | (go_at_call_of 198 (iv x1); refine (n1.out _).mono ?_; rintro e w' ⟨rfl, rfl⟩) | (go_at_call_of 198 (iv x3); refine (n3.out _).mono ?_; rintro e w' ⟨rfl, rfl⟩) | (go_at_call_of 197 (iv x4); refine (n4.out _).mono ?_; rintro e w' ⟨rfl, rfl⟩) | (go_at_call_of 197 (iv x5); refine (n5.out _).mono ?_; rintro e w' ⟨rfl, rfl⟩) | (go_at_call_of 198 (iv x6); refine (n6.out _).mono ?_; rintro e w' ⟨rfl, rfl⟩) | (go_at_call 196; refine (HQ.out _ ?_).mono ?_; rfl; rintro e w' ⟨rfl, HP, s0, s1, s2, s3, s4, s5, s6⟩))
  go_wp2
  go_ret
  exact HP.out
end Go.Proofs.YtcnppdbgieaddaaGreat
