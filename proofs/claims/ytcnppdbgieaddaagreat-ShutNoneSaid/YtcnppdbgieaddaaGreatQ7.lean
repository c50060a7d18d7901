/- The document's side: a goroutine, seen. The document's side: a goroutine, laid. -/
import Derived.Test.YtcnppdbgieaddaaGreatQ6
import Derived.Test.YtcnppdbgieaddaaGreatK8
namespace Go.Proofs.YtcnppdbgieaddaaGreat
open Go.RowKit
set_option linter.unusedVariables false
set_option linter.unusedSimpArgs false
variable {w w' : World} {R : RLay} {s : PH}
attribute [local go_sem ↓] Go.wp_at_zero Go.wp_at_succ

/-- A goroutine's cells while its registers are laid. -/
def rgorC (l : List Int) (p : Nat) : List Value := [iv (numW (nthI l 0)), iv (numW (nthI l 1)), iv (numW (nthI l 2))] ++ ((List.range 6).map fun i => iv (if i < p then nthI l (3 + i) else 0)) ++ [iv (atW (nthI l 9))]

set_option maxHeartbeats 4000000 in
set_option maxRecDepth 100000 in
theorem rgor_c (w : World) (h : RefAt w R s) (a : Int) : Calls Tryz.prog 130 #[rptr R, iv a] w fun e w' => e = .returned (.tuple #[(gorR s.A a).1.v, iv (gorR s.A a).2]) ∧ Below w.heap.size w w' := by
  have hs := rwds_c (w.alloc (.cells #[iv 0, iv 0, iv 0, iv 0, iv 0, iv 0, iv 0, iv 0, iv 0, iv 0] 44)) (h.below ((Below.refl _ _).alloc (Nat.le_refl _) _)) a 4 (by omega) (by omega)
  cases e : seenA s.A a 4 with
  | none =>
    rw [e] at hs
    have hr : Hid (gorR s.A a = (PGor.zero, 10)) := by simp [Hid, gorR, gorA, e]
    have HS := Lib.hid hs; clear hs h e
    go_enter Tryz.func130, Tryz.ntmps130
    go_wp2_with fail
    refine HS.out.mono ?_
    rintro e w1 ⟨b1, rfl⟩
    have kb : Blk w1 w.heap.size [iv 0, iv 0, iv 0, iv 0, iv 0, iv 0, iv 0, iv 0, iv 0, iv 0] := (Blk.new w _ _).keep (b1.block _ (by simp))
    have k0 := kb.at 0 rfl; have k1 := kb.at 1 rfl; have k2 := kb.at 2 rfl; have k3 := kb.at 3 rfl; have k4 := kb.at 4 rfl; have k5 := kb.at 5 rfl; have k6 := kb.at 6 rfl; have k7 := kb.at 7 rfl; have k8 := kb.at 8 rfl; have k9 := kb.at 9 rfl
    have g0 := kb.free 0; have g1 := kb.free 1; have g2 := kb.free 2; have g3 := kb.free 3; have g4 := kb.free 4; have g5 := kb.free 5; have g6 := kb.free 6; have g7 := kb.free 7; have g8 := kb.free 8; have g9 := kb.free 9
    have B1 := Lib.hid b1; clear b1 kb HS
    go_wp2
    exact bodyPost_ret (v := .tuple #[PGor.zero.v, iv 10]) (by simp [results, Tryz.results130, go_sem, k0, k1, k2, k3, k4, k5, k6, k7, k8, k9, PGor.zero]) rfl ⟨ret_eq (by rw [hr.out]), by
      have hb := ((Below.refl w.heap.size w).alloc (Nat.le_refl _) _).trans (B1.out.mono (by simp))
      exact Below.set10 hb (Nat.le_refl _) _ _ _ _ _ _ _ _ _ _⟩
  | some ws =>
    rw [e] at hs
    have h64 := seenA_i64 h.i64 e
    obtain ⟨x0, x1, x2, x3, x4, x5, x6, x7, x8, x9, rfl⟩ := list10 (seenA_some e).2
    have hr : Hid (gorR s.A a = (gorOf [x0, x1, x2, x3, x4, x5, x6, x7, x8, x9], 0)) := by simp [Hid, gorR, gorA, e]
    have n0 := Lib.hid (rnumber_c x0 (h64 _ (by simp))); have n1 := Lib.hid (rnumber_c x1 (h64 _ (by simp))); have n2 := Lib.hid (rnumber_c x2 (h64 _ (by simp))); have n9 := Lib.hid (rplace_c x9 (h64 _ (by simp)))
    have HS := Lib.hid hs; clear hs h e h64
    go_enter Tryz.func130, Tryz.ntmps130
    go_wp2_with fail
    refine HS.out.mono ?_
    rintro e w1 ⟨b1, v, rfl, ho⟩
    obtain ⟨g, cap, rfl, hg, hgb, hcap, hc⟩ := own_cells ho (by simp)
    have c0 := hc 0 _ rfl; have c1 := hc 1 _ rfl; have c2 := hc 2 _ rfl; have c9 := hc 9 _ rfl
    have kb : Blk w1 w.heap.size [iv 0, iv 0, iv 0, iv 0, iv 0, iv 0, iv 0, iv 0, iv 0, iv 0] := (Blk.new w _ _).keep (b1.block _ (by simp))
    have hbb : Below w.heap.size w w1 := ((Below.refl w.heap.size w).alloc (Nat.le_refl _) _).trans (b1.mono (by simp))
    have hsz := b1.size
    rw [World.size_alloc] at hsz hgb
    have HBB := Lib.hid hbb; have KB := Lib.hid kb; have HC := Lib.hid hc
    clear ho hc HS b1 kb hcap hbb
    have m0 := World.new_ne w1 _ c0; have m1 := World.new_ne w1 _ c1; have m2 := World.new_ne w1 _ c2; have m9 := World.new_ne w1 _ c9
    go_wp2_with fail
    go_region_held3 (fun w' => w'.cell? ⟨g, 0, none⟩ = some (iv x0) ∧ w'.cell? ⟨g, 1, none⟩ = some (iv x1) ∧ w'.cell? ⟨g, 2, none⟩ = some (iv x2) ∧ w'.cell? ⟨g, 9, none⟩ = some (iv x9)) (go_keep)
      (first | (go_at_call_of 138 (iv x0); refine (n0.out _).mono ?_; rintro e w' ⟨rfl, rfl⟩) | (go_at_call_of 138 (iv x1); refine (n1.out _).mono ?_; rintro e w' ⟨rfl, rfl⟩) | (go_at_call_of 138 (iv x2); refine (n2.out _).mono ?_; rintro e w' ⟨rfl, rfl⟩) | (go_at_call_of 139 (iv x9); refine (n9.out _).mono ?_; rintro e w' ⟨rfl, rfl⟩))
    all_goals
      have h1 : Below w.heap.size w (w1.alloc (.cells #[iv (numW x0), iv (numW x1), iv (numW x2), iv 0, iv 0, iv 0, iv 0, iv 0, iv 0, iv (atW x9)] 44)).drew := (HBB.out.alloc (by omega) _).drew
      have h2 : Blk (w1.alloc (.cells #[iv (numW x0), iv (numW x1), iv (numW x2), iv 0, iv 0, iv 0, iv 0, iv 0, iv 0, iv (atW x9)] 44)).drew w1.heap.size (rgorC [x0, x1, x2, x3, x4, x5, x6, x7, x8, x9] 0) := (Blk.new w1 [iv (numW x0), iv (numW x1), iv (numW x2), iv 0, iv 0, iv 0, iv 0, iv 0, iv 0, iv (atW x9)] 44).drew
      have h3 : Blk (w1.alloc (.cells #[iv (numW x0), iv (numW x1), iv (numW x2), iv 0, iv 0, iv 0, iv 0, iv 0, iv 0, iv (atW x9)] 44)).drew w.heap.size [iv 0, iv 0, iv 0, iv 0, iv 0, iv 0, iv 0, iv 0, iv 0, iv 0] := (KB.out.alloc _).drew
      have h4 : ∀ (i : Nat) (x : Int), [x0, x1, x2, x3, x4, x5, x6, x7, x8, x9][i]? = some x → (w1.alloc (.cells #[iv (numW x0), iv (numW x1), iv (numW x2), iv 0, iv 0, iv 0, iv 0, iv 0, iv 0, iv (atW x9)] 44)).drew.cell? ⟨g, i, none⟩ = some (iv x) := fun i x hx => by
        show (w1.alloc _).cell? _ = _
        rw [World.cell?_of_block (Below.heap_alloc _ _ _ hg)]; exact HC.out i x hx
      generalize (w1.alloc (.cells #[iv (numW x0), iv (numW x1), iv (numW x2), iv 0, iv 0, iv 0, iv 0, iv 0, iv 0, iv (atW x9)] 44)).drew = W0 at h1 h2 h3 h4 ⊢
      have H1 := Lib.hid h1; have H2 := Lib.hid h2; have H3 := Lib.hid h3; have H4 := Lib.hid h4
      clear h1 h2 h3 h4 c0 c1 c2 c9
      go_wp2_with fail
      go_loopw [9] (fun v33 wr => ∃ p : Nat, p ≤ 6 ∧ v33 = iv p ∧ Below w.heap.size w wr ∧ Blk wr w1.heap.size (rgorC [x0, x1, x2, x3, x4, x5, x6, x7, x8, x9] p) ∧ Blk wr w.heap.size [iv 0, iv 0, iv 0, iv 0, iv 0, iv 0, iv 0, iv 0, iv 0, iv 0] ∧ ∀ (i : Nat) (x : Int), [x0, x1, x2, x3, x4, x5, x6, x7, x8, x9][i]? = some x → wr.cell? ⟨g, i, none⟩ = some (iv x)) (fun v33 _ => 6 - (intOf v33).toNat)
      case atStart => exact ⟨0, Nat.zero_le _, rfl, H1.out, H2.out, H3.out, H4.out⟩
      case round =>
        obtain ⟨p, hp, rfl, hb, hgc, hrc, hlc⟩ := hrel
        clear H1 H2 H3 H4
        by_cases hlt : p < 6
        · have hx : [x0, x1, x2, x3, x4, x5, x6, x7, x8, x9][3 + p]? = some (nthI [x0, x1, x2, x3, x4, x5, x6, x7, x8, x9] (3 + p)) := by
            rcases (by omega : p = 0 ∨ p = 1 ∨ p = 2 ∨ p = 3 ∨ p = 4 ∨ p = 5) with rfl | rfl | rfl | rfl | rfl | rfl <;> rfl
          have k1 := hlc _ _ hx
          have k2 : wr.cell? ⟨w1.heap.size, 3 + p, none⟩ = some (iv 0) := hgc.at _ (by
            rcases (by omega : p = 0 ∨ p = 1 ∨ p = 2 ∨ p = 3 ∨ p = 4 ∨ p = 5) with rfl | rfl | rfl | rfl | rfl | rfl <;> rfl)
          have k3 := hgc.free (3 + p)
          have hset : (rgorC [x0, x1, x2, x3, x4, x5, x6, x7, x8, x9] p).set (3 + p) (iv (nthI [x0, x1, x2, x3, x4, x5, x6, x7, x8, x9] (3 + p))) = rgorC [x0, x1, x2, x3, x4, x5, x6, x7, x8, x9] (p + 1) := by
            rcases (by omega : p = 0 ∨ p = 1 ∨ p = 2 ∨ p = 3 ∨ p = 4 ∨ p = 5) with rfl | rfl | rfl | rfl | rfl | rfl <;> rfl
          generalize nthI [x0, x1, x2, x3, x4, x5, x6, x7, x8, x9] (3 + p) = x at k1 hset
          have e1 := hb.setCell (p := ⟨w1.heap.size, 3 + p, none⟩) (by show w.heap.size ≤ w1.heap.size; omega) (iv x)
          have e2 := hgc.set (3 + p) (iv x)
          rw [hset] at e2
          have e3 := hrc.set_other (c := w1.heap.size) (by omega) (3 + p) (iv x)
          have e4 : ∀ (i : Nat) (y : Int), [x0, x1, x2, x3, x4, x5, x6, x7, x8, x9][i]? = some y → (wr.setCell ⟨w1.heap.size, 3 + p, none⟩ (iv x)).cell? ⟨g, i, none⟩ = some (iv y) := fun i y hy => by
            rw [World.cell?_of_block (Below.heap_setCell _ _ _ _ (by show g ≠ w1.heap.size; omega))]; exact hlc i y hy
          have E1 := Lib.hid e1; have E2 := Lib.hid e2; have E3 := Lib.hid e3; have E4 := Lib.hid e4
          clear e1 e2 e3 e4 hset hb hgc hrc hlc hx
          go_wp2
          go_roundw
          case rel => exact ⟨p + 1, by omega, by go_num, E1.out, E2.out, E3.out, E4.out⟩
          case measure => simp [intOf]; omega
        · obtain rfl : p = 6 := by omega
          have r0 := hgc.at 0 rfl; have r1 := hgc.at 1 rfl; have r2 := hgc.at 2 rfl; have r3 := hgc.at 3 rfl; have r4 := hgc.at 4 rfl; have r5 := hgc.at 5 rfl; have r6 := hgc.at 6 rfl; have r7 := hgc.at 7 rfl; have r8 := hgc.at 8 rfl; have r9 := hgc.at 9 rfl
          have k0 := hrc.at 0 rfl; have k1 := hrc.at 1 rfl; have k2 := hrc.at 2 rfl; have k3 := hrc.at 3 rfl; have k4 := hrc.at 4 rfl; have k5 := hrc.at 5 rfl; have k6 := hrc.at 6 rfl; have k7 := hrc.at 7 rfl; have k8 := hrc.at 8 rfl; have k10 := hrc.at 9 rfl
          have g0 := hrc.free 0; have g1 := hrc.free 1; have g2 := hrc.free 2; have g3 := hrc.free 3; have g4 := hrc.free 4; have g5 := hrc.free 5; have g6 := hrc.free 6; have g7 := hrc.free 7; have g8 := hrc.free 8; have g9 := hrc.free 9
          have q1 : w.heap.size ≠ w1.heap.size := by omega
          have q2 : w1.heap.size ≠ w.heap.size := by omega
          have HB := Lib.hid hb
          clear hgc hrc hlc hb
          go_wp2
          exact bodyPost_ret (v := .tuple #[(gorOf [x0, x1, x2, x3, x4, x5, x6, x7, x8, x9]).v, iv 0]) (by simp [results, Tryz.results130, go_sem, k0, k1, k2, k3, k4, k5, k6, k7, k8, k10, q1, q2, gorOf, nthI]) rfl ⟨ret_eq (by rw [hr.out]), Below.set10 HB.out (Nat.le_refl _) _ _ _ _ _ _ _ _ _ _⟩
end Go.Proofs.YtcnppdbgieaddaaGreat

namespace Go.Proofs.YtcnppdbgieaddaaGreat
open Go.RowKit
set_option linter.unusedVariables false
set_option linter.unusedSimpArgs false
variable {w w' : World} {R : RLay} {s : PH}
attribute [local go_sem ↓] Go.wp_at_zero Go.wp_at_succ

set_option maxHeartbeats 4000000 in
set_option maxRecDepth 100000 in
theorem rputGor_c (w : World) (h : RefAt w R s) (a : Int) (c : PGor) (h64 : ∀ x ∈ c.regs, I64 x) : Calls Tryz.prog 105 #[rptr R, iv a, c.v] w (RPost R (putGorH s a c).1 (iv (putGorH s a c).2) w) := by
  have hI : ∀ x ∈ gorL c, I64 x := by
    intro x hx
    simp only [gorL, List.mem_cons, List.not_mem_nil, or_false] at hx
    simp only [PGor.regs, List.mem_cons, List.not_mem_nil, or_false] at h64
    rcases hx with rfl | rfl | rfl | h | h | h | h | h | h | rfl <;> first | exact i64_intW _ | exact i64_ptrOr _ | exact h64 _ (by simp [h])
  have hput := fun (w1 : World) (hb : Below w.heap.size w w1) (v : Value) (hv : IntsAt w1 v (gorL c)) (hd : ∀ b, v.ownBlock = some b → w.heap.size ≤ b) => rput_c w1 (h.below hb) a 4 (by omega) (by omega) hv rfl (fun b e hm => by have := h.lt _ hm; have := hd b e; omega) hI
  unfold putGorH
  generalize putH s a 4 (gorL c) = RR at hput ⊢
  obtain ⟨x0, x1, x2, x3, x4, x5, x6, x7, x8, x9⟩ := c
  have n0 := Lib.hid (rint_c x0); have n1 := Lib.hid (rint_c x1); have n2 := Lib.hid (rint_c x2); have n9 := Lib.hid (rptr11_c x9)
  have HPUT := Lib.hid hput
  clear hput h64 hI h
  go_enter Tryz.func105, Tryz.ntmps105
  go_wp2_with fail
  go_region_held3 (fun w' => w'.cell? ⟨w.heap.size, 0, none⟩ = some (iv x0) ∧ w'.cell? ⟨w.heap.size, 1, none⟩ = some (iv x1) ∧ w'.cell? ⟨w.heap.size, 2, none⟩ = some (iv x2)) (go_keep)
    (first | (go_at_call_of 197 (iv x0); refine (n0.out _).mono ?_; rintro e w' ⟨rfl, rfl⟩) | (go_at_call_of 197 (iv x1); refine (n1.out _).mono ?_; rintro e w' ⟨rfl, rfl⟩) | (go_at_call_of 197 (iv x2); refine (n2.out _).mono ?_; rintro e w' ⟨rfl, rfl⟩))
  go_wp2_with fail
  have f1 : Below w.heap.size w ((w.alloc (.cells #[iv x0, iv x1, iv x2, iv x3, iv x4, iv x5, iv x6, iv x7, iv x8, iv x9] 44)).alloc (.cells #[iv (intW x0), iv (intW x1), iv (intW x2)] 3)).drew := (((Below.refl _ _).alloc (Nat.le_refl _) _).alloc (by rw [World.size_alloc]; omega) _).drew
  have f2 : Blk ((w.alloc (.cells #[iv x0, iv x1, iv x2, iv x3, iv x4, iv x5, iv x6, iv x7, iv x8, iv x9] 44)).alloc (.cells #[iv (intW x0), iv (intW x1), iv (intW x2)] 3)).drew w.heap.size [iv x0, iv x1, iv x2, iv x3, iv x4, iv x5, iv x6, iv x7, iv x8, iv x9] := ((Blk.new w _ _).alloc _).drew
  have f3 : ((w.alloc (.cells #[iv x0, iv x1, iv x2, iv x3, iv x4, iv x5, iv x6, iv x7, iv x8, iv x9] 44)).alloc (.cells #[iv (intW x0), iv (intW x1), iv (intW x2)] 3)).drew.ownsRow (w.heap.size + 1) 3 1 (.slice (some ⟨w.heap.size + 1, 0, none⟩) 3 3) 3 (intsV [intW x0, intW x1, intW x2]) := by
    refine ownsRow_block (l := [intW x0, intW x1, intW x2]) ?_ (Nat.le_refl _) (by unfold maxLen; simp)
    have := heap_alloc_new (w.alloc (.cells #[iv x0, iv x1, iv x2, iv x3, iv x4, iv x5, iv x6, iv x7, iv x8, iv x9] 44)) (.cells #[iv (intW x0), iv (intW x1), iv (intW x2)] 3)
    rw [World.size_alloc] at this
    exact this
  generalize ((w.alloc (.cells #[iv x0, iv x1, iv x2, iv x3, iv x4, iv x5, iv x6, iv x7, iv x8, iv x9] 44)).alloc (.cells #[iv (intW x0), iv (intW x1), iv (intW x2)] 3)).drew = W0 at f1 f2 f3 ⊢
  have F1 := Lib.hid f1; have F2 := Lib.hid f2; have F3 := Lib.hid f3
  clear f1 f2 f3
  go_loopw [7, 8] (fun v7 v22 wr => ∃ p : Nat, p ≤ 6 ∧ v22 = iv p ∧ Below w.heap.size w wr ∧ Blk wr w.heap.size [iv x0, iv x1, iv x2, iv x3, iv x4, iv x5, iv x6, iv x7, iv x8, iv x9] ∧ wr.ownsRow (w.heap.size + 1) 3 1 v7 (3 + p) (intsV ([intW x0, intW x1, intW x2] ++ [x3, x4, x5, x6, x7, x8].take p))) (fun _ v22 _ => 6 - (intOf v22).toNat)
  case atStart => exact ⟨0, Nat.zero_le _, rfl, F1.out, F2.out, F3.out⟩
  case round =>
    obtain ⟨p, hp, rfl, hb, hbx, hown⟩ := hrel
    clear F1 F2 F3
    obtain ⟨o3, c3, hv3⟩ := own_form hown
    subst hv3
    have hsz := hb.size
    have hbl := hbx.lt
    by_cases hlt : p < 6
    · have HB := Lib.hid hb; have HO := Lib.hid hown; have HX := Lib.hid hbx
      clear hb hown hbx
      have hidx : ∃ x, [x3, x4, x5, x6, x7, x8][p]? = some x := ⟨_, List.getElem?_eq_getElem hlt⟩
      obtain ⟨x, hx⟩ := hidx
      have htk : [x3, x4, x5, x6, x7, x8].take (p + 1) = [x3, x4, x5, x6, x7, x8].take p ++ [x] := by rw [List.take_add_one, hx]; rfl
      have hcx : wr.cell? ⟨w.heap.size, 3 + p, none⟩ = some (iv x) := HX.out.at _ (by
        rcases (by omega : p = 0 ∨ p = 1 ∨ p = 2 ∨ p = 3 ∨ p = 4 ∨ p = 5) with rfl | rfl | rfl | rfl | rfl | rfl <;> (cases hx; rfl))
      have hlt' : (p : Int) < 6 := by omega
      have HT := Lib.hid htk; clear htk hx
      go_wp2_with (at_builtin; refine wpList_append2 rfl _ _ 25 rfl (w.heap.size + 1) 3 (.int .i64 0) 1 8 Tryz.underlying25 intInfo rfl (by decide) _ _ _ rfl (HO.out.alloc _) ⟨wr.heap.size, 0, none⟩ 1 1 [iv x] rfl rfl (cell_one_new _ _ _) ?c2 ?c3 ?c4 ?c5 ?next)
      case c2 => intro u hu; simp at hu; subst hu; rfl
      case c3 => unfold maxLen; omega
      case c4 => omega
      case c5 => simp; omega
      case next =>
        intro v' w5 hown5 hg halt
        have g3 : Below w.heap.size w w5 := (HB.out.alloc (by omega) _).grown hg (by simp; omega) (fun k hk => by have := (HO.out.lt k hk).1; omega)
        have g4 : w5.ownsRow (w.heap.size + 1) 3 1 v' (3 + (p + 1)) (intsV ([intW x0, intW x1, intW x2] ++ [x3, x4, x5, x6, x7, x8].take (p + 1))) := by
          rw [HT.out, ← List.append_assoc, intsV, List.map_append, show 3 + (p + 1) = 3 + p + 1 from rfl]; simpa using hown5
        have g5 : Blk w5 w.heap.size [iv x0, iv x1, iv x2, iv x3, iv x4, iv x5, iv x6, iv x7, iv x8, iv x9] := (HX.out.alloc _).keep (hg.block _ (by simp; omega) (fun e => by have := HO.out.lt _ e.symm; omega))
        have G3 := Lib.hid g3; have G4 := Lib.hid g4; have G5 := Lib.hid g5
        clear g3 g4 g5 hown5 hg halt
        go_wp2
        go_roundw
        case rel => exact ⟨p + 1, by omega, by go_num, G3.out, G5.out, G4.out⟩
        case measure => simp [intOf]; omega
    · obtain rfl : p = 6 := by omega
      have k9 := hbx.at 9 rfl
      have HB := Lib.hid hb; have HO := Lib.hid hown
      clear hb hown hbx
      go_wp2_with fail
      refine (n9.out _).mono ?_
      rintro e w' ⟨rfl, rfl⟩
      go_wp2_with (at_builtin; refine wpList_append2 rfl _ _ 25 rfl (w.heap.size + 1) 3 (.int .i64 0) 1 8 Tryz.underlying25 intInfo rfl (by decide) _ _ _ rfl (HO.out.alloc _) ⟨wr.heap.size, 0, none⟩ 1 1 [iv (ptrOr x9)] rfl rfl (cell_one_new _ _ _) ?c2 ?c3 ?c4 ?c5 ?next)
      case c2 => intro u hu; simp at hu; subst hu; rfl
      case c3 => unfold maxLen; omega
      case c4 => omega
      case c5 => simp; omega
      case next =>
        intro v' w5 hown5 hg halt
        have g3 : Below w.heap.size w w5 := (HB.out.alloc (by omega) _).grown hg (by simp; omega) (fun k hk => by have := (HO.out.lt k hk).1; omega)
        have g4 : w5.ownsRow (w.heap.size + 1) 3 1 v' 10 (intsV (gorL ⟨x0, x1, x2, x3, x4, x5, x6, x7, x8, x9⟩)) := hown5
        have hpu := HPUT.out w5 g3 v' (IntsAt.ofOwn g4) (fun b hb => by have := (g4.lt b hb).1; omega)
        have hend : ∀ (e : Ending) (w6 : World), RPost R RR.1 (iv RR.2) w5 e w6 → RPost R RR.1 (iv RR.2) w e w6 := fun e w6 hp => RPost.after g3 hp
        have HE := Lib.hid hend; have HP := Lib.hid hpu
        obtain ⟨o5, c5, hv5⟩ := own_form g4
        subst hv5
        clear g3 g4 hown5 hg halt hpu hend HPUT HB HO
        go_wp2_with fail
        refine HP.out.mono ?_
        rintro e w6 ⟨rfl, hq⟩
        have HQ := Lib.hid (HE.out _ w6 ⟨rfl, hq⟩); clear hq
        go_wp2
        go_ret
        exact HQ.out
end Go.Proofs.YtcnppdbgieaddaaGreat
