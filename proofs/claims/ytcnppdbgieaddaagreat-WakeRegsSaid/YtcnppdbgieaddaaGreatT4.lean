/- The statement WakeRegs: its walk. -/
import Derived.Test.YtcnppdbgieaddaaGreatT3
namespace Go.Proofs.YtcnppdbgieaddaaGreat
open Go.RowKit
set_option linter.unusedVariables false
set_option linter.unusedSimpArgs false
variable {w w' w0 : World} {L : Lay} {R : RLay} {s t : PH} {V : List (Nat × List Value)} {O : List (Value × List Int)}
theorem park_jv (h : JS L s R t w0 w V O) (g x : Int) {b : Nat} (hb : (b, [iv x]) ∈ V) : Calls Tryz.prog 26 #[hptr L, iv g, .slice (some ⟨b, 0, none⟩) 1 1] w fun e w' => e = .returned (iv (parkH s g [x]).2) ∧ JS L (parkH s g [x]).1 R t w0 w' V O := by
  obtain ⟨L', e1, e2, hh, hs, hb2⟩ := h.hs
  rw [← e1]
  have hv : SlV V (.slice (some ⟨b, 0, none⟩) 1 1) [x] := ⟨some ⟨b, 0, none⟩, 1, rfl, fun i y hi => ⟨b, [iv x], rfl, hb, by
    match i, hi with
    | 0, hi => simp at hi; subst hi; rfl⟩⟩
  exact (park_s (L := L') g [x] (by simp) _ w w _ (hh.sub (V' := V) fun p hp => List.mem_append.2 (.inl hp)) hv).mono fun e w' q => ⟨q.1, hb2 _ _ _ q.2 fun p hp => .inl hp⟩
theorem setReg_all (m r v : Int) : ∃ y : Nat → Int, ((PGor.setReg ⟨0, 0, m, 0, 0, 0, 0, 0, 0, -1⟩ r v, (0 : Int)) : PGor × Int) = ((⟨0, 0, m, y 0, y 1, y 2, y 3, y 4, y 5, -1⟩ : PGor), 0) ∧ ∀ p : Nat, p < 6 → (r = (p : Int) → y p = v) ∧ (r ≠ (p : Int) → y p = 0) := by
  refine ⟨fun p => if r = (p : Int) then v else 0, ?_, fun p _ => ⟨fun h => if_pos h, fun h => if_neg h⟩⟩
  unfold PGor.setReg
  by_cases h0 : r = 0
  · subst h0; rfl
  by_cases h1 : r = 1
  · subst h1; rfl
  by_cases h2 : r = 2
  · subst h2; rfl
  by_cases h3 : r = 3
  · subst h3; rfl
  by_cases h4 : r = 4
  · subst h4; rfl
  by_cases h5 : r = 5
  · subst h5; rfl
  · simp only [h0, h1, h2, h3, h4, h5, if_false]
    have e0 : ¬ r = ((0 : Nat) : Int) := h0
    have e1 : ¬ r = ((1 : Nat) : Int) := h1
    have e2 : ¬ r = ((2 : Nat) : Int) := h2
    have e3 : ¬ r = ((3 : Nat) : Int) := h3
    have e4 : ¬ r = ((4 : Nat) : Int) := h4
    have e5 : ¬ r = ((5 : Nat) : Int) := h5
    simp only [if_neg e0, if_neg e1, if_neg e2, if_neg e3, if_neg e4, if_neg e5]
theorem tmod9 (a : Int) : -9 < a.tmod 9 ∧ a.tmod 9 < 9 := by
  rcases Int.le_total 0 a with h | h
  · rw [Int.tmod_eq_emod_of_nonneg h]; omega
  · have := Int.neg_tmod (-a) 9
    rw [Int.neg_neg] at this
    rw [this, Int.tmod_eq_emod_of_nonneg (by omega)]; omega
namespace Law14
set_option maxRecDepth 100000 in
set_option maxHeartbeats 4000000 in
theorem wakeRegs_j (a0 a1 a2 : Int) (mark : Bool) (i0 : I64 a0) (i1 : I64 a1) (i2 : I64 a2) (w : World) : Calls Tryz.prog 3 #[iv a0, iv a1, iv a2, .bool mark] w fun e w' => e = .returned (.bool true) ∧ Ext w w' := by
  have hm := made_j [0] _ (ints_one w 0 3) (by intro x hx; simp at hx; subst hx; unfold I64; omega) (by simp) 1 (by unfold I64; omega)
  unfold MadePost at hm
  rw [made01] at hm
  obtain ⟨r, hr⟩ : ∃ r, r = a0.tmod 9 := ⟨_, rfl⟩
  obtain ⟨m, hmm⟩ : ∃ m, m = n64 a1 % 100 := ⟨_, rfl⟩
  have hr9 : -9 < r ∧ r < 9 := hr ▸ tmod9 a0
  have hm100 : m < 100 := by omega
  have hout := wr_out r (m : Int) a2 mark hr9 ⟨by omega, by omega⟩
  have e0 : a0.tmod 9 = r := hr.symm
  have e1 : IntKind.u64.wrap a1 = (n64 a1 : Int) := by unfold n64; show a1 % 18446744073709551616 = _; rw [Int.toNat_of_nonneg (Int.emod_nonneg _ (by decide))]
  have e3 : (n64 a1 : Int).tmod 100 = (m : Int) := by rw [Int.tmod_eq_emod_of_nonneg (by omega)]; omega
  have e4 : (n64 a1 : Int) % 100 = (m : Int) := by omega
  have e5 : IntKind.i64.wrap (m : Int) = m := IntWalk.i64_in _ (by omega)
  have e6 := wr0
  obtain ⟨hr1, hr2⟩ := hr9
  -- the states, one by one
  unfold wrM wrS at hout
  generalize (madeB [0] 1).1 = S0 at hm hout e6
  generalize hA1 : allocB S0 3 7 = A1 at hout e6
  obtain ⟨at1, S1⟩ := A1
  simp only at e6 hout
  subst e6
  generalize hS2 : (putSudogH S1 64 ⟨16, 0, 0, -1, m, r, -1⟩).1 = S2 at hout
  generalize hS3 : (pushH S2 0 false 64).1 = S3 at hout
  generalize hS4 : (parkH S3 16 [64]).1 = S4 at hout
  have HM := Lib.hid hm; have HA1 := Lib.hid hA1; have HS2 := Lib.hid hS2; have HS3 := Lib.hid hS3; have HS4 := Lib.hid hS4; have HO := Lib.hid hout
  have hx : Ext w (w.alloc (.cells #[iv 0] 3)) := (Ext.refl _).alloc _
  have HX := Lib.hid hx
  have i2 := Lib.hid i2
  clear hm hA1 hS2 hS3 hS4 hout hx hr hmm i0 i1
  go_enter Tryz.func3, Tryz.ntmps3
  go_wp2_with fail
  refine HM.out.mono ?_
  rintro e w1 ⟨L, R, bb, rfl, hB⟩
  obtain ⟨cv, gv, hbb, j⟩ := hB
  have J := Lib.hid j
  clear j HM hbb e0 e1 e3 e4 e5
  go_wp2_with fail
  refine (awake_j w1).mono ?_
  rintro e w2 ⟨rfl, x2⟩
  have hal := alloc_j (.head _) 3 7 (J.out.ext x2)
  rw [HA1.out] at hal
  have HAL := Lib.hid hal
  clear hal x2 J HA1
  go_wp2_with fail
  refine HAL.out.mono ?_
  rintro e w3 ⟨rfl, j⟩
  have k0 := (j.blk (.head _)).at 0 rfl
  have hg := fun w' (he : Ext w3 w') => gor_j0 (j.ext he) (.head _) (.head _) (.tail _ (.head _)) 0 (by unfold I64; omega) (by simp) (by simp)
  have hg2 : ∀ w', Ext w3 w' → Calls Tryz.prog 23 #[.pointer (some ⟨bb, 0, none⟩), iv 0] w' fun e w' => e = .returned (iv 16) ∧ _ := fun w' he => hg w' he
  have hc := fun w' (jj : JS L S1 R S1 (w.alloc (.cells #[iv 0] 3)) w' [(bb, [hptr L, rptr R, cv, gv])] [(cv, [0]), (gv, [16, 32])]) => ch_j0 jj (.head _) (.head _) (.tail _ (.head _)) 0 (by unfold I64; omega) (by simp) (by simp)
  have hc2 : ∀ w', _ → Calls Tryz.prog 24 #[.pointer (some ⟨bb, 0, none⟩), iv 0] w' fun e w' => e = .returned (iv 0) ∧ _ := fun w' jj => hc w' jj
  have hp := fun w' (jj : JS L S1 R S1 (w.alloc (.cells #[iv 0] 3)) w' [(bb, [hptr L, rptr R, cv, gv])] [(cv, [0]), (gv, [16, 32])]) => putSudog_j jj 64 ⟨16, 0, 0, -1, m, r, -1⟩ (show I64 0 by unfold I64; omega)
  rw [HS2.out] at hp
  have HG := Lib.hid hg2; have HC := Lib.hid hc2; have HP := Lib.hid hp
  clear hg hg2 hc hc2 hp j HAL HS2
  go_wp2_with fail
  go_region_held3 (fun w' => w'.cell? ⟨bb, 0, none⟩ = some (hptr L)) (first | exact (j6.blk (.head _)).at 0 rfl | exact (j5.blk (.head _)).at 0 rfl | exact (j4.blk (.head _)).at 0 rfl | go_keep) (first | (go_at_call 23; refine (HG.out _ ?_).mono ?_; (repeat (first | exact Ext.refl _ | refine Ext.alloc ?_ _ | refine Ext.drew ?_)); rintro e w4 ⟨rfl, j4⟩) | (go_at_call 24; refine (HC.out _ (j4.ext ?_)).mono ?_; (repeat (first | exact Ext.refl _ | refine Ext.alloc ?_ _ | refine Ext.drew ?_)); rintro e w5 ⟨rfl, j5⟩) | (go_at_call 22; refine (HP.out _ (j5.ext ?_)).mono ?_; (repeat (first | exact Ext.refl _ | refine Ext.alloc ?_ _ | refine Ext.drew ?_)); rintro e w6 ⟨rfl, j6⟩))
  have J6 := Lib.hid j6
  clear j6 j5 j4 HG HC HP k0
  have k0 := (J6.out.blk (.head _)).at 0 rfl
  have hc := fun w' (he : Ext w6 w') => ch_j0 (J6.out.ext he) (.head _) (.head _) (.tail _ (.head _)) 0 (by unfold I64; omega) (by simp) (by simp)
  have hc2 : ∀ w', Ext w6 w' → Calls Tryz.prog 24 #[.pointer (some ⟨bb, 0, none⟩), iv 0] w' fun e w' => e = .returned (iv 0) ∧ _ := fun w' jj => hc w' jj
  have hp := fun w' (jj : JS L S2 R S1 (w.alloc (.cells #[iv 0] 3)) w' [(bb, [hptr L, rptr R, cv, gv])] [(cv, [0]), (gv, [16, 32])]) => push_j jj 0 false 64
  rw [HS3.out] at hp
  have HC := Lib.hid hc2; have HP := Lib.hid hp
  clear hc hc2 hp HS3
  go_wp2_with fail
  go_region_held3 (fun w' => w'.cell? ⟨bb, 0, none⟩ = some (hptr L)) (first | exact (j8.blk (.head _)).at 0 rfl | exact (j7.blk (.head _)).at 0 rfl | go_keep) (first | (go_at_call 24; refine (HC.out _ ?_).mono ?_; (repeat (first | exact Ext.refl _ | refine Ext.alloc ?_ _ | refine Ext.drew ?_)); rintro e w7 ⟨rfl, j7⟩) | (go_at_call 25; refine (HP.out _ (j7.ext ?_)).mono ?_; (repeat (first | exact Ext.refl _ | refine Ext.alloc ?_ _ | refine Ext.drew ?_)); rintro e w8 ⟨rfl, j8⟩))
  have J8 := Lib.hid j8
  clear j8 j7 HC HP k0 J6
  have k0 := (J8.out.blk (.head _)).at 0 rfl
  have BN : Hid (∀ w', Ext w8 w' → Calls Tryz.prog 23 #[.pointer (some ⟨bb, 0, none⟩), iv 0] w' fun e w'' => e = .returned (iv 16) ∧ Ext w' w'') := fun w' he => gor_b ((ben_of J8.out (.head _) (.head _) (.tail _ (.head _))).ext he) 0 (by unfold I64; omega) (by simp) (by simp)
  have hpk := fun w' b (jj : JS L S3 R S1 (w.alloc (.cells #[iv 0] 3)) w' [(b, [iv 64]), (bb, [hptr L, rptr R, cv, gv])] [(cv, [0]), (gv, [16, 32])]) => park_jv jj 16 64 (.head _)
  rw [HS4.out] at hpk
  have HPK := Lib.hid hpk
  clear hpk HS4
  have kl := (J8.out.blk (.head _)).lt
  have kn := Nat.ne_of_lt kl
  go_wp2_with fail
  go_region_held3 (fun w' => w'.cell? ⟨bb, 0, none⟩ = some (hptr L)) (first | exact (j10.blk (.tail _ (.head _))).at 0 rfl | go_keep | exact cell_later x9.toBelow ‹_›) (first | (go_at_call 23; refine (BN.out _ ?_).mono ?_; (repeat (first | exact Ext.refl _ | refine Ext.alloc ?_ _ | refine Ext.drew ?_)); rintro e w9 ⟨rfl, x9⟩) | (go_at_call 26; first | ((with_reducible refine (HPK.out _ _ (((J8.out.new [iv 64] 3).drew).ext x9)).mono ?_); rintro e w10 ⟨rfl, j10⟩) | ((with_reducible refine (HPK.out _ _ ((J8.out.new [iv 64] 3).ext x9)).mono ?_); rintro e w10 ⟨rfl, j10⟩) | (refine (HPK.out _ _ ((J8.out.ext (Ext.trans ?_ x9)).new [iv 64] 3)).mono ?_; (repeat (first | exact Ext.refl _ | refine Ext.alloc ?_ _ | refine Ext.drew ?_)); rintro e w10 ⟨rfl, j10⟩)))
  all_goals
    have J10 := Lib.hid (j10.sub (V' := [(bb, [hptr L, rptr R, cv, gv])]) (fun p hp => .tail _ hp))
    clear j10 x9 k0 kl kn
    have k0 := (J10.out.blk (.head _)).at 0 rfl
    cases mark with
    | true =>
      have hbg := begin0_j J10.out
      simp only [if_true] at HO
      generalize (beginH S4 []).1 = S5 at hbg HO
      generalize (beginH S4 []).2 = be at hbg
      have HBG := Lib.hid hbg
      clear hbg J10
      go_wp2_with fail
      refine HBG.out.mono ?_
      rintro e w11 ⟨rfl, j11⟩
      have J11 := Lib.hid j11
      have k0 := (j11.blk (.head _)).at 0 rfl
      clear j11 HBG
      have hw := wake_j J11.out 64 a2 i2.out
      obtain ⟨q1, q2, q3, q4⟩ := HO.out
      rw [q1] at hw
      generalize (wakeH S5 64 a2).1 = S6 at hw q2 q3 q4
      have HW := Lib.hid hw
      have Q2 := Lib.hid q2; have Q3 := Lib.hid q3; have Q4 := Lib.hid q4
      clear hw q1 q2 q3 q4 HO
      go_wp2_with fail
      refine HW.out.mono ?_
      rintro e w12 ⟨rfl, j12⟩
      have k0 := (j12.blk (.head _)).at 0 rfl
      have hg := gor_j j12 16
      obtain ⟨y, hy1, hy2⟩ := setReg_all m r a2
      rw [Q2.out, hy1] at hg
      have HY := Lib.hid hy2
      obtain ⟨y0, hy0⟩ : ∃ z, z = y 0 := ⟨_, rfl⟩
      obtain ⟨y1, hy1'⟩ : ∃ z, z = y 1 := ⟨_, rfl⟩
      obtain ⟨y2, hy2'⟩ : ∃ z, z = y 2 := ⟨_, rfl⟩
      obtain ⟨y3, hy3'⟩ : ∃ z, z = y 3 := ⟨_, rfl⟩
      obtain ⟨y4, hy4'⟩ : ∃ z, z = y 4 := ⟨_, rfl⟩
      obtain ⟨y5, hy5'⟩ : ∃ z, z = y 5 := ⟨_, rfl⟩
      rw [← hy0, ← hy1', ← hy2', ← hy3', ← hy4', ← hy5'] at hg
      have HYE : Hid (y0 = y 0 ∧ y1 = y 1 ∧ y2 = y 2 ∧ y3 = y 3 ∧ y4 = y 4 ∧ y5 = y 5) := ⟨hy0, hy1', hy2', hy3', hy4', hy5'⟩
      clear hy1 hy2 hy0 hy1' hy2' hy3' hy4' hy5'
      have HG := Lib.hid hg
      clear hg j12 HW Q2 J11
      go_wp2_with fail
      refine HG.out.mono ?_
      rintro e w13 ⟨rfl, j13⟩
      have j14 := j13.new [iv 0, iv 0, iv m, iv y0, iv y1, iv y2, iv y3, iv y4, iv y5, iv (-1)] 44
      have k0 := (j14.blk (.tail _ (.head _))).at 0 rfl
      have kb := j14.blk (.head _)
      have kc := kb.at 2 rfl
      have hreg : ∀ p : Nat, p < 6 → (w13.alloc (.cells #[iv 0, iv 0, iv m, iv y0, iv y1, iv y2, iv y3, iv y4, iv y5, iv (-1)] 44)).cell? ⟨w13.heap.size, 3 + p, none⟩ = some (iv (y p)) := fun p hp => by
        obtain ⟨z0, z1, z2, z3, z4, z5⟩ := HYE.out
        rcases (by omega : p = 0 ∨ p = 1 ∨ p = 2 ∨ p = 3 ∨ p = 4 ∨ p = 5) with rfl | rfl | rfl | rfl | rfl | rfl
        · rw [← z0]; exact kb.at 3 rfl
        · rw [← z1]; exact kb.at 4 rfl
        · rw [← z2]; exact kb.at 5 rfl
        · rw [← z3]; exact kb.at 6 rfl
        · rw [← z4]; exact kb.at 7 rfl
        · rw [← z5]; exact kb.at 8 rfl
      have HREG := Lib.hid hreg; have J14 := Lib.hid j14
      clear hreg j14 j13 kb HG k0 kc
      go_wp2_with fail
      generalize (w13.alloc (.cells #[iv 0, iv 0, iv m, iv y0, iv y1, iv y2, iv y3, iv y4, iv y5, iv (-1)] 44)) = W at HREG J14 ⊢
      go_loop [15] (fun v15 => ∃ p : Nat, p ≤ 6 ∧ v15 = iv p) (fun v15 => 6 - (intOf v15).toNat)
      case atStart => exact ⟨0, Nat.zero_le _, rfl⟩
      case round =>
        obtain ⟨p, hp, rfl⟩ := hrel
        by_cases hlt : p < 6
        · have hc := HREG.out p hlt
          have hlt' : (p : Int) < 6 := by omega
          by_cases hrp : r = (p : Int)
          · rw [(HY.out p hlt).1 hrp] at hc
            have t1 : ((p : Int) == r) = true := by rw [hrp]; simp
            clear hrp
            go_wp2
            go_round
            case rel => exact ⟨p + 1, by omega, by go_num⟩
            case measure => simp [intOf]; omega
          · rw [(HY.out p hlt).2 hrp] at hc
            have t1 : ((p : Int) == r) = false := by rw [beq_eq_false_iff_ne]; exact fun e => hrp e.symm
            clear hrp
            go_wp2
            go_round
            case rel => exact ⟨p + 1, by omega, by go_num⟩
            case measure => simp [intOf]; omega
        · obtain rfl : p = 6 := by omega
          have kb0 := J14.out.blk (.tail _ (.head _))
          have k0 := kb0.at 0 rfl
          have kc := (J14.out.blk (.head _)).at 2 rfl
          have hcol := fun w' (he : Ext W w') => colour_j (J14.out.ext he) 16
          have hch := fun w' (jj : JS L S6 R S1 (w.alloc (.cells #[iv 0] 3)) w' [(w13.heap.size, [iv 0, iv 0, iv m, iv y0, iv y1, iv y2, iv y3, iv y4, iv y5, iv (-1)]), (bb, [hptr L, rptr R, cv, gv])] [(cv, [0]), (gv, [16, 32])]) => ch_j0 jj (.tail _ (.head _)) (.head _) (.tail _ (.head _)) 0 (by unfold I64; omega) (by simp) (by simp)
          have hch2 : ∀ w', _ → Calls Tryz.prog 24 #[.pointer (some ⟨bb, 0, none⟩), iv 0] w' fun e w' => e = .returned (iv 0) ∧ _ := fun w' jj => hch w' jj
          have hal := fun w' (jj : JS L S6 R S1 (w.alloc (.cells #[iv 0] 3)) w' [(w13.heap.size, [iv 0, iv 0, iv m, iv y0, iv y1, iv y2, iv y3, iv y4, iv y5, iv (-1)]), (bb, [hptr L, rptr R, cv, gv])] [(cv, [0]), (gv, [16, 32])]) => lall_j jj 0 false
          rw [Q3.out] at hal
          have q4 := Q4.out
          generalize colourH S6 16 = cc at hcol q4
          have HCOL := Lib.hid hcol; have HCH := Lib.hid hch2; have HAL := Lib.hid hal
          clear hcol hch hch2 hal kb0 Q3 Q4 J14 HREG hlt hp
          simp only [Bool.not_true, Bool.not_false] at q4
          go_wp2_with fail
          go_region_held3 (fun w' => w'.cell? ⟨bb, 0, none⟩ = some (hptr L) ∧ w'.cell? ⟨w13.heap.size, 2, none⟩ = some (iv m)) (first | exact ⟨(j17.blk (.tail _ (.head _))).at 0 rfl, (j17.blk (.head _)).at 2 rfl⟩ | exact ⟨(j16.blk (.tail _ (.head _))).at 0 rfl, (j16.blk (.head _)).at 2 rfl⟩ | exact ⟨(j15.blk (.tail _ (.head _))).at 0 rfl, (j15.blk (.head _)).at 2 rfl⟩ | go_keep) (first | (go_at_call 30; refine (HCOL.out _ ?_).mono ?_; (repeat (first | exact Ext.refl _ | refine Ext.alloc ?_ _ | refine Ext.drew ?_)); rintro e w15 ⟨rfl, j15⟩) | (go_at_call 24; refine (HCH.out _ (j15.ext ?_)).mono ?_; (repeat (first | exact Ext.refl _ | refine Ext.alloc ?_ _ | refine Ext.drew ?_)); rintro e w16 ⟨rfl, j16⟩) | (go_at_call 31; refine (HAL.out _ (j16.ext ?_)).mono ?_; (repeat (first | exact Ext.refl _ | refine Ext.alloc ?_ _ | refine Ext.drew ?_)); rintro e w17 ⟨j17, v17, rfl, hv17⟩; obtain ⟨o17, c17, hf17⟩ := hv17.form; simp only [List.length_nil] at hf17; subst hf17))
          all_goals
            have HF := Lib.hid (HX.out.trans (Ext.of j17.past))
            clear j17 j16 j15 HCOL HCH HAL
            go_wp2
            go_ret
            exact ⟨rfl, HF.out⟩
    | false =>
      simp only [Bool.false_eq_true, if_false] at HO
      have hw := wake_j J10.out 64 a2 i2.out
      obtain ⟨q1, q2, q3, q4⟩ := HO.out
      rw [q1] at hw
      generalize (wakeH S4 64 a2).1 = S6 at hw q2 q3 q4
      have HW := Lib.hid hw
      have Q2 := Lib.hid q2; have Q3 := Lib.hid q3; have Q4 := Lib.hid q4
      clear hw q1 q2 q3 q4 HO
      go_wp2_with fail
      refine HW.out.mono ?_
      rintro e w12 ⟨rfl, j12⟩
      have k0 := (j12.blk (.head _)).at 0 rfl
      have hg := gor_j j12 16
      obtain ⟨y, hy1, hy2⟩ := setReg_all m r a2
      rw [Q2.out, hy1] at hg
      have HY := Lib.hid hy2
      obtain ⟨y0, hy0⟩ : ∃ z, z = y 0 := ⟨_, rfl⟩
      obtain ⟨y1, hy1'⟩ : ∃ z, z = y 1 := ⟨_, rfl⟩
      obtain ⟨y2, hy2'⟩ : ∃ z, z = y 2 := ⟨_, rfl⟩
      obtain ⟨y3, hy3'⟩ : ∃ z, z = y 3 := ⟨_, rfl⟩
      obtain ⟨y4, hy4'⟩ : ∃ z, z = y 4 := ⟨_, rfl⟩
      obtain ⟨y5, hy5'⟩ : ∃ z, z = y 5 := ⟨_, rfl⟩
      rw [← hy0, ← hy1', ← hy2', ← hy3', ← hy4', ← hy5'] at hg
      have HYE : Hid (y0 = y 0 ∧ y1 = y 1 ∧ y2 = y 2 ∧ y3 = y 3 ∧ y4 = y 4 ∧ y5 = y 5) := ⟨hy0, hy1', hy2', hy3', hy4', hy5'⟩
      clear hy1 hy2 hy0 hy1' hy2' hy3' hy4' hy5'
      have HG := Lib.hid hg
      clear hg j12 HW Q2 J10
      go_wp2_with fail
      refine HG.out.mono ?_
      rintro e w13 ⟨rfl, j13⟩
      have j14 := j13.new [iv 0, iv 0, iv m, iv y0, iv y1, iv y2, iv y3, iv y4, iv y5, iv (-1)] 44
      have k0 := (j14.blk (.tail _ (.head _))).at 0 rfl
      have kb := j14.blk (.head _)
      have kc := kb.at 2 rfl
      have hreg : ∀ p : Nat, p < 6 → (w13.alloc (.cells #[iv 0, iv 0, iv m, iv y0, iv y1, iv y2, iv y3, iv y4, iv y5, iv (-1)] 44)).cell? ⟨w13.heap.size, 3 + p, none⟩ = some (iv (y p)) := fun p hp => by
        obtain ⟨z0, z1, z2, z3, z4, z5⟩ := HYE.out
        rcases (by omega : p = 0 ∨ p = 1 ∨ p = 2 ∨ p = 3 ∨ p = 4 ∨ p = 5) with rfl | rfl | rfl | rfl | rfl | rfl
        · rw [← z0]; exact kb.at 3 rfl
        · rw [← z1]; exact kb.at 4 rfl
        · rw [← z2]; exact kb.at 5 rfl
        · rw [← z3]; exact kb.at 6 rfl
        · rw [← z4]; exact kb.at 7 rfl
        · rw [← z5]; exact kb.at 8 rfl
      have HREG := Lib.hid hreg; have J14 := Lib.hid j14
      clear hreg j14 j13 kb HG k0 kc
      go_wp2_with fail
      generalize (w13.alloc (.cells #[iv 0, iv 0, iv m, iv y0, iv y1, iv y2, iv y3, iv y4, iv y5, iv (-1)] 44)) = W at HREG J14 ⊢
      go_loop [15] (fun v15 => ∃ p : Nat, p ≤ 6 ∧ v15 = iv p) (fun v15 => 6 - (intOf v15).toNat)
      case atStart => exact ⟨0, Nat.zero_le _, rfl⟩
      case round =>
        obtain ⟨p, hp, rfl⟩ := hrel
        by_cases hlt : p < 6
        · have hc := HREG.out p hlt
          have hlt' : (p : Int) < 6 := by omega
          by_cases hrp : r = (p : Int)
          · rw [(HY.out p hlt).1 hrp] at hc
            have t1 : ((p : Int) == r) = true := by rw [hrp]; simp
            clear hrp
            go_wp2
            go_round
            case rel => exact ⟨p + 1, by omega, by go_num⟩
            case measure => simp [intOf]; omega
          · rw [(HY.out p hlt).2 hrp] at hc
            have t1 : ((p : Int) == r) = false := by rw [beq_eq_false_iff_ne]; exact fun e => hrp e.symm
            clear hrp
            go_wp2
            go_round
            case rel => exact ⟨p + 1, by omega, by go_num⟩
            case measure => simp [intOf]; omega
        · obtain rfl : p = 6 := by omega
          have kb0 := J14.out.blk (.tail _ (.head _))
          have k0 := kb0.at 0 rfl
          have kc := (J14.out.blk (.head _)).at 2 rfl
          have hcol := fun w' (he : Ext W w') => colour_j (J14.out.ext he) 16
          have hch := fun w' (jj : JS L S6 R S1 (w.alloc (.cells #[iv 0] 3)) w' [(w13.heap.size, [iv 0, iv 0, iv m, iv y0, iv y1, iv y2, iv y3, iv y4, iv y5, iv (-1)]), (bb, [hptr L, rptr R, cv, gv])] [(cv, [0]), (gv, [16, 32])]) => ch_j0 jj (.tail _ (.head _)) (.head _) (.tail _ (.head _)) 0 (by unfold I64; omega) (by simp) (by simp)
          have hch2 : ∀ w', _ → Calls Tryz.prog 24 #[.pointer (some ⟨bb, 0, none⟩), iv 0] w' fun e w' => e = .returned (iv 0) ∧ _ := fun w' jj => hch w' jj
          have hal := fun w' (jj : JS L S6 R S1 (w.alloc (.cells #[iv 0] 3)) w' [(w13.heap.size, [iv 0, iv 0, iv m, iv y0, iv y1, iv y2, iv y3, iv y4, iv y5, iv (-1)]), (bb, [hptr L, rptr R, cv, gv])] [(cv, [0]), (gv, [16, 32])]) => lall_j jj 0 false
          rw [Q3.out] at hal
          have q4 := Q4.out
          generalize colourH S6 16 = cc at hcol q4
          have HCOL := Lib.hid hcol; have HCH := Lib.hid hch2; have HAL := Lib.hid hal
          clear hcol hch hch2 hal kb0 Q3 Q4 J14 HREG hlt hp
          simp only [Bool.not_true, Bool.not_false] at q4
          go_wp2_with fail
          go_region_held3 (fun w' => w'.cell? ⟨bb, 0, none⟩ = some (hptr L) ∧ w'.cell? ⟨w13.heap.size, 2, none⟩ = some (iv m)) (first | exact ⟨(j17.blk (.tail _ (.head _))).at 0 rfl, (j17.blk (.head _)).at 2 rfl⟩ | exact ⟨(j16.blk (.tail _ (.head _))).at 0 rfl, (j16.blk (.head _)).at 2 rfl⟩ | exact ⟨(j15.blk (.tail _ (.head _))).at 0 rfl, (j15.blk (.head _)).at 2 rfl⟩ | go_keep) (first | (go_at_call 30; refine (HCOL.out _ ?_).mono ?_; (repeat (first | exact Ext.refl _ | refine Ext.alloc ?_ _ | refine Ext.drew ?_)); rintro e w15 ⟨rfl, j15⟩) | (go_at_call 24; refine (HCH.out _ (j15.ext ?_)).mono ?_; (repeat (first | exact Ext.refl _ | refine Ext.alloc ?_ _ | refine Ext.drew ?_)); rintro e w16 ⟨rfl, j16⟩) | (go_at_call 31; refine (HAL.out _ (j16.ext ?_)).mono ?_; (repeat (first | exact Ext.refl _ | refine Ext.alloc ?_ _ | refine Ext.drew ?_)); rintro e w17 ⟨j17, v17, rfl, hv17⟩; obtain ⟨o17, c17, hf17⟩ := hv17.form; simp only [List.length_nil] at hf17; subst hf17))
          all_goals
            have HF := Lib.hid (HX.out.trans (Ext.of j17.past))
            clear j17 j16 j15 HCOL HCH HAL
            go_wp2
            go_ret
            exact ⟨rfl, HF.out⟩
end Law14
end Go.Proofs.YtcnppdbgieaddaaGreat
