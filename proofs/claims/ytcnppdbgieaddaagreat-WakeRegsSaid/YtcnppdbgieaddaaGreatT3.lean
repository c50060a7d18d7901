/- The statement's first line: awake. The statement WakeRegs: the register that is told gets the word, and no other one. The walk. -/
import Derived.Test.YtcnppdbgieaddaaGreatT2
import Derived.Test.YtcnppdbgieaddaaGreatK12
namespace Go.Proofs.YtcnppdbgieaddaaGreat
open Go.RowKit
set_option linter.unusedVariables false
set_option linter.unusedSimpArgs false
variable {w w' w0 : World} {L : Lay} {R : RLay} {s t : PH} {V : List (Nat × List Value)} {O : List (Value × List Int)}
theorem pop_j (h : JS L s R t w0 w V O) (ch : Int) (send : Bool) : Calls Tryz.prog 107 #[hptr L, iv ch, .bool send] w fun e w' => e = .returned (.tuple #[iv (popH s ch send).2.1, .bool (popH s ch send).2.2]) ∧ JS L (popH s ch send).1 R t w0 w' V O :=
  h.l (x := [iv ch, .bool send]) fun L => pop_s ch send
theorem wake_j (h : JS L s R t w0 w V O) (x v : Int) (hv : I64 v) : Calls Tryz.prog 28 #[hptr L, iv x, iv v] w fun e w' => e = .returned (.tuple #[iv (wakeH s x v).2.1, iv (wakeH s x v).2.2]) ∧ JS L (wakeH s x v).1 R t w0 w' V O :=
  h.l (x := [iv x, iv v]) fun L => wake_s x v hv
theorem gor_j (h : JS L s R t w0 w V O) (a : Int) : Calls Tryz.prog 29 #[hptr L, iv a] w fun e w' => e = .returned (.tuple #[(gorR s.A a).1.v, iv (gorR s.A a).2]) ∧ JS L s R t w0 w' V O :=
  h.l (x := [iv a]) fun L => gor_s a
namespace Law14
variable {bb : Nat} {chans gors : List Int}
theorem made01 : (madeB [0] 1).2 = ([0], [16, 32]) := by kernel_rfl
theorem awake1 : (popH (waitH (madeB [0] 1).1 16 [0] [false] 0 5) 0 false).2 = (64, true) := by kernel_rfl
theorem awake2 : (wakeH (popH (waitH (madeB [0] 1).1 16 [0] [false] 0 5) 0 false).1 64 8).2 = (16, 0) := by kernel_rfl
theorem awake3 : gorR (wakeH (popH (waitH (madeB [0] 1).1 16 [0] [false] 0 5) 0 false).1 64 8).1.A 16 = (⟨0, 0, 5, 8, 0, 0, 0, 0, 0, -1⟩, 0) := by kernel_rfl
/-- The bench's number 0 of either kind, read in both heaps' world. -/
theorem gor_j0 {cv gv : Value} (h : JS L s R t w0 w V O) (hb : (bb, [hptr L, rptr R, cv, gv]) ∈ V) (hc : (cv, chans) ∈ O) (hg : (gv, gors) ∈ O) (n : Int) (hn : I64 n) (h1 : 0 < gors.length) (h2 : gors.length < 1000) :
    Calls Tryz.prog 23 #[.pointer (some ⟨bb, 0, none⟩), iv n] w fun e w' => e = .returned (iv (pickI gors n)) ∧ JS L s R t w0 w' V O :=
  (gor_b (ben_of h hb hc hg) n hn h1 h2).mono fun e w' q => ⟨q.1, h.ext q.2⟩
theorem ch_j0 {cv gv : Value} (h : JS L s R t w0 w V O) (hb : (bb, [hptr L, rptr R, cv, gv]) ∈ V) (hc : (cv, chans) ∈ O) (hg : (gv, gors) ∈ O) (n : Int) (hn : I64 n) (h1 : 0 < chans.length) (h2 : chans.length < 1000) :
    Calls Tryz.prog 24 #[.pointer (some ⟨bb, 0, none⟩), iv n] w fun e w' => e = .returned (iv (pickI chans n)) ∧ JS L s R t w0 w' V O :=
  (ch_b (ben_of h hb hc hg) n hn h1 h2).mono fun e w' q => ⟨q.1, h.ext q.2⟩
set_option maxRecDepth 100000 in
set_option maxHeartbeats 4000000 in
theorem awake_j (w : World) : Calls Tryz.prog 20 #[] w fun e w' => e = .returned (.bool true) ∧ Ext w w' := by
  have hm := made_j [0] _ (ints_one w 0 3) (by intro x hx; simp at hx; subst hx; unfold I64; omega) (by simp) 1 (by unfold I64; omega)
  unfold MadePost at hm
  rw [made01] at hm
  have h1 := awake1; have h2 := awake2; have h3 := awake3
  generalize (madeB [0] 1).1 = S0 at hm h1 h2 h3
  generalize hS1 : waitH S0 16 [0] [false] 0 5 = S1 at h1 h2 h3
  generalize hS2 : (popH S1 0 false).1 = S2 at h2 h3
  generalize hS3 : (wakeH S2 64 8).1 = S3 at h3
  have HM := Lib.hid hm; have H1 := Lib.hid h1; have H2 := Lib.hid h2; have H3 := Lib.hid h3; have HS1 := Lib.hid hS1; have HS2 := Lib.hid hS2; have HS3 := Lib.hid hS3
  clear hm h1 h2 h3 hS1 hS2 hS3
  go_enter Tryz.func20, Tryz.ntmps20
  go_wp2_with fail
  refine HM.out.mono ?_
  rintro e w1 ⟨L, R, bb, rfl, hB⟩
  obtain ⟨cv, gv, hbb, j⟩ := hB
  have hx : Ext w (w.alloc (.cells #[iv 0] 3)) := (Ext.refl _).alloc _
  have HX := Lib.hid hx; clear hx
  have s1 := gor_j0 j (.head _) (.head _) (.tail _ (.head _)) 0 (by unfold I64; omega) (by simp) (by simp)
  have S1' := Lib.hid (show Calls Tryz.prog 23 #[.pointer (some ⟨bb, 0, none⟩), iv 0] w1 fun e w' => e = .returned (iv 16) ∧ _ from s1)
  clear s1 j HM hbb
  go_wp2_with fail
  refine S1'.out.mono ?_
  rintro e w2 ⟨rfl, j⟩
  have s1 := ch_j0 j (.head _) (.head _) (.tail _ (.head _)) 0 (by unfold I64; omega) (by simp) (by simp)
  have S2' := Lib.hid (show Calls Tryz.prog 24 #[.pointer (some ⟨bb, 0, none⟩), iv 0] w2 fun e w' => e = .returned (iv 0) ∧ _ from s1)
  clear s1 j S1'
  go_wp2_with fail
  refine S2'.out.mono ?_
  rintro e w3 ⟨rfl, j⟩
  have j2 := (j.new [iv 0] 3).new [.bool false] 4
  rw [World.size_alloc] at j2
  have s1 := wait_j (.tail _ (.tail _ (.head _))) 16 [0] [false] rfl (by simp) (.tail _ (.head _)) (.head _) 0 5 (fun _ => rpark_eq (.inl (by simp [waitN])) 16) j2
  rw [HS1.out] at s1
  have S3' := Lib.hid (show Calls Tryz.prog 106 #[.pointer (some ⟨bb, 0, none⟩), iv 16, .slice (some ⟨w3.heap.size, 0, none⟩) 1 1, .slice (some ⟨w3.heap.size + 1, 0, none⟩) 1 1, iv 0, iv 5] _ fun e w' => e = .returned (.bool true) ∧ _ from s1)
  clear s1 j j2 S2' HS1
  go_wp2_with fail
  refine S3'.out.mono ?_
  rintro e w4 ⟨rfl, j⟩
  have k0 := (j.blk (.tail _ (.tail _ (.head _)))).at 0 rfl
  have hch := fun w' (he : Ext w4 w') => ch_j0 (j.ext he) (.tail _ (.tail _ (.head _))) (.head _) (.tail _ (.head _)) 0 (by unfold I64; omega) (by simp) (by simp)
  have hch2 : ∀ w', Ext w4 w' → Calls Tryz.prog 24 #[.pointer (some ⟨bb, 0, none⟩), iv 0] w' fun e w' => e = .returned (iv 0) ∧ _ := fun w' he => hch w' he
  have hpo := fun w' (jj : JS L S1 R S1 (w.alloc (.cells #[iv 0] 3)) w' [(w3.heap.size + 1, [.bool false]), (w3.heap.size, [iv 0]), (bb, [hptr L, rptr R, cv, gv])] [(cv, [0]), (gv, [16, 32])]) => pop_j jj 0 false
  rw [HS2.out, H1.out] at hpo
  have HCH := Lib.hid hch2; have HPO := Lib.hid hpo; have JW := Lib.hid j
  clear hch hch2 hpo j S3' HS2 H1
  go_wp2_with fail
  go_region_held3 (fun w' => w'.cell? ⟨bb, 0, none⟩ = some (hptr L)) (first | exact (j6.blk (.tail _ (.tail _ (.head _)))).at 0 rfl | exact (j5.blk (.tail _ (.tail _ (.head _)))).at 0 rfl | go_keep) (first | (go_at_call 24; refine (HCH.out _ ?_).mono ?_; (repeat (first | exact Ext.refl _ | refine Ext.alloc ?_ _ | refine Ext.drew ?_)); rintro e w5 ⟨rfl, j5⟩) | (go_at_call 107; refine (HPO.out _ (j5.ext ?_)).mono ?_; (repeat (first | exact Ext.refl _ | refine Ext.alloc ?_ _ | refine Ext.drew ?_)); rintro e w6 ⟨rfl, j6⟩))
  have s1 := wake_j j6 64 8 (by unfold I64; omega)
  rw [HS3.out, H2.out] at s1
  have k0 := (j6.blk (.tail _ (.tail _ (.head _)))).at 0 rfl
  have S4' := Lib.hid s1
  clear s1 j6 j5 HCH HPO JW HS3 H2
  go_wp2_with fail
  refine S4'.out.mono ?_
  rintro e w7 ⟨rfl, j⟩
  have k0 := (j.blk (.tail _ (.tail _ (.head _)))).at 0 rfl
  have s1 := gor_j j 16
  rw [H3.out] at s1
  have S5' := Lib.hid s1
  clear s1 j S4' H3
  go_wp2_with fail
  refine S5'.out.mono ?_
  rintro e w8 ⟨rfl, j⟩
  have j2 := j.new [iv 0, iv 0, iv 5, iv 8, iv 0, iv 0, iv 0, iv 0, iv 0, iv (-1)] 44
  have s1 := gor_j0 j2 (.tail _ (.tail _ (.tail _ (.head _)))) (.head _) (.tail _ (.head _)) 0 (by unfold I64; omega) (by simp) (by simp)
  have S6' := Lib.hid (show Calls Tryz.prog 23 #[.pointer (some ⟨bb, 0, none⟩), iv 0] _ fun e w' => e = .returned (iv 16) ∧ _ from s1)
  clear s1 j j2 S5'
  go_wp2_with fail
  refine S6'.out.mono ?_
  rintro e w9 ⟨rfl, j⟩
  obtain ⟨c0, c1, c2, c3, c4, c5, c6, c7, c8, c9⟩ := j.ten (.head _)
  have hp := Lib.hid (HX.out.trans (Ext.of j.past))
  clear j S6'
  go_wp2
  go_ret
  exact ⟨rfl, hp.out⟩
end Law14
end Go.Proofs.YtcnppdbgieaddaaGreat

namespace Go.Proofs.YtcnppdbgieaddaaGreat
open Go.RowKit
set_option linter.unusedVariables false
set_option linter.unusedSimpArgs false
variable {w w' w0 : World} {L : Lay} {R : RLay} {s t : PH} {V : List (Nat × List Value)} {O : List (Value × List Int)}
/-- Begin with no roots, the heap by itself. -/
theorem begin0_j (h : JS L s R t w0 w V O) : Calls Tryz.prog 27 #[hptr L, .slice none 0 0] w fun e w' => e = .returned (iv (beginH s []).2) ∧ JS L (beginH s []).1 R t w0 w' V O :=
  h.l (x := [.slice none 0 0]) fun L => fun w0 w V h => h.write fun L' h1 h2 h3 => by rw [← hptr_eq h2]; exact hbegin_c w h1 (.inl ⟨rfl, rfl⟩) (by simp) (fun b e => by cases e)
theorem colour_j (h : JS L s R t w0 w V O) (a : Int) : Calls Tryz.prog 30 #[hptr L, iv a] w fun e w' => e = .returned (iv (colourH s a)) ∧ JS L s R t w0 w' V O :=
  h.l (x := [iv a]) fun L => colour_s a
theorem lall_j (h : JS L s R t w0 w V O) (ch : Int) (send : Bool) : Calls Tryz.prog 31 #[hptr L, iv ch, .bool send] w fun e w' => JS L s R t w0 w' V O ∧ ∃ v, e = .returned v ∧ IntsAt w' v (allA s.A ch send) := by
  obtain ⟨L', e1, e2, hh, _, hb⟩ := h.hs
  rw [← e1]
  exact (lall_s (L := L') ch send w w V (hh.sub fun p hp => List.mem_append.2 (.inl hp))).mono fun e w' q => ⟨hb _ _ _ q.1 fun p hp => .inl hp, q.2⟩
namespace Law14
/-- The heap as it stands when all is parked; and when, if it is so, a cycle has begun. -/
def wrS (r tgt : Int) : PH := (parkH (pushH (putSudogH (allocB (madeB [0] 1).1 3 7).2 64 ⟨16, 0, 0, -1, tgt, r, -1⟩).1 0 false 64).1 16 [64]).1
def wrM (r tgt : Int) (mark : Bool) : PH := if mark = true then (beginH (wrS r tgt) []).1 else wrS r tgt
def wrA (r tgt : Int) : AS := (parkA (pushA (putSudogA (allocS (madeB [0] 1).1.A 3 7).2 64 ⟨16, 0, 0, -1, tgt, r, -1⟩) 0 false 64).1 16 [64]).1
theorem wr0 : (allocB (madeB [0] 1).1 3 7).1 = 64 := by kernel_rfl
theorem wr1 (r tgt v : Int) : (wakeA (wrA r tgt) 64 v).2 = (16, 0) := by kernel_rfl
theorem wr2 (r tgt v : Int) : gorR (wakeA (wrA r tgt) 64 v).1 16 = (gorOf (gorL (PGor.setReg ⟨0, 0, rt (rt (rt tgt)), 0, 0, 0, 0, 0, 0, -1⟩ (rt (rt (rt r))) v)), 0) := by kernel_rfl
theorem wr3 (r tgt v : Int) : allA (wakeA (wrA r tgt) 64 v).1 0 false = [] := by kernel_rfl
theorem wr4 (r tgt v : Int) : kindA (wakeA (wrA r tgt) 64 v).1 16 = 4 := by kernel_rfl
theorem wr5 : (allocB (madeB [0] 1).1 3 7).2.m 16 = 0 := by kernel_rfl
theorem wr6 : (allocB (madeB [0] 1).1 3 7).2.phase = 0 := by kernel_rfl
theorem wr7a (r tgt : Int) : (sudogA (wrA r tgt) 64).map (fun x => x.gor) = some 16 := by kernel_rfl
theorem wr7 (r tgt : Int) : ∃ x, sudogA (wrA r tgt) 64 = some x ∧ x.gor = 16 := by
  have h := wr7a r tgt
  cases e : sudogA (wrA r tgt) 64 with
  | none => rw [e] at h; cases h
  | some x => rw [e] at h; exact ⟨x, rfl, by simpa using h⟩
theorem wr8 (r tgt : Int) : (gorA (wrA r tgt) 16).isSome = true := by kernel_rfl
theorem wrS_A (r tgt : Int) : (wrS r tgt).A = wrA r tgt := by
  unfold wrS wrA
  rw [(parkH_A' _ _ _).1, (pushH_A' _ _ _ _).1, putSudogH_A']
  rw [show (allocB (madeB [0] 1).1 3 7).2.A = (allocS (madeB [0] 1).1.A 3 7).2 from allocH_A' _ _ _]
theorem wrM_A (r tgt : Int) (mark : Bool) : (wrM r tgt mark).A = wrA r tgt := by
  unfold wrM
  split
  · unfold beginH; split <;> exact wrS_A r tgt
  · exact wrS_A r tgt
theorem wrS_calm (r tgt : Int) : Calm (allocB (madeB [0] 1).1 3 7).2 (wrS r tgt) := ((putSudogH_cc _ _ _).trans (pushH_cc _ _ _ _)).trans (parkH_cc _ _ _)
theorem wrM_phase (r tgt : Int) (mark : Bool) : (wrM r tgt mark).phase = if mark = true then 1 else 0 := by
  have h : (wrS r tgt).phase = 0 := (wrS_calm r tgt).phase.trans wr6
  unfold wrM
  split
  · unfold beginH; rw [if_pos h]; rfl
  · exact h
theorem gor_back (g : PGor) (h : g.sudogs = -1) (h1 : rt g.id = g.id) (h2 : rt g.status = g.status) (h3 : rt g.pc = g.pc) : gorOf (gorL g) = g := by
  obtain ⟨a, b, c, r0, r1, r2, r3, r4, r5, d⟩ := g
  simp only at h h1 h2 h3
  subst h
  show PGor.mk (rt a) (rt b) (rt c) r0 r1 r2 r3 r4 r5 (atW (ptrOr (-1))) = _
  rw [h1, h2, h3, show atW (ptrOr (-1)) = -1 from by kernel_rfl]
/-- What WakeRegs looks at, at last. -/
theorem wr_out (r tgt v : Int) (mark : Bool) (hr : -9 < r ∧ r < 9) (ht : 0 ≤ tgt ∧ tgt < 100) : (wakeH (wrM r tgt mark) 64 v).2 = (16, 0) ∧ gorR (wakeH (wrM r tgt mark) 64 v).1.A 16 = (PGor.setReg ⟨0, 0, tgt, 0, 0, 0, 0, 0, 0, -1⟩ r v, 0) ∧
    allA (wakeH (wrM r tgt mark) 64 v).1.A 0 false = [] ∧ ((colourH (wakeH (wrM r tgt mark) 64 v).1 16 == 0) = !mark) := by
  obtain ⟨e1, e2⟩ := wakeH_A' (wrM r tgt mark) 64 v
  rw [wrM_A] at e1 e2
  rw [e1, e2, wr1, wr2, wr3]
  have hrr : rt (rt (rt r)) = r := by have h := rt_of (x := r) (by omega); rw [h, h, h]
  have htt : rt (rt (rt tgt)) = tgt := by have h := rt_of (x := tgt) (by omega); rw [h, h, h]
  rw [hrr, htt]
  refine ⟨rfl, ?_, rfl, ?_⟩
  · rw [gor_back]
    · unfold PGor.setReg; repeat' split
      all_goals rfl
    · unfold PGor.setReg; repeat' split
      all_goals exact rt_of (x := 0) (by omega)
    · unfold PGor.setReg; repeat' split
      all_goals exact rt_of (x := 0) (by omega)
    · unfold PGor.setReg; repeat' split
      all_goals exact rt_of (x := tgt) (by omega)
  · cases mark with
    | true =>
      obtain ⟨x, hx1, hx2⟩ := wr7 r tgt
      have hp : (wrM r tgt true).phase = 1 := wrM_phase r tgt true
      have hs : sudogA (wrM r tgt true).A 64 = some x := by rw [wrM_A]; exact hx1
      have hg : ∃ g, gorA (wrM r tgt true).A x.gor = some g := by
        rw [hx2, wrM_A]; exact Option.isSome_iff_exists.1 (wr8 r tgt)
      obtain ⟨g, hg⟩ := hg
      have := wakeH_dark hp (v := v) hs hg (by rw [hx2, wrM_A, wr4]; omega)
      rw [hx2] at this
      simpa using this
    | false =>
      have hm : (wakeH (wrM r tgt false) 64 v).1.m 16 = 0 := by
        have hp : (wrM r tgt false).phase ≠ 1 := by rw [wrM_phase]; simp
        rw [(wakeH_cc _ _ _).m hp]
        show (wrS r tgt).m 16 = 0
        rw [(wrS_calm r tgt).m (by rw [wr6]; omega)]
        exact wr5
      have : colourH (wakeH (wrM r tgt false) 64 v).1 16 = 0 := by unfold colourH; rw [hm]; split <;> rfl
      rw [this]; rfl
end Law14
end Go.Proofs.YtcnppdbgieaddaaGreat
