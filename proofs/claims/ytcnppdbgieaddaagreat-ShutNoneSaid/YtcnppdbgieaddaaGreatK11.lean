/- Who may go on: one is woken. -/
import Derived.Test.YtcnppdbgieaddaaGreatK10
namespace Go.Proofs.YtcnppdbgieaddaaGreat
open Go.RowKit
set_option linter.unusedVariables false
set_option linter.unusedSimpArgs false
variable {w w' w0 : World} {L : Lay} {s : PH} {V : List (Nat × List Value)}

def PGor.setReg (g : PGor) (r v : Int) : PGor :=
  if r = 0 then { g with r0 := v } else if r = 1 then { g with r1 := v } else if r = 2 then { g with r2 := v } else if r = 3 then { g with r3 := v } else if r = 4 then { g with r4 := v } else if r = 5 then { g with r5 := v } else g
def wakeH (s : PH) (t v : Int) : PH × Int × Int :=
  match sudogA s.A t with
  | none => (s, 0, 10)
  | some x => match gorA s.A x.gor with
    | none => (s, 0, 10)
    | some g => (shadeH (putGorH (leaveH s g.sudogs) x.gor (PGor.setReg { g with sudogs := -1, status := 0, pc := x.goto } x.reg v)).1 x.gor, x.gor, (putGorH (leaveH s g.sudogs) x.gor (PGor.setReg { g with sudogs := -1, status := 0, pc := x.goto } x.reg v)).2)
theorem gorA_regs (h : s.A.I64) {a : Int} {g : PGor} (e : gorA s.A a = some g) : ∀ x ∈ g.regs, I64 x := by
  unfold gorA at e
  cases e2 : seenA s.A a 4 with
  | none => rw [e2] at e; cases e
  | some ws =>
    rw [e2] at e
    cases e
    have h64 := seenA_i64 h e2
    obtain ⟨x0, x1, x2, x3, x4, x5, x6, x7, x8, x9, rfl⟩ := list10 (seenA_some e2).2
    intro x hx
    simp only [PGor.regs, gorOf, nthI, List.getD, List.mem_cons, List.not_mem_nil, or_false] at hx
    rcases hx with rfl | rfl | rfl | rfl | rfl | rfl <;> exact h64 _ (by simp)
theorem setReg_regs {g : PGor} (h : ∀ x ∈ g.regs, I64 x) (r : Int) {v : Int} (hv : I64 v) : ∀ x ∈ (g.setReg r v).regs, I64 x := by
  intro x hx
  simp only [PGor.regs, List.mem_cons, List.not_mem_nil, or_false] at h
  unfold PGor.setReg at hx
  repeat' split at hx
  all_goals
    simp only [PGor.regs, List.mem_cons, List.not_mem_nil, or_false] at hx
    rcases hx with rfl | rfl | rfl | rfl | rfl | rfl <;> first | exact hv | exact h _ (by simp)

set_option maxRecDepth 100000 in
set_option maxHeartbeats 2000000 in
theorem wake_s (t v : Int) (hv : I64 v) : Wr L s 28 #[hptr L, iv t, iv v] (wakeH s t v).1 (.tuple #[iv (wakeH s t v).2.1, iv (wakeH s t v).2.2]) := by
  intro w0 w V h
  have hs := sudog_s (L := L) (s := s) t
  unfold sudogR at hs
  unfold wakeH
  cases e : sudogA s.A t with
  | none =>
    rw [e] at hs
    have HC := Lib.hid (hs _ _ _ h); clear hs h e
    go_enter Tryz.func28, Tryz.ntmps28
    go_wp2_with fail
    refine HC.out.mono ?_
    rintro e w1 ⟨rfl, h1⟩
    have H1 := Lib.hid (h1.alloc (.cells #[iv 0, iv 0, iv 0, iv 0, iv 0, iv 0, iv 0] 36)); clear h1
    go_wp2
    go_ret2
    exact ⟨rfl, H1.out⟩
  | some x =>
    rw [e] at hs
    simp only at hs ⊢
    have hg := gor_s (L := L) (s := s) x.gor
    unfold gorR at hg
    cases e2 : gorA s.A x.gor with
    | none =>
      rw [e2] at hg
      obtain ⟨x0, x1, x2, x3, x4, x5, x6⟩ := x
      have HC := Lib.hid (hs _ _ _ h); have HG := Lib.hid hg; clear hs h e e2 hg
      go_enter Tryz.func28, Tryz.ntmps28
      go_wp2_with fail
      refine HC.out.mono ?_
      rintro e w1 ⟨rfl, h1⟩
      have h2 := h1.alloc (.cells #[iv x0, iv x1, iv x2, iv x3, iv x4, iv x5, iv x6] 36)
      have S1 := Lib.hid (HG.out _ _ _ h2); clear h1 h2
      go_wp2_with fail
      refine S1.out.mono ?_
      rintro e w2 ⟨rfl, h1⟩
      have H1 := Lib.hid (h1.alloc (.cells #[iv 0, iv 0, iv 0, iv 0, iv 0, iv 0, iv 0, iv 0, iv 0, iv 0] 44)); clear h1
      go_wp2
      go_ret2
      exact ⟨rfl, H1.out⟩
    | some g =>
      rw [e2] at hg
      simp only at hg ⊢
      have hlv := leave_s (L := L) (s := s) g.sudogs
      have hI := setReg_regs (g := { g with sudogs := -1, status := 0, pc := x.goto }) (show ∀ z ∈ g.regs, I64 z from gorA_regs h.i64 e2) x.reg hv
      have hpg := putGor_s (L := L) (s := leaveH s g.sudogs) x.gor (PGor.setReg { g with sudogs := -1, status := 0, pc := x.goto } x.reg v) hI
      generalize leaveH s g.sudogs = s1 at hlv hpg ⊢
      have hsh := shade_s (L := L) (s := (putGorH s1 x.gor (PGor.setReg { g with sudogs := -1, status := 0, pc := x.goto } x.reg v)).1) x.gor
      generalize hGG : PGor.setReg { g with sudogs := -1, status := 0, pc := x.goto } x.reg v = G at hpg hsh hI ⊢
      generalize putGorH s1 x.gor G = R at hpg hsh ⊢
      generalize shadeH R.1 x.gor = s3 at hsh ⊢
      obtain ⟨x0, x1, x2, x3, x4, x5, x6⟩ := x
      obtain ⟨y0, y1, y2, y3, y4, y5, y6, y7, y8, y9⟩ := g
      simp only at hGG hs hg hlv hpg hsh ⊢
      by_cases r0 : x5 = 0
      · subst r0
        have hG2 : G = ⟨y0, 0, x4, v, y4, y5, y6, y7, y8, -1⟩ := hGG.symm
        subst hG2
        clear hGG
        have HC := Lib.hid (hs _ _ _ h); have HG := Lib.hid hg; have HLV := Lib.hid hlv; have HPG := Lib.hid hpg; have HSH := Lib.hid hsh; clear hs h hg hlv hpg hsh e e2 hI
        go_enter Tryz.func28, Tryz.ntmps28
        go_wp2_with fail
        refine HC.out.mono ?_
        rintro e w1 ⟨rfl, h1⟩
        have h2 := h1.new [iv x0, iv x1, iv x2, iv x3, iv x4, iv 0, iv x6] 36
        have S1 := Lib.hid (HG.out _ _ _ h2)
        have hs1 := h1.size
        have hl1 := Lib.hid h1.lt
        clear h1 h2
        go_wp2_with fail
        refine S1.out.mono ?_
        rintro e w2 ⟨rfl, h1⟩
        have h2 := h1.new [iv y0, iv y1, iv y2, iv y3, iv y4, iv y5, iv y6, iv y7, iv y8, iv y9] 44
        have hs2 := h1.size
        have hl2 := Lib.hid h1.lt
        have m1 : w1.heap.size < w2.heap.size := h1.lt _ (.head _)
        have S2 := Lib.hid (HLV.out _ _ _ h2)
        clear h1 h2 S1
        go_wp2_with fail
        refine S2.out.mono ?_
        rintro e w3 ⟨rfl, h1⟩
        obtain ⟨q0, q1, q2, q3, q4, q5, q6⟩ := h1.sudogCells (.tail _ (.head _))
        have kb := h1.blk (b := w2.heap.size) (vs := [iv y0, iv y1, iv y2, iv y3, iv y4, iv y5, iv y6, iv y7, iv y8, iv y9]) (.head _)
        have k0 := kb.at 0 rfl; have k1 := kb.at 1 rfl; have k2 := kb.at 2 rfl; have k3 := kb.at 3 rfl; have k4 := kb.at 4 rfl; have k5 := kb.at 5 rfl; have k6 := kb.at 6 rfl; have k7 := kb.at 7 rfl; have k8 := kb.at 8 rfl; have k9 := kb.at 9 rfl
        have fz := kb.free
        have f1 := fz 1; have f2 := fz 2; have f9 := fz 9
        have m2 : w1.heap.size ≠ w2.heap.size := by omega
        have m3 : w2.heap.size ≠ w1.heap.size := by omega
        have h2 : HS L s1 w0 (((w3.setCell ⟨w2.heap.size, 9, none⟩ (iv (-1))).setCell ⟨w2.heap.size, 1, none⟩ (iv 0)).setCell ⟨w2.heap.size, 2, none⟩ (iv x4)) ((w2.heap.size, [iv y0, iv 0, iv x4, iv y3, iv y4, iv y5, iv y6, iv y7, iv y8, iv (-1)]) :: (w1.heap.size, [iv x0, iv x1, iv x2, iv x3, iv x4, iv 0, iv x6]) :: V) :=
          ((h1.set hs2 (fun p hp => Nat.ne_of_lt (hl2.out p hp)) 9 (iv (-1))).set hs2 (fun p hp => Nat.ne_of_lt (hl2.out p hp)) 1 (iv 0)).set hs2 (fun p hp => Nat.ne_of_lt (hl2.out p hp)) 2 (iv x4)
        have H2 := Lib.hid h2.drew
        clear h1 h2 S2 kb fz
        go_wp2_with fail
        go_region
        clear q0 q1 q2 q3 q4 q5 q6 k0 k1 k2 k3 k4 k5 k6 k7 k8 k9 f1 f2 f9
        have h1 := H2.out
        generalize (((w3.setCell ⟨w2.heap.size, 9, none⟩ (iv (-1))).setCell ⟨w2.heap.size, 1, none⟩ (iv 0)).setCell ⟨w2.heap.size, 2, none⟩ (iv x4)).drew = w4 at h1 ⊢
        obtain ⟨q0, q1, q2, q3, q4, q5, q6⟩ := h1.sudogCells (.tail _ (.head _))
        have kb := h1.blk (b := w2.heap.size) (vs := [iv y0, iv 0, iv x4, iv y3, iv y4, iv y5, iv y6, iv y7, iv y8, iv (-1)]) (.head _)
        have k0 := kb.at 0 rfl; have k1 := kb.at 1 rfl; have k2 := kb.at 2 rfl; have k3 := kb.at 3 rfl; have k4 := kb.at 4 rfl; have k5 := kb.at 5 rfl; have k6 := kb.at 6 rfl; have k7 := kb.at 7 rfl; have k8 := kb.at 8 rfl; have k9 := kb.at 9 rfl
        have fr := kb.free 3
        have h2 : HS L s1 w0 (w4.setCell ⟨w2.heap.size, 3, none⟩ (iv v)) ((w2.heap.size, [iv y0, iv 0, iv x4, iv v, iv y4, iv y5, iv y6, iv y7, iv y8, iv (-1)]) :: (w1.heap.size, [iv x0, iv x1, iv x2, iv x3, iv x4, iv 0, iv x6]) :: V) := h1.set hs2 (fun p hp => Nat.ne_of_lt (hl2.out p hp)) 3 (iv v)
        have S3 := Lib.hid (HPG.out _ _ _ h2)
        clear h1 h2 H2 kb
        go_wp2_with fail
        refine S3.out.mono ?_
        rintro e w5 ⟨rfl, h1⟩
        clear q0 q1 q2 q3 q4 q5 q6 k0 k1 k2 k3 k4 k5 k6 k7 k8 k9 fr
        have q0 := (h1.blk (b := w1.heap.size) (vs := [iv x0, iv x1, iv x2, iv x3, iv x4, iv 0, iv x6]) (.tail _ (.head _))).at 0 rfl
        have S4 := Lib.hid (HSH.out _ _ _ h1)
        clear h1 S3
        go_wp2_with fail
        refine S4.out.mono ?_
        rintro e w6 ⟨rfl, h1⟩
        clear q0
        have q0 := (h1.blk (b := w1.heap.size) (vs := [iv x0, iv x1, iv x2, iv x3, iv x4, iv 0, iv x6]) (.tail _ (.head _))).at 0 rfl
        have HF := Lib.hid (h1.sub (V' := V) (fun p hp => .tail _ (.tail _ hp)))
        clear h1 S4
        go_wp2
        go_ret2
        exact ⟨rfl, HF.out⟩
      by_cases r1 : x5 = 1
      · subst r1
        have hG2 : G = ⟨y0, 0, x4, y3, v, y5, y6, y7, y8, -1⟩ := hGG.symm
        subst hG2
        clear hGG r0
        have HC := Lib.hid (hs _ _ _ h); have HG := Lib.hid hg; have HLV := Lib.hid hlv; have HPG := Lib.hid hpg; have HSH := Lib.hid hsh; clear hs h hg hlv hpg hsh e e2 hI
        go_enter Tryz.func28, Tryz.ntmps28
        go_wp2_with fail
        refine HC.out.mono ?_
        rintro e w1 ⟨rfl, h1⟩
        have h2 := h1.new [iv x0, iv x1, iv x2, iv x3, iv x4, iv 1, iv x6] 36
        have S1 := Lib.hid (HG.out _ _ _ h2)
        have hs1 := h1.size
        have hl1 := Lib.hid h1.lt
        clear h1 h2
        go_wp2_with fail
        refine S1.out.mono ?_
        rintro e w2 ⟨rfl, h1⟩
        have h2 := h1.new [iv y0, iv y1, iv y2, iv y3, iv y4, iv y5, iv y6, iv y7, iv y8, iv y9] 44
        have hs2 := h1.size
        have hl2 := Lib.hid h1.lt
        have m1 : w1.heap.size < w2.heap.size := h1.lt _ (.head _)
        have S2 := Lib.hid (HLV.out _ _ _ h2)
        clear h1 h2 S1
        go_wp2_with fail
        refine S2.out.mono ?_
        rintro e w3 ⟨rfl, h1⟩
        obtain ⟨q0, q1, q2, q3, q4, q5, q6⟩ := h1.sudogCells (.tail _ (.head _))
        have kb := h1.blk (b := w2.heap.size) (vs := [iv y0, iv y1, iv y2, iv y3, iv y4, iv y5, iv y6, iv y7, iv y8, iv y9]) (.head _)
        have k0 := kb.at 0 rfl; have k1 := kb.at 1 rfl; have k2 := kb.at 2 rfl; have k3 := kb.at 3 rfl; have k4 := kb.at 4 rfl; have k5 := kb.at 5 rfl; have k6 := kb.at 6 rfl; have k7 := kb.at 7 rfl; have k8 := kb.at 8 rfl; have k9 := kb.at 9 rfl
        have fz := kb.free
        have f1 := fz 1; have f2 := fz 2; have f9 := fz 9
        have m2 : w1.heap.size ≠ w2.heap.size := by omega
        have m3 : w2.heap.size ≠ w1.heap.size := by omega
        have h2 : HS L s1 w0 (((w3.setCell ⟨w2.heap.size, 9, none⟩ (iv (-1))).setCell ⟨w2.heap.size, 1, none⟩ (iv 0)).setCell ⟨w2.heap.size, 2, none⟩ (iv x4)) ((w2.heap.size, [iv y0, iv 0, iv x4, iv y3, iv y4, iv y5, iv y6, iv y7, iv y8, iv (-1)]) :: (w1.heap.size, [iv x0, iv x1, iv x2, iv x3, iv x4, iv 1, iv x6]) :: V) :=
          ((h1.set hs2 (fun p hp => Nat.ne_of_lt (hl2.out p hp)) 9 (iv (-1))).set hs2 (fun p hp => Nat.ne_of_lt (hl2.out p hp)) 1 (iv 0)).set hs2 (fun p hp => Nat.ne_of_lt (hl2.out p hp)) 2 (iv x4)
        have H2 := Lib.hid h2.drew
        clear h1 h2 S2 kb fz
        go_wp2_with fail
        go_region
        clear q0 q1 q2 q3 q4 q5 q6 k0 k1 k2 k3 k4 k5 k6 k7 k8 k9 f1 f2 f9
        have h1 := H2.out
        generalize (((w3.setCell ⟨w2.heap.size, 9, none⟩ (iv (-1))).setCell ⟨w2.heap.size, 1, none⟩ (iv 0)).setCell ⟨w2.heap.size, 2, none⟩ (iv x4)).drew = w4 at h1 ⊢
        obtain ⟨q0, q1, q2, q3, q4, q5, q6⟩ := h1.sudogCells (.tail _ (.head _))
        have kb := h1.blk (b := w2.heap.size) (vs := [iv y0, iv 0, iv x4, iv y3, iv y4, iv y5, iv y6, iv y7, iv y8, iv (-1)]) (.head _)
        have k0 := kb.at 0 rfl; have k1 := kb.at 1 rfl; have k2 := kb.at 2 rfl; have k3 := kb.at 3 rfl; have k4 := kb.at 4 rfl; have k5 := kb.at 5 rfl; have k6 := kb.at 6 rfl; have k7 := kb.at 7 rfl; have k8 := kb.at 8 rfl; have k9 := kb.at 9 rfl
        have fr := kb.free 4
        have h2 : HS L s1 w0 (w4.setCell ⟨w2.heap.size, 4, none⟩ (iv v)) ((w2.heap.size, [iv y0, iv 0, iv x4, iv y3, iv v, iv y5, iv y6, iv y7, iv y8, iv (-1)]) :: (w1.heap.size, [iv x0, iv x1, iv x2, iv x3, iv x4, iv 1, iv x6]) :: V) := h1.set hs2 (fun p hp => Nat.ne_of_lt (hl2.out p hp)) 4 (iv v)
        have S3 := Lib.hid (HPG.out _ _ _ h2)
        clear h1 h2 H2 kb
        go_wp2_with fail
        refine S3.out.mono ?_
        rintro e w5 ⟨rfl, h1⟩
        clear q0 q1 q2 q3 q4 q5 q6 k0 k1 k2 k3 k4 k5 k6 k7 k8 k9 fr
        have q0 := (h1.blk (b := w1.heap.size) (vs := [iv x0, iv x1, iv x2, iv x3, iv x4, iv 1, iv x6]) (.tail _ (.head _))).at 0 rfl
        have S4 := Lib.hid (HSH.out _ _ _ h1)
        clear h1 S3
        go_wp2_with fail
        refine S4.out.mono ?_
        rintro e w6 ⟨rfl, h1⟩
        clear q0
        have q0 := (h1.blk (b := w1.heap.size) (vs := [iv x0, iv x1, iv x2, iv x3, iv x4, iv 1, iv x6]) (.tail _ (.head _))).at 0 rfl
        have HF := Lib.hid (h1.sub (V' := V) (fun p hp => .tail _ (.tail _ hp)))
        clear h1 S4
        go_wp2
        go_ret2
        exact ⟨rfl, HF.out⟩
      by_cases r2 : x5 = 2
      · subst r2
        have hG2 : G = ⟨y0, 0, x4, y3, y4, v, y6, y7, y8, -1⟩ := hGG.symm
        subst hG2
        clear hGG r0 r1
        have HC := Lib.hid (hs _ _ _ h); have HG := Lib.hid hg; have HLV := Lib.hid hlv; have HPG := Lib.hid hpg; have HSH := Lib.hid hsh; clear hs h hg hlv hpg hsh e e2 hI
        go_enter Tryz.func28, Tryz.ntmps28
        go_wp2_with fail
        refine HC.out.mono ?_
        rintro e w1 ⟨rfl, h1⟩
        have h2 := h1.new [iv x0, iv x1, iv x2, iv x3, iv x4, iv 2, iv x6] 36
        have S1 := Lib.hid (HG.out _ _ _ h2)
        have hs1 := h1.size
        have hl1 := Lib.hid h1.lt
        clear h1 h2
        go_wp2_with fail
        refine S1.out.mono ?_
        rintro e w2 ⟨rfl, h1⟩
        have h2 := h1.new [iv y0, iv y1, iv y2, iv y3, iv y4, iv y5, iv y6, iv y7, iv y8, iv y9] 44
        have hs2 := h1.size
        have hl2 := Lib.hid h1.lt
        have m1 : w1.heap.size < w2.heap.size := h1.lt _ (.head _)
        have S2 := Lib.hid (HLV.out _ _ _ h2)
        clear h1 h2 S1
        go_wp2_with fail
        refine S2.out.mono ?_
        rintro e w3 ⟨rfl, h1⟩
        obtain ⟨q0, q1, q2, q3, q4, q5, q6⟩ := h1.sudogCells (.tail _ (.head _))
        have kb := h1.blk (b := w2.heap.size) (vs := [iv y0, iv y1, iv y2, iv y3, iv y4, iv y5, iv y6, iv y7, iv y8, iv y9]) (.head _)
        have k0 := kb.at 0 rfl; have k1 := kb.at 1 rfl; have k2 := kb.at 2 rfl; have k3 := kb.at 3 rfl; have k4 := kb.at 4 rfl; have k5 := kb.at 5 rfl; have k6 := kb.at 6 rfl; have k7 := kb.at 7 rfl; have k8 := kb.at 8 rfl; have k9 := kb.at 9 rfl
        have fz := kb.free
        have f1 := fz 1; have f2 := fz 2; have f9 := fz 9
        have m2 : w1.heap.size ≠ w2.heap.size := by omega
        have m3 : w2.heap.size ≠ w1.heap.size := by omega
        have h2 : HS L s1 w0 (((w3.setCell ⟨w2.heap.size, 9, none⟩ (iv (-1))).setCell ⟨w2.heap.size, 1, none⟩ (iv 0)).setCell ⟨w2.heap.size, 2, none⟩ (iv x4)) ((w2.heap.size, [iv y0, iv 0, iv x4, iv y3, iv y4, iv y5, iv y6, iv y7, iv y8, iv (-1)]) :: (w1.heap.size, [iv x0, iv x1, iv x2, iv x3, iv x4, iv 2, iv x6]) :: V) :=
          ((h1.set hs2 (fun p hp => Nat.ne_of_lt (hl2.out p hp)) 9 (iv (-1))).set hs2 (fun p hp => Nat.ne_of_lt (hl2.out p hp)) 1 (iv 0)).set hs2 (fun p hp => Nat.ne_of_lt (hl2.out p hp)) 2 (iv x4)
        have H2 := Lib.hid h2.drew
        clear h1 h2 S2 kb fz
        go_wp2_with fail
        go_region
        clear q0 q1 q2 q3 q4 q5 q6 k0 k1 k2 k3 k4 k5 k6 k7 k8 k9 f1 f2 f9
        have h1 := H2.out
        generalize (((w3.setCell ⟨w2.heap.size, 9, none⟩ (iv (-1))).setCell ⟨w2.heap.size, 1, none⟩ (iv 0)).setCell ⟨w2.heap.size, 2, none⟩ (iv x4)).drew = w4 at h1 ⊢
        obtain ⟨q0, q1, q2, q3, q4, q5, q6⟩ := h1.sudogCells (.tail _ (.head _))
        have kb := h1.blk (b := w2.heap.size) (vs := [iv y0, iv 0, iv x4, iv y3, iv y4, iv y5, iv y6, iv y7, iv y8, iv (-1)]) (.head _)
        have k0 := kb.at 0 rfl; have k1 := kb.at 1 rfl; have k2 := kb.at 2 rfl; have k3 := kb.at 3 rfl; have k4 := kb.at 4 rfl; have k5 := kb.at 5 rfl; have k6 := kb.at 6 rfl; have k7 := kb.at 7 rfl; have k8 := kb.at 8 rfl; have k9 := kb.at 9 rfl
        have fr := kb.free 5
        have h2 : HS L s1 w0 (w4.setCell ⟨w2.heap.size, 5, none⟩ (iv v)) ((w2.heap.size, [iv y0, iv 0, iv x4, iv y3, iv y4, iv v, iv y6, iv y7, iv y8, iv (-1)]) :: (w1.heap.size, [iv x0, iv x1, iv x2, iv x3, iv x4, iv 2, iv x6]) :: V) := h1.set hs2 (fun p hp => Nat.ne_of_lt (hl2.out p hp)) 5 (iv v)
        have S3 := Lib.hid (HPG.out _ _ _ h2)
        clear h1 h2 H2 kb
        go_wp2_with fail
        refine S3.out.mono ?_
        rintro e w5 ⟨rfl, h1⟩
        clear q0 q1 q2 q3 q4 q5 q6 k0 k1 k2 k3 k4 k5 k6 k7 k8 k9 fr
        have q0 := (h1.blk (b := w1.heap.size) (vs := [iv x0, iv x1, iv x2, iv x3, iv x4, iv 2, iv x6]) (.tail _ (.head _))).at 0 rfl
        have S4 := Lib.hid (HSH.out _ _ _ h1)
        clear h1 S3
        go_wp2_with fail
        refine S4.out.mono ?_
        rintro e w6 ⟨rfl, h1⟩
        clear q0
        have q0 := (h1.blk (b := w1.heap.size) (vs := [iv x0, iv x1, iv x2, iv x3, iv x4, iv 2, iv x6]) (.tail _ (.head _))).at 0 rfl
        have HF := Lib.hid (h1.sub (V' := V) (fun p hp => .tail _ (.tail _ hp)))
        clear h1 S4
        go_wp2
        go_ret2
        exact ⟨rfl, HF.out⟩
      by_cases r3 : x5 = 3
      · subst r3
        have hG2 : G = ⟨y0, 0, x4, y3, y4, y5, v, y7, y8, -1⟩ := hGG.symm
        subst hG2
        clear hGG r0 r1 r2
        have HC := Lib.hid (hs _ _ _ h); have HG := Lib.hid hg; have HLV := Lib.hid hlv; have HPG := Lib.hid hpg; have HSH := Lib.hid hsh; clear hs h hg hlv hpg hsh e e2 hI
        go_enter Tryz.func28, Tryz.ntmps28
        go_wp2_with fail
        refine HC.out.mono ?_
        rintro e w1 ⟨rfl, h1⟩
        have h2 := h1.new [iv x0, iv x1, iv x2, iv x3, iv x4, iv 3, iv x6] 36
        have S1 := Lib.hid (HG.out _ _ _ h2)
        have hs1 := h1.size
        have hl1 := Lib.hid h1.lt
        clear h1 h2
        go_wp2_with fail
        refine S1.out.mono ?_
        rintro e w2 ⟨rfl, h1⟩
        have h2 := h1.new [iv y0, iv y1, iv y2, iv y3, iv y4, iv y5, iv y6, iv y7, iv y8, iv y9] 44
        have hs2 := h1.size
        have hl2 := Lib.hid h1.lt
        have m1 : w1.heap.size < w2.heap.size := h1.lt _ (.head _)
        have S2 := Lib.hid (HLV.out _ _ _ h2)
        clear h1 h2 S1
        go_wp2_with fail
        refine S2.out.mono ?_
        rintro e w3 ⟨rfl, h1⟩
        obtain ⟨q0, q1, q2, q3, q4, q5, q6⟩ := h1.sudogCells (.tail _ (.head _))
        have kb := h1.blk (b := w2.heap.size) (vs := [iv y0, iv y1, iv y2, iv y3, iv y4, iv y5, iv y6, iv y7, iv y8, iv y9]) (.head _)
        have k0 := kb.at 0 rfl; have k1 := kb.at 1 rfl; have k2 := kb.at 2 rfl; have k3 := kb.at 3 rfl; have k4 := kb.at 4 rfl; have k5 := kb.at 5 rfl; have k6 := kb.at 6 rfl; have k7 := kb.at 7 rfl; have k8 := kb.at 8 rfl; have k9 := kb.at 9 rfl
        have fz := kb.free
        have f1 := fz 1; have f2 := fz 2; have f9 := fz 9
        have m2 : w1.heap.size ≠ w2.heap.size := by omega
        have m3 : w2.heap.size ≠ w1.heap.size := by omega
        have h2 : HS L s1 w0 (((w3.setCell ⟨w2.heap.size, 9, none⟩ (iv (-1))).setCell ⟨w2.heap.size, 1, none⟩ (iv 0)).setCell ⟨w2.heap.size, 2, none⟩ (iv x4)) ((w2.heap.size, [iv y0, iv 0, iv x4, iv y3, iv y4, iv y5, iv y6, iv y7, iv y8, iv (-1)]) :: (w1.heap.size, [iv x0, iv x1, iv x2, iv x3, iv x4, iv 3, iv x6]) :: V) :=
          ((h1.set hs2 (fun p hp => Nat.ne_of_lt (hl2.out p hp)) 9 (iv (-1))).set hs2 (fun p hp => Nat.ne_of_lt (hl2.out p hp)) 1 (iv 0)).set hs2 (fun p hp => Nat.ne_of_lt (hl2.out p hp)) 2 (iv x4)
        have H2 := Lib.hid h2.drew
        clear h1 h2 S2 kb fz
        go_wp2_with fail
        go_region
        clear q0 q1 q2 q3 q4 q5 q6 k0 k1 k2 k3 k4 k5 k6 k7 k8 k9 f1 f2 f9
        have h1 := H2.out
        generalize (((w3.setCell ⟨w2.heap.size, 9, none⟩ (iv (-1))).setCell ⟨w2.heap.size, 1, none⟩ (iv 0)).setCell ⟨w2.heap.size, 2, none⟩ (iv x4)).drew = w4 at h1 ⊢
        obtain ⟨q0, q1, q2, q3, q4, q5, q6⟩ := h1.sudogCells (.tail _ (.head _))
        have kb := h1.blk (b := w2.heap.size) (vs := [iv y0, iv 0, iv x4, iv y3, iv y4, iv y5, iv y6, iv y7, iv y8, iv (-1)]) (.head _)
        have k0 := kb.at 0 rfl; have k1 := kb.at 1 rfl; have k2 := kb.at 2 rfl; have k3 := kb.at 3 rfl; have k4 := kb.at 4 rfl; have k5 := kb.at 5 rfl; have k6 := kb.at 6 rfl; have k7 := kb.at 7 rfl; have k8 := kb.at 8 rfl; have k9 := kb.at 9 rfl
        have fr := kb.free 6
        have h2 : HS L s1 w0 (w4.setCell ⟨w2.heap.size, 6, none⟩ (iv v)) ((w2.heap.size, [iv y0, iv 0, iv x4, iv y3, iv y4, iv y5, iv v, iv y7, iv y8, iv (-1)]) :: (w1.heap.size, [iv x0, iv x1, iv x2, iv x3, iv x4, iv 3, iv x6]) :: V) := h1.set hs2 (fun p hp => Nat.ne_of_lt (hl2.out p hp)) 6 (iv v)
        have S3 := Lib.hid (HPG.out _ _ _ h2)
        clear h1 h2 H2 kb
        go_wp2_with fail
        refine S3.out.mono ?_
        rintro e w5 ⟨rfl, h1⟩
        clear q0 q1 q2 q3 q4 q5 q6 k0 k1 k2 k3 k4 k5 k6 k7 k8 k9 fr
        have q0 := (h1.blk (b := w1.heap.size) (vs := [iv x0, iv x1, iv x2, iv x3, iv x4, iv 3, iv x6]) (.tail _ (.head _))).at 0 rfl
        have S4 := Lib.hid (HSH.out _ _ _ h1)
        clear h1 S3
        go_wp2_with fail
        refine S4.out.mono ?_
        rintro e w6 ⟨rfl, h1⟩
        clear q0
        have q0 := (h1.blk (b := w1.heap.size) (vs := [iv x0, iv x1, iv x2, iv x3, iv x4, iv 3, iv x6]) (.tail _ (.head _))).at 0 rfl
        have HF := Lib.hid (h1.sub (V' := V) (fun p hp => .tail _ (.tail _ hp)))
        clear h1 S4
        go_wp2
        go_ret2
        exact ⟨rfl, HF.out⟩
      by_cases r4 : x5 = 4
      · subst r4
        have hG2 : G = ⟨y0, 0, x4, y3, y4, y5, y6, v, y8, -1⟩ := hGG.symm
        subst hG2
        clear hGG r0 r1 r2 r3
        have HC := Lib.hid (hs _ _ _ h); have HG := Lib.hid hg; have HLV := Lib.hid hlv; have HPG := Lib.hid hpg; have HSH := Lib.hid hsh; clear hs h hg hlv hpg hsh e e2 hI
        go_enter Tryz.func28, Tryz.ntmps28
        go_wp2_with fail
        refine HC.out.mono ?_
        rintro e w1 ⟨rfl, h1⟩
        have h2 := h1.new [iv x0, iv x1, iv x2, iv x3, iv x4, iv 4, iv x6] 36
        have S1 := Lib.hid (HG.out _ _ _ h2)
        have hs1 := h1.size
        have hl1 := Lib.hid h1.lt
        clear h1 h2
        go_wp2_with fail
        refine S1.out.mono ?_
        rintro e w2 ⟨rfl, h1⟩
        have h2 := h1.new [iv y0, iv y1, iv y2, iv y3, iv y4, iv y5, iv y6, iv y7, iv y8, iv y9] 44
        have hs2 := h1.size
        have hl2 := Lib.hid h1.lt
        have m1 : w1.heap.size < w2.heap.size := h1.lt _ (.head _)
        have S2 := Lib.hid (HLV.out _ _ _ h2)
        clear h1 h2 S1
        go_wp2_with fail
        refine S2.out.mono ?_
        rintro e w3 ⟨rfl, h1⟩
        obtain ⟨q0, q1, q2, q3, q4, q5, q6⟩ := h1.sudogCells (.tail _ (.head _))
        have kb := h1.blk (b := w2.heap.size) (vs := [iv y0, iv y1, iv y2, iv y3, iv y4, iv y5, iv y6, iv y7, iv y8, iv y9]) (.head _)
        have k0 := kb.at 0 rfl; have k1 := kb.at 1 rfl; have k2 := kb.at 2 rfl; have k3 := kb.at 3 rfl; have k4 := kb.at 4 rfl; have k5 := kb.at 5 rfl; have k6 := kb.at 6 rfl; have k7 := kb.at 7 rfl; have k8 := kb.at 8 rfl; have k9 := kb.at 9 rfl
        have fz := kb.free
        have f1 := fz 1; have f2 := fz 2; have f9 := fz 9
        have m2 : w1.heap.size ≠ w2.heap.size := by omega
        have m3 : w2.heap.size ≠ w1.heap.size := by omega
        have h2 : HS L s1 w0 (((w3.setCell ⟨w2.heap.size, 9, none⟩ (iv (-1))).setCell ⟨w2.heap.size, 1, none⟩ (iv 0)).setCell ⟨w2.heap.size, 2, none⟩ (iv x4)) ((w2.heap.size, [iv y0, iv 0, iv x4, iv y3, iv y4, iv y5, iv y6, iv y7, iv y8, iv (-1)]) :: (w1.heap.size, [iv x0, iv x1, iv x2, iv x3, iv x4, iv 4, iv x6]) :: V) :=
          ((h1.set hs2 (fun p hp => Nat.ne_of_lt (hl2.out p hp)) 9 (iv (-1))).set hs2 (fun p hp => Nat.ne_of_lt (hl2.out p hp)) 1 (iv 0)).set hs2 (fun p hp => Nat.ne_of_lt (hl2.out p hp)) 2 (iv x4)
        have H2 := Lib.hid h2.drew
        clear h1 h2 S2 kb fz
        go_wp2_with fail
        go_region
        clear q0 q1 q2 q3 q4 q5 q6 k0 k1 k2 k3 k4 k5 k6 k7 k8 k9 f1 f2 f9
        have h1 := H2.out
        generalize (((w3.setCell ⟨w2.heap.size, 9, none⟩ (iv (-1))).setCell ⟨w2.heap.size, 1, none⟩ (iv 0)).setCell ⟨w2.heap.size, 2, none⟩ (iv x4)).drew = w4 at h1 ⊢
        obtain ⟨q0, q1, q2, q3, q4, q5, q6⟩ := h1.sudogCells (.tail _ (.head _))
        have kb := h1.blk (b := w2.heap.size) (vs := [iv y0, iv 0, iv x4, iv y3, iv y4, iv y5, iv y6, iv y7, iv y8, iv (-1)]) (.head _)
        have k0 := kb.at 0 rfl; have k1 := kb.at 1 rfl; have k2 := kb.at 2 rfl; have k3 := kb.at 3 rfl; have k4 := kb.at 4 rfl; have k5 := kb.at 5 rfl; have k6 := kb.at 6 rfl; have k7 := kb.at 7 rfl; have k8 := kb.at 8 rfl; have k9 := kb.at 9 rfl
        have fr := kb.free 7
        have h2 : HS L s1 w0 (w4.setCell ⟨w2.heap.size, 7, none⟩ (iv v)) ((w2.heap.size, [iv y0, iv 0, iv x4, iv y3, iv y4, iv y5, iv y6, iv v, iv y8, iv (-1)]) :: (w1.heap.size, [iv x0, iv x1, iv x2, iv x3, iv x4, iv 4, iv x6]) :: V) := h1.set hs2 (fun p hp => Nat.ne_of_lt (hl2.out p hp)) 7 (iv v)
        have S3 := Lib.hid (HPG.out _ _ _ h2)
        clear h1 h2 H2 kb
        go_wp2_with fail
        refine S3.out.mono ?_
        rintro e w5 ⟨rfl, h1⟩
        clear q0 q1 q2 q3 q4 q5 q6 k0 k1 k2 k3 k4 k5 k6 k7 k8 k9 fr
        have q0 := (h1.blk (b := w1.heap.size) (vs := [iv x0, iv x1, iv x2, iv x3, iv x4, iv 4, iv x6]) (.tail _ (.head _))).at 0 rfl
        have S4 := Lib.hid (HSH.out _ _ _ h1)
        clear h1 S3
        go_wp2_with fail
        refine S4.out.mono ?_
        rintro e w6 ⟨rfl, h1⟩
        clear q0
        have q0 := (h1.blk (b := w1.heap.size) (vs := [iv x0, iv x1, iv x2, iv x3, iv x4, iv 4, iv x6]) (.tail _ (.head _))).at 0 rfl
        have HF := Lib.hid (h1.sub (V' := V) (fun p hp => .tail _ (.tail _ hp)))
        clear h1 S4
        go_wp2
        go_ret2
        exact ⟨rfl, HF.out⟩
      by_cases r5 : x5 = 5
      · subst r5
        have hG2 : G = ⟨y0, 0, x4, y3, y4, y5, y6, y7, v, -1⟩ := hGG.symm
        subst hG2
        clear hGG r0 r1 r2 r3 r4
        have HC := Lib.hid (hs _ _ _ h); have HG := Lib.hid hg; have HLV := Lib.hid hlv; have HPG := Lib.hid hpg; have HSH := Lib.hid hsh; clear hs h hg hlv hpg hsh e e2 hI
        go_enter Tryz.func28, Tryz.ntmps28
        go_wp2_with fail
        refine HC.out.mono ?_
        rintro e w1 ⟨rfl, h1⟩
        have h2 := h1.new [iv x0, iv x1, iv x2, iv x3, iv x4, iv 5, iv x6] 36
        have S1 := Lib.hid (HG.out _ _ _ h2)
        have hs1 := h1.size
        have hl1 := Lib.hid h1.lt
        clear h1 h2
        go_wp2_with fail
        refine S1.out.mono ?_
        rintro e w2 ⟨rfl, h1⟩
        have h2 := h1.new [iv y0, iv y1, iv y2, iv y3, iv y4, iv y5, iv y6, iv y7, iv y8, iv y9] 44
        have hs2 := h1.size
        have hl2 := Lib.hid h1.lt
        have m1 : w1.heap.size < w2.heap.size := h1.lt _ (.head _)
        have S2 := Lib.hid (HLV.out _ _ _ h2)
        clear h1 h2 S1
        go_wp2_with fail
        refine S2.out.mono ?_
        rintro e w3 ⟨rfl, h1⟩
        obtain ⟨q0, q1, q2, q3, q4, q5, q6⟩ := h1.sudogCells (.tail _ (.head _))
        have kb := h1.blk (b := w2.heap.size) (vs := [iv y0, iv y1, iv y2, iv y3, iv y4, iv y5, iv y6, iv y7, iv y8, iv y9]) (.head _)
        have k0 := kb.at 0 rfl; have k1 := kb.at 1 rfl; have k2 := kb.at 2 rfl; have k3 := kb.at 3 rfl; have k4 := kb.at 4 rfl; have k5 := kb.at 5 rfl; have k6 := kb.at 6 rfl; have k7 := kb.at 7 rfl; have k8 := kb.at 8 rfl; have k9 := kb.at 9 rfl
        have fz := kb.free
        have f1 := fz 1; have f2 := fz 2; have f9 := fz 9
        have m2 : w1.heap.size ≠ w2.heap.size := by omega
        have m3 : w2.heap.size ≠ w1.heap.size := by omega
        have h2 : HS L s1 w0 (((w3.setCell ⟨w2.heap.size, 9, none⟩ (iv (-1))).setCell ⟨w2.heap.size, 1, none⟩ (iv 0)).setCell ⟨w2.heap.size, 2, none⟩ (iv x4)) ((w2.heap.size, [iv y0, iv 0, iv x4, iv y3, iv y4, iv y5, iv y6, iv y7, iv y8, iv (-1)]) :: (w1.heap.size, [iv x0, iv x1, iv x2, iv x3, iv x4, iv 5, iv x6]) :: V) :=
          ((h1.set hs2 (fun p hp => Nat.ne_of_lt (hl2.out p hp)) 9 (iv (-1))).set hs2 (fun p hp => Nat.ne_of_lt (hl2.out p hp)) 1 (iv 0)).set hs2 (fun p hp => Nat.ne_of_lt (hl2.out p hp)) 2 (iv x4)
        have H2 := Lib.hid h2.drew
        clear h1 h2 S2 kb fz
        go_wp2_with fail
        go_region
        clear q0 q1 q2 q3 q4 q5 q6 k0 k1 k2 k3 k4 k5 k6 k7 k8 k9 f1 f2 f9
        have h1 := H2.out
        generalize (((w3.setCell ⟨w2.heap.size, 9, none⟩ (iv (-1))).setCell ⟨w2.heap.size, 1, none⟩ (iv 0)).setCell ⟨w2.heap.size, 2, none⟩ (iv x4)).drew = w4 at h1 ⊢
        obtain ⟨q0, q1, q2, q3, q4, q5, q6⟩ := h1.sudogCells (.tail _ (.head _))
        have kb := h1.blk (b := w2.heap.size) (vs := [iv y0, iv 0, iv x4, iv y3, iv y4, iv y5, iv y6, iv y7, iv y8, iv (-1)]) (.head _)
        have k0 := kb.at 0 rfl; have k1 := kb.at 1 rfl; have k2 := kb.at 2 rfl; have k3 := kb.at 3 rfl; have k4 := kb.at 4 rfl; have k5 := kb.at 5 rfl; have k6 := kb.at 6 rfl; have k7 := kb.at 7 rfl; have k8 := kb.at 8 rfl; have k9 := kb.at 9 rfl
        have fr := kb.free 8
        have h2 : HS L s1 w0 (w4.setCell ⟨w2.heap.size, 8, none⟩ (iv v)) ((w2.heap.size, [iv y0, iv 0, iv x4, iv y3, iv y4, iv y5, iv y6, iv y7, iv v, iv (-1)]) :: (w1.heap.size, [iv x0, iv x1, iv x2, iv x3, iv x4, iv 5, iv x6]) :: V) := h1.set hs2 (fun p hp => Nat.ne_of_lt (hl2.out p hp)) 8 (iv v)
        have S3 := Lib.hid (HPG.out _ _ _ h2)
        clear h1 h2 H2 kb
        go_wp2_with fail
        refine S3.out.mono ?_
        rintro e w5 ⟨rfl, h1⟩
        clear q0 q1 q2 q3 q4 q5 q6 k0 k1 k2 k3 k4 k5 k6 k7 k8 k9 fr
        have q0 := (h1.blk (b := w1.heap.size) (vs := [iv x0, iv x1, iv x2, iv x3, iv x4, iv 5, iv x6]) (.tail _ (.head _))).at 0 rfl
        have S4 := Lib.hid (HSH.out _ _ _ h1)
        clear h1 S3
        go_wp2_with fail
        refine S4.out.mono ?_
        rintro e w6 ⟨rfl, h1⟩
        clear q0
        have q0 := (h1.blk (b := w1.heap.size) (vs := [iv x0, iv x1, iv x2, iv x3, iv x4, iv 5, iv x6]) (.tail _ (.head _))).at 0 rfl
        have HF := Lib.hid (h1.sub (V' := V) (fun p hp => .tail _ (.tail _ hp)))
        clear h1 S4
        go_wp2
        go_ret2
        exact ⟨rfl, HF.out⟩
      have hG2 : G = ⟨y0, 0, x4, y3, y4, y5, y6, y7, y8, -1⟩ := by rw [← hGG, PGor.setReg, if_neg r0, if_neg r1, if_neg r2, if_neg r3, if_neg r4, if_neg r5]
      subst hG2
      clear hGG
      have hrng : x5 < 0 ∨ 6 ≤ x5 := by omega
      clear r0 r1 r2 r3 r4 r5
      have HC := Lib.hid (hs _ _ _ h); have HG := Lib.hid hg; have HLV := Lib.hid hlv; have HPG := Lib.hid hpg; have HSH := Lib.hid hsh; clear hs h hg hlv hpg hsh e e2 hI
      rcases hrng with hr | hr
      · have t1 : decide (x5 ≥ 0) = false := by simp; omega
        have t2 : decide (0 ≤ x5) = false := by simp; omega
        go_enter Tryz.func28, Tryz.ntmps28
        go_wp2_with fail
        refine HC.out.mono ?_
        rintro e w1 ⟨rfl, h1⟩
        have h2 := h1.new [iv x0, iv x1, iv x2, iv x3, iv x4, iv x5, iv x6] 36
        have S1 := Lib.hid (HG.out _ _ _ h2)
        have hs1 := h1.size
        have hl1 := Lib.hid h1.lt
        clear h1 h2
        go_wp2_with fail
        refine S1.out.mono ?_
        rintro e w2 ⟨rfl, h1⟩
        have h2 := h1.new [iv y0, iv y1, iv y2, iv y3, iv y4, iv y5, iv y6, iv y7, iv y8, iv y9] 44
        have hs2 := h1.size
        have hl2 := Lib.hid h1.lt
        have m1 : w1.heap.size < w2.heap.size := h1.lt _ (.head _)
        have S2 := Lib.hid (HLV.out _ _ _ h2)
        clear h1 h2 S1
        go_wp2_with fail
        refine S2.out.mono ?_
        rintro e w3 ⟨rfl, h1⟩
        obtain ⟨q0, q1, q2, q3, q4, q5, q6⟩ := h1.sudogCells (.tail _ (.head _))
        have kb := h1.blk (b := w2.heap.size) (vs := [iv y0, iv y1, iv y2, iv y3, iv y4, iv y5, iv y6, iv y7, iv y8, iv y9]) (.head _)
        have k0 := kb.at 0 rfl; have k1 := kb.at 1 rfl; have k2 := kb.at 2 rfl; have k3 := kb.at 3 rfl; have k4 := kb.at 4 rfl; have k5 := kb.at 5 rfl; have k6 := kb.at 6 rfl; have k7 := kb.at 7 rfl; have k8 := kb.at 8 rfl; have k9 := kb.at 9 rfl
        have fz := kb.free
        have f1 := fz 1; have f2 := fz 2; have f9 := fz 9
        have m2 : w1.heap.size ≠ w2.heap.size := by omega
        have m3 : w2.heap.size ≠ w1.heap.size := by omega
        have h2 : HS L s1 w0 (((w3.setCell ⟨w2.heap.size, 9, none⟩ (iv (-1))).setCell ⟨w2.heap.size, 1, none⟩ (iv 0)).setCell ⟨w2.heap.size, 2, none⟩ (iv x4)) ((w2.heap.size, [iv y0, iv 0, iv x4, iv y3, iv y4, iv y5, iv y6, iv y7, iv y8, iv (-1)]) :: (w1.heap.size, [iv x0, iv x1, iv x2, iv x3, iv x4, iv x5, iv x6]) :: V) :=
          ((h1.set hs2 (fun p hp => Nat.ne_of_lt (hl2.out p hp)) 9 (iv (-1))).set hs2 (fun p hp => Nat.ne_of_lt (hl2.out p hp)) 1 (iv 0)).set hs2 (fun p hp => Nat.ne_of_lt (hl2.out p hp)) 2 (iv x4)
        have H2 := Lib.hid h2.drew
        clear h1 h2 S2 kb fz
        go_wp2_with fail
        go_region
        clear q0 q1 q2 q3 q4 q5 q6 k0 k1 k2 k3 k4 k5 k6 k7 k8 k9 f1 f2 f9
        have h1 := H2.out
        generalize (((w3.setCell ⟨w2.heap.size, 9, none⟩ (iv (-1))).setCell ⟨w2.heap.size, 1, none⟩ (iv 0)).setCell ⟨w2.heap.size, 2, none⟩ (iv x4)).drew = w4 at h1 ⊢
        obtain ⟨q0, q1, q2, q3, q4, q5, q6⟩ := h1.sudogCells (.tail _ (.head _))
        have kb := h1.blk (b := w2.heap.size) (vs := [iv y0, iv 0, iv x4, iv y3, iv y4, iv y5, iv y6, iv y7, iv y8, iv (-1)]) (.head _)
        have k0 := kb.at 0 rfl; have k1 := kb.at 1 rfl; have k2 := kb.at 2 rfl; have k3 := kb.at 3 rfl; have k4 := kb.at 4 rfl; have k5 := kb.at 5 rfl; have k6 := kb.at 6 rfl; have k7 := kb.at 7 rfl; have k8 := kb.at 8 rfl; have k9 := kb.at 9 rfl
        have h2 := h1
        have S3 := Lib.hid (HPG.out _ _ _ h2)
        clear h1 h2 H2 kb
        go_wp2_with fail
        refine S3.out.mono ?_
        rintro e w5 ⟨rfl, h1⟩
        clear q0 q1 q2 q3 q4 q5 q6 k0 k1 k2 k3 k4 k5 k6 k7 k8 k9
        have q0 := (h1.blk (b := w1.heap.size) (vs := [iv x0, iv x1, iv x2, iv x3, iv x4, iv x5, iv x6]) (.tail _ (.head _))).at 0 rfl
        have S4 := Lib.hid (HSH.out _ _ _ h1)
        clear h1 S3
        go_wp2_with fail
        refine S4.out.mono ?_
        rintro e w6 ⟨rfl, h1⟩
        clear q0
        have q0 := (h1.blk (b := w1.heap.size) (vs := [iv x0, iv x1, iv x2, iv x3, iv x4, iv x5, iv x6]) (.tail _ (.head _))).at 0 rfl
        have HF := Lib.hid (h1.sub (V' := V) (fun p hp => .tail _ (.tail _ hp)))
        clear h1 S4
        go_wp2
        go_ret2
        exact ⟨rfl, HF.out⟩
      · have t1 : decide (x5 ≥ 0) = true := by simp; omega
        have t2 : decide (0 ≤ x5) = true := by simp; omega
        have t3 : decide (x5 < 6) = false := by simp; omega
        go_enter Tryz.func28, Tryz.ntmps28
        go_wp2_with fail
        refine HC.out.mono ?_
        rintro e w1 ⟨rfl, h1⟩
        have h2 := h1.new [iv x0, iv x1, iv x2, iv x3, iv x4, iv x5, iv x6] 36
        have S1 := Lib.hid (HG.out _ _ _ h2)
        have hs1 := h1.size
        have hl1 := Lib.hid h1.lt
        clear h1 h2
        go_wp2_with fail
        refine S1.out.mono ?_
        rintro e w2 ⟨rfl, h1⟩
        have h2 := h1.new [iv y0, iv y1, iv y2, iv y3, iv y4, iv y5, iv y6, iv y7, iv y8, iv y9] 44
        have hs2 := h1.size
        have hl2 := Lib.hid h1.lt
        have m1 : w1.heap.size < w2.heap.size := h1.lt _ (.head _)
        have S2 := Lib.hid (HLV.out _ _ _ h2)
        clear h1 h2 S1
        go_wp2_with fail
        refine S2.out.mono ?_
        rintro e w3 ⟨rfl, h1⟩
        obtain ⟨q0, q1, q2, q3, q4, q5, q6⟩ := h1.sudogCells (.tail _ (.head _))
        have kb := h1.blk (b := w2.heap.size) (vs := [iv y0, iv y1, iv y2, iv y3, iv y4, iv y5, iv y6, iv y7, iv y8, iv y9]) (.head _)
        have k0 := kb.at 0 rfl; have k1 := kb.at 1 rfl; have k2 := kb.at 2 rfl; have k3 := kb.at 3 rfl; have k4 := kb.at 4 rfl; have k5 := kb.at 5 rfl; have k6 := kb.at 6 rfl; have k7 := kb.at 7 rfl; have k8 := kb.at 8 rfl; have k9 := kb.at 9 rfl
        have fz := kb.free
        have f1 := fz 1; have f2 := fz 2; have f9 := fz 9
        have m2 : w1.heap.size ≠ w2.heap.size := by omega
        have m3 : w2.heap.size ≠ w1.heap.size := by omega
        have h2 : HS L s1 w0 (((w3.setCell ⟨w2.heap.size, 9, none⟩ (iv (-1))).setCell ⟨w2.heap.size, 1, none⟩ (iv 0)).setCell ⟨w2.heap.size, 2, none⟩ (iv x4)) ((w2.heap.size, [iv y0, iv 0, iv x4, iv y3, iv y4, iv y5, iv y6, iv y7, iv y8, iv (-1)]) :: (w1.heap.size, [iv x0, iv x1, iv x2, iv x3, iv x4, iv x5, iv x6]) :: V) :=
          ((h1.set hs2 (fun p hp => Nat.ne_of_lt (hl2.out p hp)) 9 (iv (-1))).set hs2 (fun p hp => Nat.ne_of_lt (hl2.out p hp)) 1 (iv 0)).set hs2 (fun p hp => Nat.ne_of_lt (hl2.out p hp)) 2 (iv x4)
        have H2 := Lib.hid h2.drew
        clear h1 h2 S2 kb fz
        go_wp2_with fail
        go_region
        clear q0 q1 q2 q3 q4 q5 q6 k0 k1 k2 k3 k4 k5 k6 k7 k8 k9 f1 f2 f9
        have h1 := H2.out
        generalize (((w3.setCell ⟨w2.heap.size, 9, none⟩ (iv (-1))).setCell ⟨w2.heap.size, 1, none⟩ (iv 0)).setCell ⟨w2.heap.size, 2, none⟩ (iv x4)).drew = w4 at h1 ⊢
        obtain ⟨q0, q1, q2, q3, q4, q5, q6⟩ := h1.sudogCells (.tail _ (.head _))
        have kb := h1.blk (b := w2.heap.size) (vs := [iv y0, iv 0, iv x4, iv y3, iv y4, iv y5, iv y6, iv y7, iv y8, iv (-1)]) (.head _)
        have k0 := kb.at 0 rfl; have k1 := kb.at 1 rfl; have k2 := kb.at 2 rfl; have k3 := kb.at 3 rfl; have k4 := kb.at 4 rfl; have k5 := kb.at 5 rfl; have k6 := kb.at 6 rfl; have k7 := kb.at 7 rfl; have k8 := kb.at 8 rfl; have k9 := kb.at 9 rfl
        have h2 := h1
        have S3 := Lib.hid (HPG.out _ _ _ h2)
        clear h1 h2 H2 kb
        go_wp2_with fail
        refine S3.out.mono ?_
        rintro e w5 ⟨rfl, h1⟩
        clear q0 q1 q2 q3 q4 q5 q6 k0 k1 k2 k3 k4 k5 k6 k7 k8 k9
        have q0 := (h1.blk (b := w1.heap.size) (vs := [iv x0, iv x1, iv x2, iv x3, iv x4, iv x5, iv x6]) (.tail _ (.head _))).at 0 rfl
        have S4 := Lib.hid (HSH.out _ _ _ h1)
        clear h1 S3
        go_wp2_with fail
        refine S4.out.mono ?_
        rintro e w6 ⟨rfl, h1⟩
        clear q0
        have q0 := (h1.blk (b := w1.heap.size) (vs := [iv x0, iv x1, iv x2, iv x3, iv x4, iv x5, iv x6]) (.tail _ (.head _))).at 0 rfl
        have HF := Lib.hid (h1.sub (V' := V) (fun p hp => .tail _ (.tail _ hp)))
        clear h1 S4
        go_wp2
        go_ret2
        exact ⟨rfl, HF.out⟩
end Go.Proofs.YtcnppdbgieaddaaGreat
