/- The statement ShutNone, and the first line of its fellows: awake. The statement ShutNone: its walk. -/
import Derived.Test.YtcnppdbgieaddaaGreatU1
namespace Go.Proofs.YtcnppdbgieaddaaGreat
open Go.RowKit
set_option linter.unusedVariables false
set_option linter.unusedSimpArgs false
variable {w w' w0 : World} {L : Lay} {R : RLay} {s t : PH} {V : List (Nat × List Value)} {O : List (Value × List Int)}
theorem some_of {o : Option (PH × List Int × Int)} {y : List Int × Int} (h : o.map (fun x => x.2) = some y) : ∃ s1, o = some (s1, y.1, y.2) := by
  cases o with
  | none => cases h
  | some x => simp only [Option.map_some, Option.some.injEq] at h; exact ⟨x.1, by rw [← h]⟩
namespace Law17
variable {bb : Nat} {chans gors : List Int}
theorem gor_j0 {cv gv : Value} (h : JS L s R t w0 w V O) (hb : (bb, [hptr L, rptr R, cv, gv]) ∈ V) (hc : (cv, chans) ∈ O) (hg : (gv, gors) ∈ O) (n : Int) (hn : I64 n) (h1 : 0 < gors.length) (h2 : gors.length < 1000) :
    Calls Tryz.prog 35 #[.pointer (some ⟨bb, 0, none⟩), iv n] w fun e w' => e = .returned (iv (pickI gors n)) ∧ JS L s R t w0 w' V O :=
  (gor_b (ben_of h hb hc hg) n hn h1 h2).mono fun e w' q => ⟨q.1, h.ext q.2⟩
theorem ch_j0 {cv gv : Value} (h : JS L s R t w0 w V O) (hb : (bb, [hptr L, rptr R, cv, gv]) ∈ V) (hc : (cv, chans) ∈ O) (hg : (gv, gors) ∈ O) (n : Int) (hn : I64 n) (h1 : 0 < chans.length) (h2 : chans.length < 1000) :
    Calls Tryz.prog 97 #[.pointer (some ⟨bb, 0, none⟩), iv n] w fun e w' => e = .returned (iv (pickI chans n)) ∧ JS L s R t w0 w' V O :=
  (ch_b (ben_of h hb hc hg) n hn h1 h2).mono fun e w' q => ⟨q.1, h.ext q.2⟩
theorem made11 : (madeB [1] 1).2 = ([0], [16, 64]) := by kernel_rfl
theorem awake1 : (shutH 5 (madeB [1] 1).1 1).map (fun x => x.2) = some ([], 1) := by kernel_rfl
theorem awake2 : ((shutH 5 (madeB [1] 1).1 1).bind fun y => shutH 5 y.1 1).map (fun x => x.2) = some ([], 4) := by kernel_rfl
set_option maxRecDepth 100000 in
set_option maxHeartbeats 4000000 in
theorem awake_j (w : World) : Calls Tryz.prog 33 #[] w fun e w' => e = .returned (.bool true) ∧ Ext w w' := by
  have hm := made_j [1] _ (ints_one w 1 3) (by intro x hx; simp at hx; subst hx; unfold I64; omega) (by simp) 1 (by unfold I64; omega)
  unfold MadePost at hm
  rw [made11] at hm
  obtain ⟨S1, h1⟩ := some_of awake1
  have h2 := awake2
  rw [h1, Option.bind_some] at h2
  obtain ⟨S2, h2⟩ := some_of h2
  simp only at h1 h2
  generalize (madeB [1] 1).1 = S0 at hm h1 h2
  have hs0 : shutH 5 S0 0 = some (S0, [], 5) := rfl
  have HM := Lib.hid hm; have H0 := Lib.hid hs0; have H1 := Lib.hid h1; have H2 := Lib.hid h2
  have hx : Ext w (w.alloc (.cells #[iv 1] 3)) := (Ext.refl _).alloc _
  have HX := Lib.hid hx
  clear hm h1 h2 hx hs0
  go_enter Tryz.func33, Tryz.ntmps33
  go_wp2_with fail
  refine HM.out.mono ?_
  rintro e w1 ⟨L, R, bb, rfl, hB⟩
  obtain ⟨cv, gv, hbb, j⟩ := hB
  have s1 := shut_j 5 (by omega) j 0 (by unfold I64; omega) _ H0.out
  have k0 := (j.blk (.head _)).at 0 rfl
  have S1' := Lib.hid s1
  clear s1 j HM hbb H0
  go_wp2_with fail
  refine S1'.out.mono ?_
  rintro e w2 ⟨v2, rfl, j2⟩
  have k0 := (j2.blk (.head _)).at 0 rfl
  have J2 := Lib.hid (j2.dropO)
  have hch := fun w' (he : Ext w2 w') => ch_j0 (J2.out.ext he) (.head _) (.head _) (.tail _ (.head _)) 0 (by unfold I64; omega) (by simp) (by simp)
  have hch2 : ∀ w', Ext w2 w' → Calls Tryz.prog 97 #[.pointer (some ⟨bb, 0, none⟩), iv 0] w' fun e w' => e = .returned (iv 0) ∧ _ := fun w' he => hch w' he
  have hsh := fun w' (jj : JS L S0 R S0 (w.alloc (.cells #[iv 1] 3)) w' [(bb, [hptr L, rptr R, cv, gv])] [(cv, [0]), (gv, [16, 64])]) => shut_j 5 (by omega) jj 1 (by unfold I64; omega) _ H1.out
  have HCH := Lib.hid hch2; have HSH := Lib.hid hsh
  clear hch hch2 hsh j2 S1' H1
  go_wp2_with fail
  go_region_held3 (fun w' => w'.cell? ⟨bb, 0, none⟩ = some (hptr L)) (first | exact (j6.blk (.head _)).at 0 rfl | exact (j5.blk (.head _)).at 0 rfl | go_keep) (first | (go_at_call 97; refine (HCH.out _ ?_).mono ?_; (repeat (first | exact Ext.refl _ | refine Ext.alloc ?_ _ | refine Ext.drew ?_)); rintro e w5 ⟨rfl, j5⟩) | (go_at_call 34; refine (HSH.out _ (j5.ext ?_)).mono ?_; (repeat (first | exact Ext.refl _ | refine Ext.alloc ?_ _ | refine Ext.drew ?_)); rintro e w6 ⟨v6, rfl, j6⟩))
  have J6 := Lib.hid (j6.dropO)
  have k0 := (j6.blk (.head _)).at 0 rfl
  clear j6 j5 HCH HSH J2
  have hch := fun w' (he : Ext w6 w') => ch_j0 (J6.out.ext he) (.head _) (.head _) (.tail _ (.head _)) 0 (by unfold I64; omega) (by simp) (by simp)
  have hch2 : ∀ w', Ext w6 w' → Calls Tryz.prog 97 #[.pointer (some ⟨bb, 0, none⟩), iv 0] w' fun e w' => e = .returned (iv 0) ∧ _ := fun w' he => hch w' he
  have hsh := fun w' (jj : JS L S1 R S0 (w.alloc (.cells #[iv 1] 3)) w' [(bb, [hptr L, rptr R, cv, gv])] [(cv, [0]), (gv, [16, 64])]) => shut_j 5 (by omega) jj 1 (by unfold I64; omega) _ H2.out
  have HCH := Lib.hid hch2; have HSH := Lib.hid hsh
  clear hch hch2 hsh H2
  go_wp2_with fail
  go_region_held3 (fun w' => w'.cell? ⟨bb, 0, none⟩ = some (hptr L)) (first | exact (j8.blk (.head _)).at 0 rfl | exact (j7.blk (.head _)).at 0 rfl | go_keep) (first | (go_at_call 97; refine (HCH.out _ ?_).mono ?_; (repeat (first | exact Ext.refl _ | refine Ext.alloc ?_ _ | refine Ext.drew ?_)); rintro e w7 ⟨rfl, j7⟩) | (go_at_call 34; refine (HSH.out _ (j7.ext ?_)).mono ?_; (repeat (first | exact Ext.refl _ | refine Ext.alloc ?_ _ | refine Ext.drew ?_)); rintro e w8 ⟨v8, rfl, j8⟩))
  have hp := Lib.hid (HX.out.trans (Ext.of j8.past))
  clear j8 j7 J6 HCH HSH k0
  go_wp2
  go_ret
  exact ⟨rfl, hp.out⟩
end Law17
end Go.Proofs.YtcnppdbgieaddaaGreat

namespace Go.Proofs.YtcnppdbgieaddaaGreat
open Go.RowKit
set_option linter.unusedVariables false
set_option linter.unusedSimpArgs false
variable {w w' w0 : World} {L : Lay} {R : RLay} {s t : PH} {V : List (Nat × List Value)} {O : List (Value × List Int)}
namespace Law17
variable {bb : Nat} {chans gors : List Int}
theorem made01 : (madeB [0] 1).2 = ([0], [16, 32]) := by kernel_rfl
theorem sn1 : (chanA (madeB [0] 1).1.A (atW 33)).isSome = false := by kernel_rfl
theorem sn2 : (chanA (madeB [0] 1).1.A (atW 2)).isSome = false := by kernel_rfl
theorem sn3 : (parkH (madeB [0] 1).1 16 []).2 = 0 := by kernel_rfl
theorem shut_bad {d : Nat} {s : PH} {x : Int} (h0 : x ≠ 0) (h : (chanA s.A (atW x)).isSome = false) : shutH d s x = some (s, [], 6) := by
  unfold shutH
  rw [if_neg h0]
  cases e : chanA s.A (atW x) with
  | none => rfl
  | some c => rw [e] at h; cases h
set_option maxRecDepth 100000 in
set_option maxHeartbeats 4000000 in
theorem shutNone_j (a0 : Int) (i0 : I64 a0) (w : World) : Calls Tryz.prog 4 #[iv a0] w fun e w' => e = .returned (.bool true) ∧ Ext w w' := by
  have hm := made_j [0] _ (ints_one w 0 3) (by intro x hx; simp at hx; subst hx; unfold I64; omega) (by simp) 1 (by unfold I64; omega)
  unfold MadePost at hm
  rw [made01] at hm
  have h1 := shut_bad (d := 5) (by omega) sn1
  have h2 := shut_bad (d := 5) (by omega) sn2
  have h3 := sn3
  generalize (madeB [0] 1).1 = S0 at hm h1 h2 h3
  have HM := Lib.hid hm; have H1 := Lib.hid h1; have H2 := Lib.hid h2; have H3 := Lib.hid h3
  have hx : Ext w (w.alloc (.cells #[iv 0] 3)) := (Ext.refl _).alloc _
  have HX := Lib.hid hx
  have HSN := Lib.hid (shut_nil a0)
  clear hm h1 h2 h3 hx
  go_enter Tryz.func4, Tryz.ntmps4
  go_wp2_with fail
  refine HM.out.mono ?_
  rintro e w1 ⟨L, R, bb, rfl, hB⟩
  obtain ⟨cv, gv, hbb, j⟩ := hB
  have J := Lib.hid j
  clear j HM hbb
  go_wp2_with fail
  refine (awake_j w1).mono ?_
  rintro e w2 ⟨rfl, x2⟩
  have J2 := Lib.hid (J.out.ext x2)
  have k0 := (J2.out.blk (.head _)).at 0 rfl
  have hg := fun w' (he : Ext w2 w') => gor_j0 (J2.out.ext he) (.head _) (.head _) (.tail _ (.head _)) 0 (by unfold I64; omega) (by simp) (by simp)
  have hg2 : ∀ w', Ext w2 w' → Calls Tryz.prog 35 #[.pointer (some ⟨bb, 0, none⟩), iv 0] w' fun e w' => e = .returned (iv 16) ∧ _ := fun w' he => hg w' he
  have hsh := fun w' (jj : JS L S0 R S0 (w.alloc (.cells #[iv 0] 3)) w' [(bb, [hptr L, rptr R, cv, gv])] [(cv, [0]), (gv, [16, 32])]) => shut_j 5 (by omega) jj 33 (by unfold I64; omega) _ H1.out
  have HG := Lib.hid hg2; have HSH := Lib.hid hsh
  clear hg hg2 hsh H1 J x2
  go_wp2_with fail
  go_region_held3 (fun w' => w'.cell? ⟨bb, 0, none⟩ = some (hptr L)) (first | exact (j6.blk (.head _)).at 0 rfl | exact (j5.blk (.head _)).at 0 rfl | go_keep) (first | (go_at_call 35; refine (HG.out _ ?_).mono ?_; (repeat (first | exact Ext.refl _ | refine Ext.alloc ?_ _ | refine Ext.drew ?_)); rintro e w5 ⟨rfl, j5⟩) | (go_at_call 34; refine (HSH.out _ (j5.ext ?_)).mono ?_; (repeat (first | exact Ext.refl _ | refine Ext.alloc ?_ _ | refine Ext.drew ?_)); rintro e w6 ⟨v6, rfl, j6⟩))
  have J6 := Lib.hid j6.dropO
  have k0 := (j6.blk (.head _)).at 0 rfl
  clear j6 j5 HG HSH J2
  have hsh := shut_j 5 (by omega) J6.out 2 (by unfold I64; omega) _ H2.out
  have HSH := Lib.hid hsh
  clear hsh H2 J6
  go_wp2_with fail
  refine HSH.out.mono ?_
  rintro e w7 ⟨v7, rfl, j7⟩
  have J7 := Lib.hid j7.dropO
  clear j7 HSH k0
  go_wp2_with fail
  refine (HSN.out w7).mono ?_
  rintro e w8 ⟨rfl, b8⟩
  have J8 := Lib.hid (J7.out.below b8)
  have k0 := (J8.out.blk (.head _)).at 0 rfl
  have hg := fun w' (he : Ext w8 w') => gor_j0 (J8.out.ext he) (.head _) (.head _) (.tail _ (.head _)) 0 (by unfold I64; omega) (by simp) (by simp)
  have hg2 : ∀ w', Ext w8 w' → Calls Tryz.prog 35 #[.pointer (some ⟨bb, 0, none⟩), iv 0] w' fun e w' => e = .returned (iv 16) ∧ _ := fun w' he => hg w' he
  have hpk := fun w' (jj : JS L S0 R S0 (w.alloc (.cells #[iv 0] 3)) w' [(bb, [hptr L, rptr R, cv, gv])] [(cv, [0]), (gv, [16, 32])]) => park_j0 jj 16
  rw [H3.out] at hpk
  have HG := Lib.hid hg2; have HPK := Lib.hid hpk
  clear hg hg2 hpk H3 J7 b8 HSN
  go_wp2_with fail
  go_region_held3 (fun w' => w'.cell? ⟨bb, 0, none⟩ = some (hptr L)) (first | exact (j10.blk (.head _)).at 0 rfl | exact (j9.blk (.head _)).at 0 rfl | go_keep) (first | (go_at_call 35; refine (HG.out _ ?_).mono ?_; (repeat (first | exact Ext.refl _ | refine Ext.alloc ?_ _ | refine Ext.drew ?_)); rintro e w9 ⟨rfl, j9⟩) | (go_at_call 26; refine (HPK.out _ (j9.ext ?_)).mono ?_; (repeat (first | exact Ext.refl _ | refine Ext.alloc ?_ _ | refine Ext.drew ?_)); rintro e w10 ⟨rfl, j10⟩))
  have hp := Lib.hid (HX.out.trans (Ext.of j10.past))
  clear j10 j9 J8 HG HPK k0
  go_wp2
  go_ret
  exact ⟨rfl, hp.out⟩
end Law17
end Go.Proofs.YtcnppdbgieaddaaGreat
