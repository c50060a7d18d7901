/- The statements' bench: a goroutine waits. -/
import Derived.Test.YtcnppdbgieaddaaGreatT1
namespace Go.Proofs.YtcnppdbgieaddaaGreat
open Go.RowKit
set_option linter.unusedVariables false
set_option linter.unusedSimpArgs false
variable {w w' w0 : World} {L : Lay} {R : RLay} {s t : PH} {V : List (Nat × List Value)} {O : List (Value × List Int)}
theorem push_j (h : JS L s R t w0 w V O) (ch : Int) (send : Bool) (x : Int) : Calls Tryz.prog 25 #[hptr L, iv ch, .bool send, iv x] w fun e w' => e = .returned (iv (pushH s ch send x).2) ∧ JS L (pushH s ch send x).1 R t w0 w' V O :=
  h.l (x := [iv ch, .bool send, iv x]) fun L => push_s ch send x
theorem rpush_j (h : JS L s R t w0 w V O) (ch : Int) (send : Bool) (x : Int) : Calls Tryz.prog 132 #[rptr R, iv ch, .bool send, iv x] w fun e w' => e = .returned (iv (pushH t ch send x).2) ∧ JS L s R (pushH t ch send x).1 w0 w' V O :=
  h.r (x := [iv ch, .bool send, iv x]) fun R => rpush_s ch send x
theorem putSudog_j (h : JS L s R t w0 w V O) (a : Int) (c : PSudog) (hv : I64 c.value) : Calls Tryz.prog 22 #[hptr L, iv a, c.v] w fun e w' => e = .returned (iv (putSudogH s a c).2) ∧ JS L (putSudogH s a c).1 R t w0 w' V O :=
  h.l (x := [iv a, c.v]) fun L => putSudog_s a c hv
theorem rputSudog_j (h : JS L s R t w0 w V O) (a : Int) (c : PSudog) (hv : I64 c.value) : Calls Tryz.prog 131 #[rptr R, iv a, c.v] w fun e w' => e = .returned (iv (putSudogH t a c).2) ∧ JS L s R (putSudogH t a c).1 w0 w' V O :=
  h.r (x := [iv a, c.v]) fun R => rputSudog_s a c hv
theorem rgor_j (h : JS L s R t w0 w V O) (a : Int) : Calls Tryz.prog 130 #[rptr R, iv a] w fun e w' => e = .returned (.tuple #[(gorR t.A a).1.v, iv (gorR t.A a).2]) ∧ JS L s R t w0 w' V O :=
  h.r (x := [iv a]) fun R => rgor_s a
theorem park_j (h : JS L s R t w0 w V O) (g : Int) (l : List Int) (hl : l.length ≤ 4096) {v : Value} (hv : (v, l) ∈ O) : Calls Tryz.prog 26 #[hptr L, iv g, v] w fun e w' => e = .returned (iv (parkH s g l).2) ∧ JS L (parkH s g l).1 R t w0 w' V O := by
  obtain ⟨L', e1, e2, hh, hs, hb⟩ := h.hs
  rw [← e1]
  exact (park_s (L := L') g l hl v w w _ hh (hs _ hv)).mono fun e w' q => ⟨q.1, hb _ _ _ (q.2.sub (V' := V) fun p hp => List.mem_append.2 (.inl hp)) fun p hp => .inl hp⟩
theorem rpark_j (h : JS L s R t w0 w V O) (g : Int) (l : List Int) (hl : l.length ≤ 4096) {v : Value} (hv : (v, l) ∈ O) : Calls Tryz.prog 133 #[rptr R, iv g, v] w fun e w' => e = .returned (iv (rparkH t g l).2) ∧ JS L s R (rparkH t g l).1 w0 w' V O := by
  obtain ⟨R', e1, e2, hh, hs, hb⟩ := h.rs
  rw [← e1]
  exact (rpark_s (R := R') g l hl v w w _ hh (hs _ hv)).mono fun e w' q => ⟨q.1, hb _ _ _ (q.2.sub (V' := V) fun p hp => List.mem_append.2 (.inl hp)) fun p hp => .inl hp⟩

/-- One who waits at the Ith channel. -/
def sudW (g v tgt : Int) (i : Nat) (ch : Int) (send : Bool) : PSudog := ⟨g, ch, wrap64 (v + 2 * i), -1, wrap64 (tgt + i), if send = true then -1 else i, -1⟩
def waitOne (s : PH) (g v tgt : Int) (i : Nat) (ch : Int) (send : Bool) : PH × Int :=
  ((pushH (putSudogH (allocB s 3 7).2 (allocB s 3 7).1 (sudW g v tgt i ch send)).1 ch send (allocB s 3 7).1).1, (allocB s 3 7).1)
def waitN (s : PH) (g v tgt : Int) (chs : List Int) (sends : List Bool) : Nat → PH × List Int
  | 0 => (s, [])
  | p + 1 => ((waitOne (waitN s g v tgt chs sends p).1 g v tgt p (nthI chs p) (sends.getD p false)).1, (waitN s g v tgt chs sends p).2 ++ [(waitOne (waitN s g v tgt chs sends p).1 g v tgt p (nthI chs p) (sends.getD p false)).2])
theorem waitN_len (s : PH) (g v tgt : Int) (chs : List Int) (sends : List Bool) : ∀ p, (waitN s g v tgt chs sends p).2.length = p
  | 0 => rfl
  | p + 1 => by simp only [waitN, List.length_append, List.length_singleton, waitN_len s g v tgt chs sends p]
/-- A goroutine that may go waits. -/
def waitH (s : PH) (g : Int) (chs : List Int) (sends : List Bool) (v tgt : Int) : PH :=
  if (gorR s.A g).1.status ≠ 0 then s else (parkH (waitN s g v tgt chs sends chs.length).1 g (waitN s g v tgt chs sends chs.length).2).1
namespace Law14
variable {bb bc bs : Nat} {cv gv : Value}
set_option maxRecDepth 100000 in
set_option maxHeartbeats 4000000 in
theorem wait_j (hb : (bb, [hptr L, rptr R, cv, gv]) ∈ V) (g : Int) (chs : List Int) (sends : List Bool) (hlen : sends.length = chs.length) (hle : chs.length ≤ 100) (hc : (bc, intsV chs) ∈ V) (hs : (bs, sends.map Value.bool) ∈ V) (v tgt : Int)
    (hpk : (gorR s.A g).1.status = 0 → rparkH (waitN s g v tgt chs sends chs.length).1 g (waitN s g v tgt chs sends chs.length).2 = parkH (waitN s g v tgt chs sends chs.length).1 g (waitN s g v tgt chs sends chs.length).2)
    (h : JS L s R s w0 w V O) :
    Calls Tryz.prog 106 #[.pointer (some ⟨bb, 0, none⟩), iv g, .slice (some ⟨bc, 0, none⟩) chs.length chs.length, .slice (some ⟨bs, 0, none⟩) sends.length sends.length, iv v, iv tgt] w
      fun e w' => e = .returned (.bool true) ∧ JS L (waitH s g chs sends v tgt) R (waitH s g chs sends v tgt) w0 w' V O := by
  have hg := rgor_j h g
  have k0 := (h.blk hb).at 0 rfl; have k1 := (h.blk hb).at 1 rfl
  have CB := Lib.hid (fun (s t : PH) w1 V1 O1 (j : JS L s R t w0 w1 V1 O1) (hs : ∀ p ∈ V, p ∈ V1) => (⟨(j.blk (hs _ hb)).at 0 rfl, (j.blk (hs _ hb)).at 1 rfl⟩ : w1.cell? ⟨bb, 0, none⟩ = some (hptr L) ∧ w1.cell? ⟨bb, 1, none⟩ = some (rptr R)))
  have CC := Lib.hid (fun (s t : PH) w1 V1 O1 (j : JS L s R t w0 w1 V1 O1) (hs : ∀ p ∈ V, p ∈ V1) (i : Nat) (x : Int) (hi : chs[i]? = some x) => ((j.blk (hs _ hc)).at i (by simp [intsV, hi]) : w1.cell? ⟨bc, i, none⟩ = some (iv x)))
  have CS := Lib.hid (fun (s t : PH) w1 V1 O1 (j : JS L s R t w0 w1 V1 O1) (hs' : ∀ p ∈ V, p ∈ V1) (i : Nat) (x : Bool) (hi : sends[i]? = some x) => ((j.blk (hs' _ hs)).at i (by simp [hi]) : w1.cell? ⟨bs, i, none⟩ = some (.bool x)))
  have HBM := Lib.hid hb
  have HSM := Lib.hid hs
  unfold waitH
  generalize gorR s.A g = G at hg hpk
  obtain ⟨⟨y0, y1, y2, y3, y4, y5, y6, y7, y8, y9⟩, ye⟩ := G
  simp only at hg hpk ⊢
  have HG := Lib.hid hg
  clear hg h hc hs hb
  by_cases hy : y1 = 0
  · subst hy
    have HPK := Lib.hid (hpk rfl)
    clear hpk
    simp only [ne_eq, not_true_eq_false, if_false]
    generalize hF : (parkH (waitN s g v tgt chs sends chs.length).1 g (waitN s g v tgt chs sends chs.length).2) = F
    have HF := Lib.hid hF; clear hF
    go_enter Tryz.func106, Tryz.ntmps106
    go_wp2_with fail
    refine HG.out.mono ?_
    rintro e w1 ⟨rfl, j1⟩
    have j2 := (j1.alloc (.cells #[iv y0, iv 0, iv y2, iv y3, iv y4, iv y5, iv y6, iv y7, iv y8, iv y9] 44)).nilO
    have J2 := Lib.hid j2
    clear j1 j2 HG k0 k1
    go_wp2_with fail
    go_loopw [15, 16] (fun v15 v16 wr => ∃ p : Nat, p ≤ chs.length ∧ v16 = iv p ∧ Hid (JS L (waitN s g v tgt chs sends p).1 R (waitN s g v tgt chs sends p).1 w0 wr V ((v15, (waitN s g v tgt chs sends p).2) :: O))) (fun _ v16 _ => chs.length - (intOf v16).toNat)
    case atStart => exact ⟨0, Nat.zero_le _, rfl, J2⟩
    case round =>
      obtain ⟨p, hp, rfl, hj⟩ := hrel
      clear J2
      obtain ⟨o3, c3, hv3⟩ := own_form (hj.out.own (.head _))
      simp only at hv3
      subst hv3
      by_cases hlt : p < chs.length
      · have hst : waitN s g v tgt chs sends (p + 1) = ((waitOne (waitN s g v tgt chs sends p).1 g v tgt p (nthI chs p) (sends.getD p false)).1, (waitN s g v tgt chs sends p).2 ++ [(waitOne (waitN s g v tgt chs sends p).1 g v tgt p (nthI chs p) (sends.getD p false)).2]) := rfl
        have hln := waitN_len s g v tgt chs sends p
        have hc1 : chs[p]? = some (nthI chs p) := by unfold nthI; rw [List.getD_eq_getElem?_getD, List.getElem?_eq_getElem hlt]; rfl
        have hs1 : sends[p]? = some (sends.getD p false) := by rw [List.getD_eq_getElem?_getD, List.getElem?_eq_getElem (by omega)]; rfl
        generalize waitN s g v tgt chs sends p = X at hj hst hln
        obtain ⟨s1, l⟩ := X
        simp only at hj hst hln
        subst hln
        generalize nthI chs l.length = ch at hst hc1
        generalize sends.getD l.length false = send at hst hs1
        have hw1 : waitOne s1 g v tgt l.length ch send = ((pushH (putSudogH (allocB s1 3 7).2 (allocB s1 3 7).1 (sudW g v tgt l.length ch send)).1 ch send (allocB s1 3 7).1).1, (allocB s1 3 7).1) := rfl
        rw [hw1] at hst
        clear hw1
        have hlt' : (l.length : Int) < chs.length := by omega
        have hlts : (l.length : Int) < sends.length := by omega
        have hltn : l.length < sends.length := by omega
        have kc := CC.out _ _ _ _ _ hj.out (fun p hp => hp) _ _ hc1
        have ks := CS.out _ _ _ _ _ hj.out (fun p hp => hp) _ _ hs1
        have HC1 := Lib.hid hc1; have HS1 := Lib.hid hs1
        clear hc1 hs1 hp
        have j2 := fun (r : Int) => hj.out.new [iv g, iv ch, iv (wrap64 (v + 2 * (l.length : Int))), iv (-1), iv (wrap64 (tgt + (l.length : Int))), iv r, iv (-1)] 36
        have hal := fun (r : Int) => alloc_j (.tail _ HBM.out) 3 7 (j2 r)
        have HAL := Lib.hid hal
        have HJ := Lib.hid hj.out
        have lb : bs < wr.heap.size := hj.out.vlt _ HSM.out
        have nb := Nat.ne_of_lt lb
        have hsz := Lib.hid hj.out.vlt
        have hsz0 := hj.out.size
        clear j2 hal hj
        generalize allocB s1 3 7 = A1 at HAL hst
        obtain ⟨at', s2⟩ := A1
        simp only at HAL hst
        cases send with
        | true =>
          have hsd : sudW g v tgt l.length ch true = ⟨g, ch, wrap64 (v + 2 * (l.length : Int)), -1, wrap64 (tgt + (l.length : Int)), -1, -1⟩ := rfl
          rw [hsd] at hst
          clear hsd
          go_wp2_with fail
          refine (HAL.out (-1)).mono ?_
          rintro e w3 ⟨rfl, j3⟩
          have hp1 := fun w' (he : Ext w3 w') => putSudog_j (j3.ext he) at' (⟨g, ch, wrap64 (v + 2 * (l.length : Int)), -1, wrap64 (tgt + (l.length : Int)), (-1), -1⟩ : PSudog) (i64_wrap _)
          have hp2 := fun s' w' (jj : JS L s' R s2 w0 w' ((wr.heap.size, [iv g, iv ch, iv (wrap64 (v + 2 * (l.length : Int))), iv (-1), iv (wrap64 (tgt + (l.length : Int))), iv (-1), iv (-1)]) :: V) ((.slice o3 l.length c3, l) :: O)) => rputSudog_j jj at' (⟨g, ch, wrap64 (v + 2 * (l.length : Int)), -1, wrap64 (tgt + (l.length : Int)), (-1), -1⟩ : PSudog) (i64_wrap _)
          obtain ⟨b0, b1⟩ := CB.out _ _ _ _ _ j3 (fun p hp => .tail _ hp)
          have kc := CC.out _ _ _ _ _ j3 (fun p hp => .tail _ hp) _ _ HC1.out
          have ks := CS.out _ _ _ _ _ j3 (fun p hp => .tail _ hp) _ _ HS1.out
          obtain ⟨c0, c1, c2, c3', c4, c5, c6⟩ := j3.seven (.head _)
          generalize putSudogH s2 at' (⟨g, ch, wrap64 (v + 2 * (l.length : Int)), -1, wrap64 (tgt + (l.length : Int)), (-1), -1⟩ : PSudog) = X3 at hp1 hp2 hst
          obtain ⟨s3, er⟩ := X3
          simp only at hp1 hp2 hst
          have hp3 := fun t' w' (jj : JS L s3 R t' w0 w' ((wr.heap.size, [iv g, iv ch, iv (wrap64 (v + 2 * (l.length : Int))), iv (-1), iv (wrap64 (tgt + (l.length : Int))), iv (-1), iv (-1)]) :: V) ((.slice o3 l.length c3, l) :: O)) => push_j jj ch true at'
          have hp4 := fun s' w' (jj : JS L s' R s3 w0 w' ((wr.heap.size, [iv g, iv ch, iv (wrap64 (v + 2 * (l.length : Int))), iv (-1), iv (wrap64 (tgt + (l.length : Int))), iv (-1), iv (-1)]) :: V) ((.slice o3 l.length c3, l) :: O)) => rpush_j jj ch true at'
          generalize pushH s3 ch true at' = X4 at hp3 hp4 hst
          obtain ⟨s4, er4⟩ := X4
          simp only at hp3 hp4 hst
          have HP1 := Lib.hid hp1; have HP2 := Lib.hid hp2; have HP3 := Lib.hid hp3; have HP4 := Lib.hid hp4; have HST := Lib.hid hst
          clear hp1 hp2 hp3 hp4 hst j3 HAL HJ
          go_wp2_with fail
          go_region_held3 (fun w' => w'.cell? ⟨bb, 0, none⟩ = some (hptr L) ∧ w'.cell? ⟨bb, 1, none⟩ = some (rptr R) ∧ w'.cell? ⟨bc, l.length, none⟩ = some (iv ch) ∧ w'.cell? ⟨bs, l.length, none⟩ = some (.bool true) ∧ w'.cell? ⟨wr.heap.size, 0, none⟩ = some (iv g) ∧ w'.cell? ⟨wr.heap.size, 1, none⟩ = some (iv ch) ∧ w'.cell? ⟨wr.heap.size, 2, none⟩ = some (iv (wrap64 (v + 2 * (l.length : Int)))) ∧ w'.cell? ⟨wr.heap.size, 3, none⟩ = some (iv (-1)) ∧ w'.cell? ⟨wr.heap.size, 4, none⟩ = some (iv (wrap64 (tgt + (l.length : Int)))) ∧ w'.cell? ⟨wr.heap.size, 5, none⟩ = some (iv (-1)) ∧ w'.cell? ⟨wr.heap.size, 6, none⟩ = some (iv (-1))) (first | exact ⟨(CB.out _ _ _ _ _ j7 (fun p hp => .tail _ hp)).1, (CB.out _ _ _ _ _ j7 (fun p hp => .tail _ hp)).2, CC.out _ _ _ _ _ j7 (fun p hp => .tail _ hp) _ _ HC1.out, CS.out _ _ _ _ _ j7 (fun p hp => .tail _ hp) _ _ HS1.out, j7.seven (.head _)⟩ | exact ⟨(CB.out _ _ _ _ _ j6 (fun p hp => .tail _ hp)).1, (CB.out _ _ _ _ _ j6 (fun p hp => .tail _ hp)).2, CC.out _ _ _ _ _ j6 (fun p hp => .tail _ hp) _ _ HC1.out, CS.out _ _ _ _ _ j6 (fun p hp => .tail _ hp) _ _ HS1.out, j6.seven (.head _)⟩ | exact ⟨(CB.out _ _ _ _ _ j5 (fun p hp => .tail _ hp)).1, (CB.out _ _ _ _ _ j5 (fun p hp => .tail _ hp)).2, CC.out _ _ _ _ _ j5 (fun p hp => .tail _ hp) _ _ HC1.out, CS.out _ _ _ _ _ j5 (fun p hp => .tail _ hp) _ _ HS1.out, j5.seven (.head _)⟩ | exact ⟨(CB.out _ _ _ _ _ j4 (fun p hp => .tail _ hp)).1, (CB.out _ _ _ _ _ j4 (fun p hp => .tail _ hp)).2, CC.out _ _ _ _ _ j4 (fun p hp => .tail _ hp) _ _ HC1.out, CS.out _ _ _ _ _ j4 (fun p hp => .tail _ hp) _ _ HS1.out, j4.seven (.head _)⟩ | go_keep) (first | (go_at_call 22; refine (HP1.out _ ?_).mono ?_; (repeat (first | exact Ext.refl _ | refine Ext.alloc ?_ _ | refine Ext.drew ?_)); rintro e w4 ⟨rfl, j4⟩) | (go_at_call 131; refine (HP2.out _ _ (j4.ext ?_)).mono ?_; (repeat (first | exact Ext.refl _ | refine Ext.alloc ?_ _ | refine Ext.drew ?_)); rintro e w5 ⟨rfl, j5⟩) | (go_at_call 25; refine (HP3.out _ _ (j5.ext ?_)).mono ?_; (repeat (first | exact Ext.refl _ | refine Ext.alloc ?_ _ | refine Ext.drew ?_)); rintro e w6 ⟨rfl, j6⟩) | (go_at_call 132; refine (HP4.out _ _ (j6.ext ?_)).mono ?_; (repeat (first | exact Ext.refl _ | refine Ext.alloc ?_ _ | refine Ext.drew ?_)); rintro e w7 ⟨rfl, j7⟩))
          have J7 := Lib.hid j7
          have hs7 := j7.size
          clear j7 j6 j5 j4 HP1 HP2 HP3 HP4
          go_wp2_with (at_builtin; refine wpList_appendI rfl (.tmp 104) (.tmp 106) rfl w0.heap.size rfl ((J7.out.own (.head _)).alloc _) rfl (ints_one w7 at' _) (by simp; omega) (by rw [World.size_alloc]; omega) ?_)
          intro v' w8 hown8 hg8 halt8
          have hown8' : w8.ownsRow w0.heap.size 3 1 v' (l ++ [at']).length (intsV (l ++ [at'])) := by simpa [intsV] using hown8
          have j8 := (J7.out.grow hg8 hown8' (by rw [World.size_alloc]; exact halt8)).sub (V' := V) (fun p hp => .tail _ hp)
          have HB := Lib.hid j8
          clear j8 hown8 hown8' hg8 halt8 J7
          go_wp2
          go_roundw
          case rel => exact ⟨l.length + 1, by omega, by go_num, by rw [HST.out]; exact HB⟩
          case measure => simp [intOf]; omega
        | false =>
          have hsd : sudW g v tgt l.length ch false = ⟨g, ch, wrap64 (v + 2 * (l.length : Int)), -1, wrap64 (tgt + (l.length : Int)), (l.length : Int), -1⟩ := rfl
          rw [hsd] at hst
          clear hsd
          go_wp2_with fail
          refine (HAL.out (l.length : Int)).mono ?_
          rintro e w3 ⟨rfl, j3⟩
          have hp1 := fun w' (he : Ext w3 w') => putSudog_j (j3.ext he) at' (⟨g, ch, wrap64 (v + 2 * (l.length : Int)), -1, wrap64 (tgt + (l.length : Int)), (l.length : Int), -1⟩ : PSudog) (i64_wrap _)
          have hp2 := fun s' w' (jj : JS L s' R s2 w0 w' ((wr.heap.size, [iv g, iv ch, iv (wrap64 (v + 2 * (l.length : Int))), iv (-1), iv (wrap64 (tgt + (l.length : Int))), iv (l.length : Int), iv (-1)]) :: V) ((.slice o3 l.length c3, l) :: O)) => rputSudog_j jj at' (⟨g, ch, wrap64 (v + 2 * (l.length : Int)), -1, wrap64 (tgt + (l.length : Int)), (l.length : Int), -1⟩ : PSudog) (i64_wrap _)
          obtain ⟨b0, b1⟩ := CB.out _ _ _ _ _ j3 (fun p hp => .tail _ hp)
          have kc := CC.out _ _ _ _ _ j3 (fun p hp => .tail _ hp) _ _ HC1.out
          have ks := CS.out _ _ _ _ _ j3 (fun p hp => .tail _ hp) _ _ HS1.out
          obtain ⟨c0, c1, c2, c3', c4, c5, c6⟩ := j3.seven (.head _)
          generalize putSudogH s2 at' (⟨g, ch, wrap64 (v + 2 * (l.length : Int)), -1, wrap64 (tgt + (l.length : Int)), (l.length : Int), -1⟩ : PSudog) = X3 at hp1 hp2 hst
          obtain ⟨s3, er⟩ := X3
          simp only at hp1 hp2 hst
          have hp3 := fun t' w' (jj : JS L s3 R t' w0 w' ((wr.heap.size, [iv g, iv ch, iv (wrap64 (v + 2 * (l.length : Int))), iv (-1), iv (wrap64 (tgt + (l.length : Int))), iv (l.length : Int), iv (-1)]) :: V) ((.slice o3 l.length c3, l) :: O)) => push_j jj ch false at'
          have hp4 := fun s' w' (jj : JS L s' R s3 w0 w' ((wr.heap.size, [iv g, iv ch, iv (wrap64 (v + 2 * (l.length : Int))), iv (-1), iv (wrap64 (tgt + (l.length : Int))), iv (l.length : Int), iv (-1)]) :: V) ((.slice o3 l.length c3, l) :: O)) => rpush_j jj ch false at'
          generalize pushH s3 ch false at' = X4 at hp3 hp4 hst
          obtain ⟨s4, er4⟩ := X4
          simp only at hp3 hp4 hst
          have HP1 := Lib.hid hp1; have HP2 := Lib.hid hp2; have HP3 := Lib.hid hp3; have HP4 := Lib.hid hp4; have HST := Lib.hid hst
          clear hp1 hp2 hp3 hp4 hst j3 HAL HJ
          go_wp2_with fail
          go_region_held3 (fun w' => w'.cell? ⟨bb, 0, none⟩ = some (hptr L) ∧ w'.cell? ⟨bb, 1, none⟩ = some (rptr R) ∧ w'.cell? ⟨bc, l.length, none⟩ = some (iv ch) ∧ w'.cell? ⟨bs, l.length, none⟩ = some (.bool false) ∧ w'.cell? ⟨wr.heap.size, 0, none⟩ = some (iv g) ∧ w'.cell? ⟨wr.heap.size, 1, none⟩ = some (iv ch) ∧ w'.cell? ⟨wr.heap.size, 2, none⟩ = some (iv (wrap64 (v + 2 * (l.length : Int)))) ∧ w'.cell? ⟨wr.heap.size, 3, none⟩ = some (iv (-1)) ∧ w'.cell? ⟨wr.heap.size, 4, none⟩ = some (iv (wrap64 (tgt + (l.length : Int)))) ∧ w'.cell? ⟨wr.heap.size, 5, none⟩ = some (iv (l.length : Int)) ∧ w'.cell? ⟨wr.heap.size, 6, none⟩ = some (iv (-1))) (first | exact ⟨(CB.out _ _ _ _ _ j7 (fun p hp => .tail _ hp)).1, (CB.out _ _ _ _ _ j7 (fun p hp => .tail _ hp)).2, CC.out _ _ _ _ _ j7 (fun p hp => .tail _ hp) _ _ HC1.out, CS.out _ _ _ _ _ j7 (fun p hp => .tail _ hp) _ _ HS1.out, j7.seven (.head _)⟩ | exact ⟨(CB.out _ _ _ _ _ j6 (fun p hp => .tail _ hp)).1, (CB.out _ _ _ _ _ j6 (fun p hp => .tail _ hp)).2, CC.out _ _ _ _ _ j6 (fun p hp => .tail _ hp) _ _ HC1.out, CS.out _ _ _ _ _ j6 (fun p hp => .tail _ hp) _ _ HS1.out, j6.seven (.head _)⟩ | exact ⟨(CB.out _ _ _ _ _ j5 (fun p hp => .tail _ hp)).1, (CB.out _ _ _ _ _ j5 (fun p hp => .tail _ hp)).2, CC.out _ _ _ _ _ j5 (fun p hp => .tail _ hp) _ _ HC1.out, CS.out _ _ _ _ _ j5 (fun p hp => .tail _ hp) _ _ HS1.out, j5.seven (.head _)⟩ | exact ⟨(CB.out _ _ _ _ _ j4 (fun p hp => .tail _ hp)).1, (CB.out _ _ _ _ _ j4 (fun p hp => .tail _ hp)).2, CC.out _ _ _ _ _ j4 (fun p hp => .tail _ hp) _ _ HC1.out, CS.out _ _ _ _ _ j4 (fun p hp => .tail _ hp) _ _ HS1.out, j4.seven (.head _)⟩ | go_keep) (first | (go_at_call 22; refine (HP1.out _ ?_).mono ?_; (repeat (first | exact Ext.refl _ | refine Ext.alloc ?_ _ | refine Ext.drew ?_)); rintro e w4 ⟨rfl, j4⟩) | (go_at_call 131; refine (HP2.out _ _ (j4.ext ?_)).mono ?_; (repeat (first | exact Ext.refl _ | refine Ext.alloc ?_ _ | refine Ext.drew ?_)); rintro e w5 ⟨rfl, j5⟩) | (go_at_call 25; refine (HP3.out _ _ (j5.ext ?_)).mono ?_; (repeat (first | exact Ext.refl _ | refine Ext.alloc ?_ _ | refine Ext.drew ?_)); rintro e w6 ⟨rfl, j6⟩) | (go_at_call 132; refine (HP4.out _ _ (j6.ext ?_)).mono ?_; (repeat (first | exact Ext.refl _ | refine Ext.alloc ?_ _ | refine Ext.drew ?_)); rintro e w7 ⟨rfl, j7⟩))
          have J7 := Lib.hid j7
          have hs7 := j7.size
          clear j7 j6 j5 j4 HP1 HP2 HP3 HP4
          go_wp2_with (at_builtin; refine wpList_appendI rfl (.tmp 104) (.tmp 106) rfl w0.heap.size rfl ((J7.out.own (.head _)).alloc _) rfl (ints_one w7 at' _) (by simp; omega) (by rw [World.size_alloc]; omega) ?_)
          intro v' w8 hown8 hg8 halt8
          have hown8' : w8.ownsRow w0.heap.size 3 1 v' (l ++ [at']).length (intsV (l ++ [at'])) := by simpa [intsV] using hown8
          have j8 := (J7.out.grow hg8 hown8' (by rw [World.size_alloc]; exact halt8)).sub (V' := V) (fun p hp => .tail _ hp)
          have HB := Lib.hid j8
          clear j8 hown8 hown8' hg8 halt8 J7
          go_wp2
          go_roundw
          case rel => exact ⟨l.length + 1, by omega, by go_num, by rw [HST.out]; exact HB⟩
          case measure => simp [intOf]; omega
      · obtain rfl : p = chs.length := by omega
        have hfin := HPK.out
        rw [HF.out] at hfin
        have hln := waitN_len s g v tgt chs sends chs.length
        have hff := HF.out
        generalize waitN s g v tgt chs sends chs.length = X at hj hfin hln hff
        obtain ⟨s1, l⟩ := X
        simp only at hj hfin hln hff
        have hl4 : l.length ≤ 4096 := by omega
        have hp1 := fun w' (he : Ext wr w') => park_j (hj.out.ext he) g l hl4 (.head _)
        have hp2 := fun s' w' (jj : JS L s' R s1 w0 w' V ((.slice o3 l.length c3, l) :: O)) => rpark_j jj g l hl4 (.head _)
        rw [hff] at hp1
        rw [hfin] at hp2
        obtain ⟨b0, b1⟩ := CB.out _ _ _ _ _ hj.out (fun p hp => hp)
        have HP1 := Lib.hid hp1; have HP2 := Lib.hid hp2
        have tz : decide (chs.length < chs.length) = false := by simp
        clear hp1 hp2 hfin hff hp hlt hln
        go_wp2_with fail
        go_region_held3 (fun w' => w'.cell? ⟨bb, 0, none⟩ = some (hptr L) ∧ w'.cell? ⟨bb, 1, none⟩ = some (rptr R)) (first | exact CB.out _ _ _ _ _ j7 (fun p hp => hp) | exact CB.out _ _ _ _ _ j6 (fun p hp => hp) | go_keep) (first | (go_at_call 26; refine (HP1.out _ ?_).mono ?_; (repeat (first | exact Ext.refl _ | refine Ext.alloc ?_ _ | refine Ext.drew ?_)); rintro e w6 ⟨rfl, j6⟩) | (go_at_call 133; refine (HP2.out _ _ (j6.ext ?_)).mono ?_; (repeat (first | exact Ext.refl _ | refine Ext.alloc ?_ _ | refine Ext.drew ?_)); rintro e w7 ⟨rfl, j7⟩))
        have J7 := Lib.hid j7.dropO
        clear j7 j6 HP1 HP2
        go_wp2
        go_ret
        exact ⟨rfl, J7.out⟩
  · have t1 : (y1 != 0) = true := by simpa using hy
    rw [if_pos hy]
    clear hy hpk
    go_enter Tryz.func106, Tryz.ntmps106
    go_wp2_with fail
    refine HG.out.mono ?_
    rintro e w1 ⟨rfl, j1⟩
    have J1 := Lib.hid (j1.alloc (.cells #[iv y0, iv y1, iv y2, iv y3, iv y4, iv y5, iv y6, iv y7, iv y8, iv y9] 44))
    clear j1 HG
    go_wp2
    go_ret
    exact ⟨rfl, J1.out⟩
end Law14
end Go.Proofs.YtcnppdbgieaddaaGreat
