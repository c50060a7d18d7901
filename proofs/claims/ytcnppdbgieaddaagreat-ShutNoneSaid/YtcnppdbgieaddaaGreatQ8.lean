/- The document's side: from a step on; is a number among some; ends of a list. The document's side: who waits, in order. The document's side: somebody waits behind all others. -/
import Derived.Test.YtcnppdbgieaddaaGreatQ7
import Derived.Test.YtcnppdbgieaddaaGreatK9
import Derived.Test.YtcnppdbgieaddaaGreatK10
namespace Go.Proofs.YtcnppdbgieaddaaGreat
open Go.RowKit
set_option linter.unusedVariables false
set_option linter.unusedSimpArgs false
variable {w w' w0 : World} {R : RLay} {s : PH} {V : List (Nat × List Value)}

theorem rchan_s (a : Int) : RRd R s 47 #[rptr R, iv a] (.tuple #[(chanR s.A a).1.v, iv (chanR s.A a).2]) := fun w0 w V h =>
  h.read fun R' h1 h2 h3 => by rw [← rptr_eq h2]; exact rchan_c w h1 a
theorem rsudog_s (a : Int) : RRd R s 209 #[rptr R, iv a] (.tuple #[(sudogR s.A a).1.v, iv (sudogR s.A a).2]) := fun w0 w V h =>
  h.read fun R' h1 h2 h3 => by rw [← rptr_eq h2]; exact rsudog_c w h1 a
theorem rgor_s (a : Int) : RRd R s 130 #[rptr R, iv a] (.tuple #[(gorR s.A a).1.v, iv (gorR s.A a).2]) := fun w0 w V h =>
  h.read fun R' h1 h2 h3 => by rw [← rptr_eq h2]; exact rgor_c w h1 a
theorem rputChan_s (a : Int) (c : PChan) : RWr R s 103 #[rptr R, iv a, c.v] (putChanH s a c).1 (iv (putChanH s a c).2) := fun w0 w V h =>
  h.write fun R' h1 h2 h3 => by rw [← rptr_eq h2]; exact rputChan_c w h1 a c
theorem rputSudog_s (a : Int) (c : PSudog) (hv : I64 c.value) : RWr R s 131 #[rptr R, iv a, c.v] (putSudogH s a c).1 (iv (putSudogH s a c).2) := fun w0 w V h =>
  h.write fun R' h1 h2 h3 => by rw [← rptr_eq h2]; exact rputSudog_c w h1 a c hv
theorem rputGor_s (a : Int) (c : PGor) (hv : ∀ x ∈ c.regs, I64 x) : RWr R s 105 #[rptr R, iv a, c.v] (putGorH s a c).1 (iv (putGorH s a c).2) := fun w0 w V h =>
  h.write fun R' h1 h2 h3 => by rw [← rptr_eq h2]; exact rputGor_c w h1 a c hv
theorem rshade_s (a : Int) : RWr R s 146 #[rptr R, iv a] (shadeH s a) (.tuple #[]) := fun w0 w V h =>
  h.write fun R' h1 h2 h3 => by rw [← rptr_eq h2]; exact rshade_c w h1 a
theorem rhalloc_s (k n : Int) : RWr R s 109 #[rptr R, iv k, iv n] (allocH s k n).2 (.tuple #[iv (allocH s k n).1.1, iv (allocH s k n).1.2]) := fun w0 w V h =>
  h.write fun R' h1 h2 h3 => by rw [← rptr_eq h2]; exact rhalloc_c w h1 k n
theorem rhstore_s (a i v : Int) (hv : I64 v) : RWr R s 73 #[rptr R, iv a, iv i, iv v] (storeH s a i v).1 (iv (storeH s a i v).2) := fun w0 w V h =>
  h.write fun R' h1 h2 h3 => by rw [← rptr_eq h2]; exact rhstore_c w h1 a i v hv

theorem in_c (w : World) {v : Value} {l : List Int} (h : IntsAt w v l) (hl : l.length ≤ 1000000) (x : Int) : Calls Tryz.prog 90 #[v, iv x] w fun e w' => e = .returned (.bool (decide (x ∈ l))) ∧ w = w' := by
  have hcell := fun (p : Nat) (hp : p < l.length) => h.cell hp
  obtain ⟨o, c, hf⟩ := h.form
  have HC := Lib.hid hcell
  subst hf
  clear h hcell
  go_enter Tryz.func90, Tryz.ntmps90
  go_wp2
  go_loop [5] (fun v5 => ∃ p : Nat, p ≤ l.length ∧ v5 = iv p ∧ x ∉ l.take p) (fun v5 => l.length - (intOf v5).toNat)
  case atStart => exact ⟨0, Nat.zero_le _, rfl, by simp⟩
  case round =>
    obtain ⟨p, hp, rfl, hn⟩ := hrel
    by_cases hlt : p < l.length
    · obtain ⟨b, off, cap, hv, _, hc⟩ := HC.out p hlt
      cases hv
      have htk : l.take (p + 1) = l.take p ++ [l[p]] := List.take_succ_eq_append_getElem hlt
      have hmem := List.getElem_mem hlt
      have hlt' : (p : Int) < l.length := by omega
      generalize l[p] = y at hc htk hmem
      by_cases e : y = x
      · have t1 : (y == x) = true := by simpa using e
        have hr : Hid (decide (x ∈ l) = true) := by unfold Hid; rw [← e]; exact decide_eq_true hmem
        clear htk hmem hn e
        go_wp2
        go_ret
        exact ⟨ret_eq (by rw [hr.out]; rfl), rfl⟩
      · have t1 : (y == x) = false := by simpa using e
        have hn2 : Hid (x ∉ l.take (p + 1)) := by
          unfold Hid; rw [htk]; intro q
          rcases List.mem_append.1 q with q | q
          · exact hn q
          · simp at q; exact e q.symm
        clear htk hmem hn e
        go_wp2
        go_round
        case rel => exact ⟨p + 1, by omega, by go_num, hn2⟩
        case measure => simp [intOf]; omega
    · obtain rfl : p = l.length := by omega
      rw [List.take_length] at hn
      have hr : Hid (decide (x ∈ l) = false) := decide_eq_false hn
      clear hn
      go_wp2
      go_ret
      exact ⟨ret_eq (by rw [hr.out]; rfl), rfl⟩

theorem rends_c (c : PChan) (send : Bool) (w : World) : Calls Tryz.prog 210 #[c.v, .bool send] w fun e w' => e = .returned (.tuple #[iv (endsC c send).1, iv (endsC c send).2]) ∧ Below w.heap.size w w' := by
  obtain ⟨x0, x1, x2, x3, x4, x5, x6, x7, x8⟩ := c
  cases send with
  | true =>
    go_enter Tryz.func210, Tryz.ntmps210
    go_wp2
    go_quiet (fail)
    go_wp2
    go_ret2
    exact ⟨rfl, below_drewN ((Below.refl _ _).alloc (Nat.le_refl _) _) _⟩
  | false =>
    go_enter Tryz.func210, Tryz.ntmps210
    go_wp2
    go_quiet (fail)
    go_wp2
    go_ret2
    exact ⟨rfl, below_drewN ((Below.refl _ _).alloc (Nat.le_refl _) _) _⟩
set_option maxRecDepth 100000 in
theorem rturned_c (c : PChan) (send : Bool) (hd tl : Int) (w : World) : Calls Tryz.prog 212 #[c.v, .bool send, iv hd, iv tl] w fun e w' => e = .returned (intoC c send (hd, tl)).v ∧ Below w.heap.size w w' := by
  obtain ⟨x0, x1, x2, x3, x4, x5, x6, x7, x8⟩ := c
  cases send with
  | true =>
    go_enter Tryz.func212, Tryz.ntmps212
    go_wp2
    exact bodyPost_ret (v := (PChan.mk x0 x1 x2 x3 x4 x5 x6 hd tl).v) (by simp [results, Tryz.results212, go_sem]) rfl ⟨rfl, by
      exact ((Below.refl _ _).alloc (Nat.le_refl _) _).alloc (by rw [World.size_alloc]; omega) _⟩
  | false =>
    go_enter Tryz.func212, Tryz.ntmps212
    go_wp2
    exact bodyPost_ret (v := (PChan.mk x0 x1 x2 x3 x4 hd tl x7 x8).v) (by simp [results, Tryz.results212, go_sem]) rfl ⟨rfl, by
      exact ((Below.refl _ _).alloc (Nat.le_refl _) _).alloc (by rw [World.size_alloc]; omega) _⟩
theorem rends_s (c : PChan) (send : Bool) : RRd R s 210 #[c.v, .bool send] (.tuple #[iv (endsC c send).1, iv (endsC c send).2]) := fun w0 w V h => h.read fun R' h1 h2 h3 => rends_c c send w
theorem rturned_s (c : PChan) (send : Bool) (hd tl : Int) : RRd R s 212 #[c.v, .bool send, iv hd, iv tl] (intoC c send (hd, tl)).v := fun w0 w V h => h.read fun R' h1 h2 h3 => rturned_c c send hd tl w

theorem rfollow_s (a n : Int) : RWr R s 211 #[rptr R, iv a, iv n] (followH s a n) (.tuple #[]) := by
  intro w0 w V h
  have hs := rsudog_s (R := R) (s := s) a _ _ _ h
  unfold sudogR at hs
  unfold followH
  cases e : sudogA s.A a with
  | none =>
    rw [e] at hs
    have HS := Lib.hid hs; clear hs h e
    go_enter Tryz.func211, Tryz.ntmps211
    go_wp2_with fail
    refine HS.out.mono ?_
    rintro e w1 ⟨rfl, h1⟩
    have H1 := Lib.hid (h1.alloc (.cells #[iv 0, iv 0, iv 0, iv 0, iv 0, iv 0, iv 0] 36)); clear h1
    go_wp2
    go_end0
    exact ⟨rfl, H1.out⟩
  | some x =>
    rw [e] at hs
    simp only at hs ⊢
    have hp := rputSudog_s (R := R) (s := s) a { x with next := n } (show I64 x.value from sudogA_value h.i64 e)
    obtain ⟨x0, x1, x2, x3, x4, x5, x6⟩ := x
    have HS := Lib.hid hs; have HP := Lib.hid hp; clear hs h e hp
    go_enter Tryz.func211, Tryz.ntmps211
    go_wp2_with fail
    refine HS.out.mono ?_
    rintro e w1 ⟨rfl, h1⟩
    have H1 := Lib.hid (HP.out _ _ _ (h1.alloc (.cells #[iv x0, iv x1, iv x2, iv n, iv x4, iv x5, iv x6] 36))); clear h1
    go_wp2_with fail
    refine H1.out.mono ?_
    rintro e w2 ⟨rfl, h2⟩
    have H2 := Lib.hid h2; clear h2
    go_wp2
    go_end0
    exact ⟨rfl, H2.out⟩
end Go.Proofs.YtcnppdbgieaddaaGreat

namespace Go.Proofs.YtcnppdbgieaddaaGreat
open Go.RowKit
set_option linter.unusedVariables false
set_option linter.unusedSimpArgs false
variable {w w' w0 : World} {R : RLay} {s : PH} {V : List (Nat × List Value)}

set_option maxRecDepth 100000 in
theorem rall_c (w : World) (h : RefAt w R s) (ch : Int) (send : Bool) : Calls Tryz.prog 191 #[rptr R, iv ch, .bool send] w (AllPost (allA s.A ch send) w) := by
  have hc := rchan_c w h ch
  unfold chanR at hc
  unfold allA
  cases e : chanA s.A ch with
  | none =>
    rw [e] at hc
    have HC := Lib.hid hc; clear hc h e
    go_enter Tryz.func191, Tryz.ntmps191
    go_wp2_with fail
    refine HC.out.mono ?_
    rintro e w1 ⟨rfl, b1⟩
    go_wp2
    go_ret
    exact ⟨b1.alloc b1.size _, _, rfl, World.ownsRow_nil _ _ _ _⟩
  | some c =>
    rw [e] at hc
    simp only at hc ⊢
    have hof := fun w1 => rends_c c send w1
    have hlk := fun w1 (hb : Below w.heap.size w w1) a => rsudog_c w1 (h.below hb) a
    have hwf := h.wf
    have hn := h.few
    generalize endsC c send = x at hof ⊢
    obtain ⟨hd, tl⟩ := x
    obtain ⟨x0, x1, x2, x3, x4, x5, x6, x7, x8⟩ := c
    have HC := Lib.hid hc; have HOF := Lib.hid hof; have HLK := Lib.hid hlk; have HWF := Lib.hid hwf; clear hc h e hof hlk hwf
    go_enter Tryz.func191, Tryz.ntmps191
    go_wp2_with fail
    refine HC.out.mono ?_
    rintro e w1 ⟨rfl, b1⟩
    go_wp2_with fail
    refine (HOF.out _).mono ?_
    rintro e w2 ⟨rfl, b2⟩
    have g1 : Below w.heap.size w w2 := (b1.alloc b1.size _).trans (b2.mono (by rw [World.size_alloc]; have := b1.size; omega))
    have G1 := Lib.hid g1
    clear b1 b2 g1
    go_wp2_with fail
    go_loopw [9, 10] (fun v9 v10 wr => ∃ (a : Int) (l : List Int) (d : Nat), v10 = iv a ∧ allN s.A d a l = allN s.A (fuelA s.A) hd [] ∧ l.length + d = fuelA s.A ∧ l.Nodup ∧ (∀ x ∈ l, 0 ≤ x ∧ x < ((32 * s.A.n : Nat) : Int)) ∧ Below w.heap.size w wr ∧ wr.ownsRow w.heap.size 3 1 v9 l.length (intsV l)) (fun v9 _ _ => 4097 - sliceLen v9)
    case atStart => exact ⟨hd, [], fuelA s.A, rfl, rfl, by simp, List.nodup_nil, by simp, G1.out, World.ownsRow_nil _ _ _ _⟩
    case round =>
      obtain ⟨a, l, d, rfl, hal, hld, hnd, hra, hb, hown⟩ := hrel
      clear G1
      have hle := nodup_le _ l hnd hra
      have hd : ∃ d', d = d' + 1 := ⟨d - 1, by unfold fuelA at hld; omega⟩
      obtain ⟨d, rfl⟩ := hd
      simp only [allN] at hal
      have hlk := HLK.out wr hb a
      unfold sudogR at hlk
      have hsz := hb.size
      obtain ⟨o3, c3, hv3⟩ := own_form hown
      subst hv3
      cases e : sudogA s.A a with
      | none =>
        rw [e] at hlk hal
        have hal2 : l = allN s.A (fuelA s.A) hd [] := by rw [← hal]; split <;> rfl
        have HLK1 := Lib.hid hlk; have HB := Lib.hid hb; have HO := Lib.hid hown; have HA := Lib.hid hal2
        clear hb hown hal hal2 hnd hra hlk e
        go_wp2_with fail
        refine HLK1.out.mono ?_
        rintro e w4 ⟨rfl, b4⟩
        have g1 : Below w.heap.size w w4 := HB.out.trans (b4.mono hsz)
        have g2 := ownsRow_keep HO.out (w' := w4) (fun b hb => b4.block b ((HO.out.lt b hb).2))
        have hs4 := g1.size
        have G1 := Lib.hid g1; have G2 := Lib.hid g2
        clear b4 g1 g2
        go_wp2
        go_ret
        exact ⟨G1.out.alloc hs4 _, _, rfl, by rw [← HA.out]; exact G2.out.alloc _⟩
      | some x =>
        rw [e] at hlk hal
        simp only at hlk
        have hin := fun w4 (b4 : Below wr.heap.size wr w4) (o : Obj) => in_c (w4.alloc o) ((IntsAt.ofOwn hown).below (b4.alloc b4.size o)) (by omega) a
        by_cases hm : a ∈ l
        · rw [if_pos hm] at hal
          simp only [decide_eq_true hm] at hin
          obtain ⟨y0, y1, y2, y3, y4, y5, y6⟩ := x
          have HLK1 := Lib.hid hlk; have HB := Lib.hid hb; have HO := Lib.hid hown; have HA := Lib.hid hal; have HIN := Lib.hid hin
          clear hb hown hal hnd hra hlk e hin hm
          go_wp2_with fail
          refine HLK1.out.mono ?_
          rintro e w4 ⟨rfl, b4⟩
          have g1 : Below w.heap.size w w4 := HB.out.trans (b4.mono hsz)
          have g2 := ownsRow_keep HO.out (w' := w4) (fun b hb => b4.block b ((HO.out.lt b hb).2))
          have hs4 := g1.size
          have HI := Lib.hid (HIN.out w4 b4 (.cells #[iv y0, iv y1, iv y2, iv y3, iv y4, iv y5, iv y6] 36))
          have G1 := Lib.hid g1; have G2 := Lib.hid g2
          clear b4 g1 g2 HIN
          go_wp2_with fail
          refine HI.out.mono ?_
          rintro e w5 ⟨rfl, rfl⟩
          go_wp2
          go_ret
          exact ⟨G1.out.alloc hs4 _, _, rfl, by rw [← HA.out]; exact G2.out.alloc _⟩
        · rw [if_neg hm] at hal
          simp only [decide_eq_false hm] at hin
          simp only at hal
          obtain ⟨q1, q2⟩ := sudogA_lt HWF.out e
          have hnd2 : (l ++ [a]).Nodup := by
            rw [List.nodup_append]
            exact ⟨hnd, by simp, fun x hx y hy => by simp at hy; subst hy; intro e; subst e; exact hm hx⟩
          have hra2 : ∀ x ∈ l ++ [a], 0 ≤ x ∧ x < ((32 * s.A.n : Nat) : Int) := by
            intro x hx
            rcases List.mem_append.1 hx with h | h
            · exact hra x h
            · simp at h; subst h; omega
          have hle2 := nodup_le _ _ hnd2 hra2
          rw [List.length_append] at hle2
          simp only [List.length_cons, List.length_nil] at hle2
          obtain ⟨y0, y1, y2, y3, y4, y5, y6⟩ := x
          have HLK1 := Lib.hid hlk; have HB := Lib.hid hb; have HO := Lib.hid hown; have HA := Lib.hid hal; have HN2 := Lib.hid hnd2; have HR2 := Lib.hid hra2; have HIN := Lib.hid hin
          clear hb hown hal hnd hra hm hlk e hnd2 hra2 hin
          go_wp2_with fail
          refine HLK1.out.mono ?_
          rintro e w4 ⟨rfl, b4⟩
          have g1 : Below w.heap.size w w4 := HB.out.trans (b4.mono hsz)
          have g2 := ownsRow_keep HO.out (w' := w4) (fun b hb => b4.block b ((HO.out.lt b hb).2))
          have hs4 := g1.size
          have HI := Lib.hid (HIN.out w4 b4 (.cells #[iv y0, iv y1, iv y2, iv y3, iv y4, iv y5, iv y6] 36))
          have G1 := Lib.hid g1; have G2 := Lib.hid (g2.alloc (.cells #[iv y0, iv y1, iv y2, iv y3, iv y4, iv y5, iv y6] 36))
          have hX : Blk (w4.alloc (.cells #[iv y0, iv y1, iv y2, iv y3, iv y4, iv y5, iv y6] 36)) w4.heap.size [iv y0, iv y1, iv y2, iv y3, iv y4, iv y5, iv y6] := Blk.new w4 _ _
          have hg1' := g1.alloc hs4 (.cells #[iv y0, iv y1, iv y2, iv y3, iv y4, iv y5, iv y6] 36)
          have G1' := Lib.hid hg1'
          have hob : Hid (∀ b, (Value.slice o3 l.length c3).ownBlock = some b → b < w4.heap.size) := fun b hb => (g2.lt b hb).2
          clear b4 g1 g2 HIN hg1'
          go_wp2_with fail
          refine HI.out.mono ?_
          rintro e w5 ⟨rfl, rfl⟩
          have hszz : (w4.alloc (.cells #[iv y0, iv y1, iv y2, iv y3, iv y4, iv y5, iv y6] 36)).heap.size = w4.heap.size + 1 := World.size_alloc _ _
          clear HI
          generalize (w4.alloc (.cells #[iv y0, iv y1, iv y2, iv y3, iv y4, iv y5, iv y6] 36)) = W at G2 hX G1' hszz ⊢
          have k3 := hX.at 3 rfl
          have HX := Lib.hid hX
          have HSZ := Lib.hid hszz
          have hx3 : w4.heap.size ≠ W.heap.size := by omega
          clear hX hszz
          go_wp2_with fail
          go_region_held3 (fun w' => w'.cell? ⟨w4.heap.size, 3, none⟩ = some (iv y3)) (first | go_keep | (rw [HX2.out]))
            ((refine step_appendI rfl (.tmp 42) (.tmp 44) rfl w.heap.size rfl (G2.out.alloc _) rfl (ints_one _ a _) (by simp; omega) (by simp; have := G1'.out.size; omega) ?_; intro v' w5 hown5 hg halt; have HX2 := Lib.hid (show w5.cell? ⟨w4.heap.size, 3, none⟩ = some (iv y3) from ((HX.out.alloc _).keep (hg.block _ (by simp; have := HX.out.lt; omega) (fun e => by have := hob.out _ e.symm; omega))).at 3 rfl)))
          have hg2 : ((W.alloc (.cells #[iv a] 3)).drew).grownBy w5 (Value.slice o3 l.length c3).ownBlock := hg
          have hWs := G1'.out.size
          have g3 : Below w.heap.size w w5 := ((G1'.out.alloc hWs (.cells #[iv a] 3)).drew).grown hg2 (by rw [size_drew, World.size_alloc]; omega) (fun k hk => (G2.out.lt k hk).1)
          obtain ⟨o5, c5, hv5⟩ := own_form hown5
          subst hv5
          have G3 := Lib.hid g3; have G4 := Lib.hid hown5
          have hll : (l ++ [a]).length = l.length + 1 := by simp
          clear g3 hown5 hg hg2 halt HX2 k3 HX G2 G1'
          go_wp2
          go_roundw
          case rel => exact ⟨y3, l ++ [a], d, rfl, HA.out, by rw [hll]; omega, HN2.out, HR2.out, G3.out, G4.out⟩
          case measure => simp only [sliceLen, hll]; omega
end Go.Proofs.YtcnppdbgieaddaaGreat

namespace Go.Proofs.YtcnppdbgieaddaaGreat
open Go.RowKit
set_option linter.unusedVariables false
set_option linter.unusedSimpArgs false
variable {w w' w0 : World} {R : RLay} {s : PH} {V : List (Nat × List Value)}

theorem RS.chanCells {b : Nat} {x0 x1 x2 x3 x4 x5 x6 x7 x8 : Int} (h : RS R s w0 w V) (hm : (b, [iv x0, iv x1, iv x2, iv x3, iv x4, iv x5, iv x6, iv x7, iv x8]) ∈ V) :
    w.cell? ⟨b, 0, none⟩ = some (iv x0) ∧ w.cell? ⟨b, 1, none⟩ = some (iv x1) ∧ w.cell? ⟨b, 2, none⟩ = some (iv x2) ∧ w.cell? ⟨b, 3, none⟩ = some (iv x3) ∧ w.cell? ⟨b, 4, none⟩ = some (iv x4) ∧ w.cell? ⟨b, 5, none⟩ = some (iv x5) ∧ w.cell? ⟨b, 6, none⟩ = some (iv x6) ∧ w.cell? ⟨b, 7, none⟩ = some (iv x7) ∧ w.cell? ⟨b, 8, none⟩ = some (iv x8) := by
  have k := h.blk hm
  exact ⟨k.at 0 rfl, k.at 1 rfl, k.at 2 rfl, k.at 3 rfl, k.at 4 rfl, k.at 5 rfl, k.at 6 rfl, k.at 7 rfl, k.at 8 rfl⟩
theorem RS.sudogCells {b : Nat} {x0 x1 x2 x3 x4 x5 x6 : Int} (h : RS R s w0 w V) (hm : (b, [iv x0, iv x1, iv x2, iv x3, iv x4, iv x5, iv x6]) ∈ V) :
    w.cell? ⟨b, 0, none⟩ = some (iv x0) ∧ w.cell? ⟨b, 1, none⟩ = some (iv x1) ∧ w.cell? ⟨b, 2, none⟩ = some (iv x2) ∧ w.cell? ⟨b, 3, none⟩ = some (iv x3) ∧ w.cell? ⟨b, 4, none⟩ = some (iv x4) ∧ w.cell? ⟨b, 5, none⟩ = some (iv x5) ∧ w.cell? ⟨b, 6, none⟩ = some (iv x6) := by
  have k := h.blk hm
  exact ⟨k.at 0 rfl, k.at 1 rfl, k.at 2 rfl, k.at 3 rfl, k.at 4 rfl, k.at 5 rfl, k.at 6 rfl⟩
/-- All who wait: a slice in a block of its own. -/
theorem rall_v (ch : Int) (send : Bool) (w0 w : World) (V : List (Nat × List Value)) (h : RS R s w0 w V) : Calls Tryz.prog 191 #[rptr R, iv ch, .bool send] w fun e w' => RS R s w0 w' V ∧ ∃ v, e = .returned v ∧ IntsAt w' v (allA s.A ch send) ∧
    (allA s.A ch send ≠ [] → ∃ b bc cap, v = .slice (some ⟨b, 0, none⟩) (allA s.A ch send).length cap ∧ RS R s w0 w' ((b, bc) :: V) ∧ ∀ (i : Nat) (x : Int), (allA s.A ch send)[i]? = some x → bc[i]? = some (iv x)) := by
  have hh := h
  obtain ⟨R', h1, h2, h3, h4⟩ := h
  rw [← rptr_eq h2]
  refine (rall_c w h1 ch send).mono ?_
  rintro e w' ⟨hb, v, rfl, ho⟩
  refine ⟨hh.below hb, v, rfl, IntsAt.ofOwn ho, fun hne => ?_⟩
  rcases ho with ⟨q1, ⟨q2, q3⟩ | ⟨g, cap, cur, hv, hbg, hg, hc, hm, hs, ht⟩⟩
  · exact absurd (List.eq_nil_of_length_eq_zero q3) hne
  · refine ⟨g, cur.toList, cap, hv, hh.with g cur.toList hb hbg ⟨_, hg⟩, fun i x hx => ?_⟩
    have hi := (List.getElem?_eq_some_iff.1 hx).1
    have : (intsV (allA s.A ch send))[i]? = some (iv x) := by simp [intsV, hx]
    rw [← ht, List.getElem?_take, if_pos (by omega)] at this
    exact this

set_option maxRecDepth 100000 in
set_option maxHeartbeats 1000000 in
theorem rpush_s (ch : Int) (send : Bool) (t : Int) : RWr R s 132 #[rptr R, iv ch, .bool send, iv t] (pushH s ch send t).1 (iv (pushH s ch send t).2) := by
  intro w0 w V h
  have hc := rchan_s (R := R) (s := s) ch
  unfold chanR at hc
  unfold pushH
  cases e : chanA s.A ch with
  | none =>
    rw [e] at hc
    have HC := Lib.hid (hc _ _ _ h); clear hc h e
    go_enter Tryz.func132, Tryz.ntmps132
    go_wp2_with fail
    refine HC.out.mono ?_
    rintro e w1 ⟨rfl, h1⟩
    have H1 := Lib.hid (h1.alloc (.cells #[iv 0, iv 0, iv 0, iv 0, iv 0, iv 0, iv 0, iv 0, iv 0] 63)); clear h1
    go_wp2
    go_ret
    exact ⟨rfl, H1.out⟩
  | some c =>
    rw [e] at hc
    simp only at hc ⊢
    have hs := rsudog_s (R := R) (s := s) t
    unfold sudogR at hs
    have HC := Lib.hid (hc _ _ _ h)
    cases e2 : sudogA s.A t with
    | none =>
      simp only [e2] at hs
      obtain ⟨x0, x1, x2, x3, x4, x5, x6, x7, x8⟩ := c
      have HS1 := Lib.hid hs; clear hc h e hs e2
      go_enter Tryz.func132, Tryz.ntmps132
      go_wp2_with fail
      refine HC.out.mono ?_
      rintro e w1 ⟨rfl, h1⟩
      have h2 := h1.alloc (.cells #[iv x0, iv x1, iv x2, iv x3, iv x4, iv x5, iv x6, iv x7, iv x8] 63)
      have S1 := Lib.hid (HS1.out _ _ _ h2); clear h1 h2
      go_wp2_with fail
      refine S1.out.mono ?_
      rintro e w2 ⟨rfl, h1⟩
      have H1 := Lib.hid h1; clear h1
      go_wp2
      go_ret
      exact ⟨rfl, H1.out⟩
    | some y =>
      simp only [e2] at hs
      have hall := rall_v (R := R) (s := s) ch send
      have hof := rends_s (R := R) (s := s) c send
      cases e3 : (allA s.A ch send).getLast? with
      | none =>
        have e4 : allA s.A ch send = [] := List.getLast?_eq_none_iff.1 e3
        rw [e4] at hall
        simp only
        have hfo := rfollow_s (R := R) (s := s) t (-1)
        generalize hx : endsC c send = x at hof
        obtain ⟨hd, tl⟩ := x
        have hin := rturned_s (R := R) (s := followH s t (-1)) c send t t
        have hpu := rputChan_s (R := R) (s := followH s t (-1)) ch (intoC c send (t, t))
        generalize intoC c send (t, t) = c' at hin hpu ⊢
        generalize followH s t (-1) = s1 at hfo hin hpu ⊢
        generalize putChanH s1 ch c' = RR at hpu ⊢
        obtain ⟨x0, x1, x2, x3, x4, x5, x6, x7, x8⟩ := c
        obtain ⟨y0, y1, y2, y3, y4, y5, y6, y7, y8⟩ := c'
        have HS1 := Lib.hid hs; have HALL := Lib.hid hall; have HOF := Lib.hid hof; have HFO := Lib.hid hfo; have HIN := Lib.hid hin; have HPU := Lib.hid hpu
        clear hc h e hs e2 e3 e4 hall hof hfo hin hpu hx
        go_enter Tryz.func132, Tryz.ntmps132
        go_wp2_with fail
        refine HC.out.mono ?_
        rintro e w1 ⟨rfl, h1⟩
        have h2 := h1.new [iv x0, iv x1, iv x2, iv x3, iv x4, iv x5, iv x6, iv x7, iv x8] 63
        have S1 := Lib.hid (HS1.out _ _ _ h2); clear h1 h2
        go_wp2_with fail
        refine S1.out.mono ?_
        rintro e w2 ⟨rfl, h1⟩
        obtain ⟨k0, k1, k2, k3, k4, k5, k6, k7, k8⟩ := h1.chanCells (.head _)
        have S2 := Lib.hid (HOF.out _ _ _ h1); clear h1 S1
        go_wp2_with fail
        refine S2.out.mono ?_
        rintro e w3 ⟨rfl, h1⟩
        have S3 := Lib.hid (HALL.out _ _ _ h1); clear h1 S2 k0 k1 k2 k3 k4 k5 k6 k7 k8
        go_wp2_with fail
        refine S3.out.mono ?_
        rintro e w4 ⟨h1, v, rfl, hv, _⟩
        obtain ⟨o3, c3, hv3⟩ := hv.form
        subst hv3
        have S4 := Lib.hid (HFO.out _ _ _ h1); clear h1 hv S3
        go_wp2_with fail
        refine S4.out.mono ?_
        rintro e w5 ⟨rfl, h1⟩
        obtain ⟨k0, k1, k2, k3, k4, k5, k6, k7, k8⟩ := h1.chanCells (.head _)
        have S5 := Lib.hid (HIN.out _ _ _ h1); clear h1 S4
        go_wp2_with fail
        refine S5.out.mono ?_
        rintro e w6 ⟨rfl, h1⟩
        have S6 := Lib.hid (HPU.out _ _ _ h1); clear h1 k0 k1 k2 k3 k4 k5 k6 k7 k8 S5
        go_wp2_with fail
        refine S6.out.mono ?_
        rintro e w7 ⟨rfl, h1⟩
        have H1 := Lib.hid (h1.sub (V' := V) (fun p hp => .tail _ hp)); clear h1 S6
        go_wp2
        go_ret
        exact ⟨rfl, H1.out⟩
      | some z =>
        have hz : ∃ l', allA s.A ch send = l' ++ [z] := by
          obtain ⟨l', hl⟩ := List.getLast?_eq_some_iff.1 e3
          exact ⟨l', hl⟩
        obtain ⟨l', hz⟩ := hz
        have hle := allA_le h.wf h.few ch send
        rw [hz, List.length_append] at hle
        simp only [List.length_cons, List.length_nil] at hle
        have hwr : wrap64 (l'.length : Int) = l'.length := by unfold wrap64; omega
        rw [hz] at hall
        simp only
        have hf2 := rfollow_s (R := R) (s := s) z t
        generalize followH s z t = s0 at hf2 ⊢
        have hfo := rfollow_s (R := R) (s := s0) t (-1)
        generalize hx : endsC c send = x at hof ⊢
        obtain ⟨hd, tl⟩ := x
        simp only
        have hin := rturned_s (R := R) (s := followH s0 t (-1)) c send hd t
        have hpu := rputChan_s (R := R) (s := followH s0 t (-1)) ch (intoC c send (hd, t))
        generalize intoC c send (hd, t) = c' at hin hpu ⊢
        generalize followH s0 t (-1) = s1 at hfo hin hpu ⊢
        generalize putChanH s1 ch c' = RR at hpu ⊢
        clear hx hz e3
        obtain ⟨x0, x1, x2, x3, x4, x5, x6, x7, x8⟩ := c
        obtain ⟨y0, y1, y2, y3, y4, y5, y6, y7, y8⟩ := c'
        have HS1 := Lib.hid hs; have HALL := Lib.hid hall; have HOF := Lib.hid hof; have HFO := Lib.hid hfo; have HF2 := Lib.hid hf2; have HIN := Lib.hid hin; have HPU := Lib.hid hpu
        clear hc h e hs e2 hf2 hall hof hfo hin hpu
        go_enter Tryz.func132, Tryz.ntmps132
        go_wp2_with fail
        refine HC.out.mono ?_
        rintro e w1 ⟨rfl, h1⟩
        have h2 := h1.new [iv x0, iv x1, iv x2, iv x3, iv x4, iv x5, iv x6, iv x7, iv x8] 63
        have S1 := Lib.hid (HS1.out _ _ _ h2); clear h1 h2
        go_wp2_with fail
        refine S1.out.mono ?_
        rintro e w2 ⟨rfl, h1⟩
        obtain ⟨k0, k1, k2, k3, k4, k5, k6, k7, k8⟩ := h1.chanCells (.head _)
        have S2 := Lib.hid (HOF.out _ _ _ h1); clear h1 S1
        go_wp2_with fail
        refine S2.out.mono ?_
        rintro e w3 ⟨rfl, h1⟩
        have S3 := Lib.hid (HALL.out _ _ _ h1); clear h1 S2 k0 k1 k2 k3 k4 k5 k6 k7 k8
        go_wp2_with fail
        refine S3.out.mono ?_
        rintro e w4 ⟨h1, v, rfl, hv, _⟩
        obtain ⟨b3, o3, c3, hv3, hc3⟩ := hv.last
        subst hv3
        have t1 : (l'.length + 1 == 0) = false := by simp
        have t2 : ((l'.length : Int) + 1 == 0) = false := by simp; omega
        have S3b := Lib.hid (HF2.out _ _ _ h1)
        clear h1 hv S3
        go_wp2_with fail
        refine S3b.out.mono ?_
        rintro e w4b ⟨rfl, h1⟩
        have S4 := Lib.hid (HFO.out _ _ _ h1); clear h1 S3b hc3
        go_wp2_with fail
        refine S4.out.mono ?_
        rintro e w5 ⟨rfl, h1⟩
        obtain ⟨k0, k1, k2, k3, k4, k5, k6, k7, k8⟩ := h1.chanCells (.head _)
        have S5 := Lib.hid (HIN.out _ _ _ h1); clear h1 S4
        go_wp2_with fail
        refine S5.out.mono ?_
        rintro e w6 ⟨rfl, h1⟩
        have S6 := Lib.hid (HPU.out _ _ _ h1); clear h1 k0 k1 k2 k3 k4 k5 k6 k7 k8 S5
        go_wp2_with fail
        refine S6.out.mono ?_
        rintro e w7 ⟨rfl, h1⟩
        have H1 := Lib.hid (h1.sub (V' := V) (fun p hp => .tail _ hp)); clear h1 S6
        go_wp2
        go_ret
        exact ⟨rfl, H1.out⟩
end Go.Proofs.YtcnppdbgieaddaaGreat
