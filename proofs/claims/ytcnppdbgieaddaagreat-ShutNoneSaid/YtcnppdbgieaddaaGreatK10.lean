/- Who waits at a channel: the first one. Who waits at a channel: one less. Who may go on: the sudogs of a goroutine leave their channels. Who may go on: all sudogs of a goroutine leave their channels. -/
import Derived.Test.YtcnppdbgieaddaaGreatK9
import Derived.Deep.LoopGhost
namespace Go.Proofs.YtcnppdbgieaddaaGreat
open Go.RowKit
set_option linter.unusedVariables false
set_option linter.unusedSimpArgs false
variable {w w' w0 : World} {L : Lay} {s : PH} {V : List (Nat × List Value)}

def popH (s : PH) (ch : Int) (send : Bool) : PH × Int × Bool :=
  match chanA s.A ch with
  | none => (s, 0, false)
  | some c => match sudogA s.A (endsC c send).1 with
    | none => (s, 0, false)
    | some x => (followH (putChanH s ch (intoC c send (x.next, if x.next = -1 then -1 else (endsC c send).2))).1 (endsC c send).1 (-1), (endsC c send).1, true)

set_option maxRecDepth 100000 in
set_option maxHeartbeats 1000000 in
theorem pop_s (ch : Int) (send : Bool) : Wr L s 107 #[hptr L, iv ch, .bool send] (popH s ch send).1 (.tuple #[iv (popH s ch send).2.1, .bool (popH s ch send).2.2]) := by
  intro w0 w V h
  have hc := chan_s (L := L) (s := s) ch
  unfold chanR at hc
  unfold popH
  cases e : chanA s.A ch with
  | none =>
    rw [e] at hc
    have HC := Lib.hid (hc _ _ _ h); clear hc h e
    go_enter Tryz.func107, Tryz.ntmps107
    go_wp2_with fail
    refine HC.out.mono ?_
    rintro e w1 ⟨rfl, h1⟩
    have H1 := Lib.hid (h1.alloc (.cells #[iv 0, iv 0, iv 0, iv 0, iv 0, iv 0, iv 0, iv 0, iv 0] 63)); clear h1
    go_wp2
    go_ret2
    exact ⟨rfl, H1.out⟩
  | some c =>
    rw [e] at hc
    simp only at hc ⊢
    have HC := Lib.hid (hc _ _ _ h)
    have hof := of_list_s (L := L) (s := s) c send
    generalize endsC c send = x at hof ⊢
    obtain ⟨hd, tl⟩ := x
    simp only
    have hlk := llook_s (L := L) (s := s) hd
    cases e2 : sudogA s.A hd with
    | none =>
      simp only [e2] at hlk
      obtain ⟨x0, x1, x2, x3, x4, x5, x6, x7, x8⟩ := c
      have HOF := Lib.hid hof; have HLK := Lib.hid hlk; clear hc h e e2 hof hlk
      go_enter Tryz.func107, Tryz.ntmps107
      go_wp2_with fail
      refine HC.out.mono ?_
      rintro e w1 ⟨rfl, h1⟩
      have h2 := h1.new [iv x0, iv x1, iv x2, iv x3, iv x4, iv x5, iv x6, iv x7, iv x8] 63
      have S1 := Lib.hid (HOF.out _ _ _ h2)
      have hlt1 := Lib.hid h1.lt
      clear h1 h2
      go_wp2_with fail
      refine S1.out.mono ?_
      rintro e w2 ⟨rfl, h1⟩
      have h2 := h1.new [iv hd, iv tl] 172
      have hsz := h1.size
      have hlt2 := Lib.hid h1.lt
      have hbc : w1.heap.size < w2.heap.size := h1.lt _ (.head _)
      have S2 := Lib.hid (HLK.out _ _ _ h2)
      clear h1 h2 S1
      go_wp2_with fail
      refine S2.out.mono ?_
      rintro e w3 ⟨rfl, h1⟩
      have H1 := Lib.hid ((h1.sub (V' := V) (fun p hp => .tail _ (.tail _ hp))).alloc (.cells #[iv 0, iv 0, iv 0, iv 0, iv 0, iv 0, iv 0] 36)); clear h1 S2
      go_wp2
      go_ret2
      exact ⟨rfl, H1.out⟩
    | some z =>
      simp only [e2] at hlk
      simp only
      have hin := into_s (L := L) (s := s) c send (z.next, if z.next = -1 then -1 else tl)
      have hpu := putChan_s (L := L) (s := s) ch (intoC c send (z.next, if z.next = -1 then -1 else tl))
      generalize intoC c send (z.next, if z.next = -1 then -1 else tl) = c' at hin hpu ⊢
      generalize putChanH s ch c' = R at hpu ⊢
      have hfo := follow_s (L := L) (s := R.1) hd (-1)
      obtain ⟨x0, x1, x2, x3, x4, x5, x6, x7, x8⟩ := c
      obtain ⟨z0, z1, z2, z3, z4, z5, z6⟩ := z
      obtain ⟨y0, y1, y2, y3, y4, y5, y6, y7, y8⟩ := c'
      simp only at hin
      by_cases q : z3 = -1
      · subst q
        rw [if_pos rfl] at hin
        have HOF := Lib.hid hof; have HLK := Lib.hid hlk; have HIN := Lib.hid hin; have HPU := Lib.hid hpu; have HFO := Lib.hid hfo; clear hc h e e2 hof hlk hin hpu hfo
        go_enter Tryz.func107, Tryz.ntmps107
        go_wp2_with fail
        refine HC.out.mono ?_
        rintro e w1 ⟨rfl, h1⟩
        have h2 := h1.new [iv x0, iv x1, iv x2, iv x3, iv x4, iv x5, iv x6, iv x7, iv x8] 63
        have S1 := Lib.hid (HOF.out _ _ _ h2)
        have hlt1 := Lib.hid h1.lt
        clear h1 h2
        go_wp2_with fail
        refine S1.out.mono ?_
        rintro e w2 ⟨rfl, h1⟩
        have h2 := h1.new [iv hd, iv tl] 172
        have hsz := h1.size
        have hlt2 := Lib.hid h1.lt
        have hbc : w1.heap.size < w2.heap.size := h1.lt _ (.head _)
        have S2 := Lib.hid (HLK.out _ _ _ h2)
        clear h1 h2 S1
        go_wp2_with fail
        refine S2.out.mono ?_
        rintro e w3 ⟨rfl, h1⟩
        obtain ⟨k0, k1, k2, k3, k4, k5, k6, k7, k8⟩ := h1.chanCells (.tail _ (.head _))
        have kb := h1.blk (b := w2.heap.size) (vs := [iv hd, iv tl]) (.head _)
        have j0 := kb.at 0 rfl; have j1 := kb.at 1 rfl; have g0 := kb.free 0; have g1 := kb.free 1
        have m1 : w1.heap.size < w3.heap.size := h1.lt _ (.tail _ (.head _)); have m2 : w2.heap.size < w3.heap.size := h1.lt _ (.head _)
        have hne1 : w1.heap.size ≠ w2.heap.size := by omega
        have hne2 : w2.heap.size ≠ w1.heap.size := by omega
        have h2 : HS L s w0 ((w3.setCell ⟨w2.heap.size, 0, none⟩ (iv (-1))).setCell ⟨w2.heap.size, 1, none⟩ (iv (-1))) ((w2.heap.size, [iv (-1), iv (-1)]) :: (w1.heap.size, [iv x0, iv x1, iv x2, iv x3, iv x4, iv x5, iv x6, iv x7, iv x8]) :: V) := (h1.set hsz (fun p hp => Nat.ne_of_lt (hlt2.out p hp)) 0 (iv (-1))).set hsz (fun p hp => Nat.ne_of_lt (hlt2.out p hp)) 1 (iv (-1))
        have h3 := h2.alloc (.cells #[iv z0, iv z1, iv z2, iv (-1), iv z4, iv z5, iv z6] 36)
        have S3 := Lib.hid (HIN.out _ _ _ h3)
        clear h1 h2 h3 kb S2
        go_wp2_with fail
        refine S3.out.mono ?_
        rintro e w4 ⟨rfl, h1⟩
        have S4 := Lib.hid (HPU.out _ _ _ h1); clear h1 S3 m1 m2 k0 k1 k2 k3 k4 k5 k6 k7 k8 j0 j1 g0 g1
        go_wp2_with fail
        refine S4.out.mono ?_
        rintro e w5 ⟨rfl, h1⟩
        have S5 := Lib.hid (HFO.out _ _ _ h1); clear h1 S4
        go_wp2_with fail
        refine S5.out.mono ?_
        rintro e w6 ⟨rfl, h1⟩
        have H1 := Lib.hid (h1.sub (V' := V) (fun p hp => .tail _ (.tail _ hp))); clear h1 S5
        go_wp2
        go_ret2
        exact ⟨rfl, H1.out⟩
      · rw [if_neg q] at hin
        have t1 : (z3 == -1) = false := by simpa using q
        have HOF := Lib.hid hof; have HLK := Lib.hid hlk; have HIN := Lib.hid hin; have HPU := Lib.hid hpu; have HFO := Lib.hid hfo; clear hc h e e2 hof hlk hin hpu hfo
        go_enter Tryz.func107, Tryz.ntmps107
        go_wp2_with fail
        refine HC.out.mono ?_
        rintro e w1 ⟨rfl, h1⟩
        have h2 := h1.new [iv x0, iv x1, iv x2, iv x3, iv x4, iv x5, iv x6, iv x7, iv x8] 63
        have S1 := Lib.hid (HOF.out _ _ _ h2)
        have hlt1 := Lib.hid h1.lt
        clear h1 h2
        go_wp2_with fail
        refine S1.out.mono ?_
        rintro e w2 ⟨rfl, h1⟩
        have h2 := h1.new [iv hd, iv tl] 172
        have hsz := h1.size
        have hlt2 := Lib.hid h1.lt
        have hbc : w1.heap.size < w2.heap.size := h1.lt _ (.head _)
        have S2 := Lib.hid (HLK.out _ _ _ h2)
        clear h1 h2 S1
        go_wp2_with fail
        refine S2.out.mono ?_
        rintro e w3 ⟨rfl, h1⟩
        obtain ⟨k0, k1, k2, k3, k4, k5, k6, k7, k8⟩ := h1.chanCells (.tail _ (.head _))
        have kb := h1.blk (b := w2.heap.size) (vs := [iv hd, iv tl]) (.head _)
        have j0 := kb.at 0 rfl; have j1 := kb.at 1 rfl; have g0 := kb.free 0; have g1 := kb.free 1
        have m1 : w1.heap.size < w3.heap.size := h1.lt _ (.tail _ (.head _)); have m2 : w2.heap.size < w3.heap.size := h1.lt _ (.head _)
        have hne1 : w1.heap.size ≠ w2.heap.size := by omega
        have hne2 : w2.heap.size ≠ w1.heap.size := by omega
        have h2 : HS L s w0 (w3.setCell ⟨w2.heap.size, 0, none⟩ (iv z3)) ((w2.heap.size, [iv z3, iv tl]) :: (w1.heap.size, [iv x0, iv x1, iv x2, iv x3, iv x4, iv x5, iv x6, iv x7, iv x8]) :: V) := (h1.set hsz (fun p hp => Nat.ne_of_lt (hlt2.out p hp)) 0 (iv z3))
        have h3 := h2.alloc (.cells #[iv z0, iv z1, iv z2, iv z3, iv z4, iv z5, iv z6] 36)
        have S3 := Lib.hid (HIN.out _ _ _ h3)
        clear h1 h2 h3 kb S2
        go_wp2_with fail
        refine S3.out.mono ?_
        rintro e w4 ⟨rfl, h1⟩
        have S4 := Lib.hid (HPU.out _ _ _ h1); clear h1 S3 m1 m2 k0 k1 k2 k3 k4 k5 k6 k7 k8 j0 j1 g0 g1
        go_wp2_with fail
        refine S4.out.mono ?_
        rintro e w5 ⟨rfl, h1⟩
        have S5 := Lib.hid (HFO.out _ _ _ h1); clear h1 S4
        go_wp2_with fail
        refine S5.out.mono ?_
        rintro e w6 ⟨rfl, h1⟩
        have H1 := Lib.hid (h1.sub (V' := V) (fun p hp => .tail _ (.tail _ hp))); clear h1 S5
        go_wp2
        go_ret2
        exact ⟨rfl, H1.out⟩
end Go.Proofs.YtcnppdbgieaddaaGreat

namespace Go.Proofs.YtcnppdbgieaddaaGreat
open Go.RowKit
set_option linter.unusedVariables false
set_option linter.unusedSimpArgs false
variable {w w' w0 : World} {L : Lay} {s : PH} {V : List (Nat × List Value)}

/-- Where a number stands first. -/
def posN (t : Int) : List Int → Nat → Option Nat
  | [], _ => none
  | z :: zs, i => if z = t then some i else posN t zs (i + 1)
def posI : Option Nat → Int | none => -1 | some k => k
theorem idx_pos (t : Int) : ∀ (l : List Int) (i : Nat), Lib.idxFrom l t i = posI (posN t l i)
  | [], i => rfl
  | z :: zs, i => by
    simp only [Lib.idxFrom, posN]
    by_cases e : z = t
    · simp [e, posI]
    · rw [if_neg (by simpa using e), if_neg e]; exact idx_pos t zs (i + 1)
theorem posN_lt (t : Int) : ∀ (l : List Int) (i k : Nat), posN t l i = some k → k < i + l.length
  | [], i, k, h => by cases h
  | z :: zs, i, k, h => by
    simp only [posN] at h
    by_cases e : z = t
    · rw [if_pos e] at h; cases h; simp
    · rw [if_neg e] at h; have := posN_lt t zs (i + 1) k h; simp; omega
theorem index_c (w : World) {v : Value} {l : List Int} (h : IntsAt w v l) (hl : l.length ≤ 9223372036854775807) (x : Int) : Calls Tryz.prog 208 #[v, iv x] w fun e w' => e = .returned (iv (posI (posN x l 0))) ∧ w' = w := by
  rw [← idx_pos]
  rcases h with ⟨rfl, rfl⟩ | ⟨b, off, cap, rfl, hb, hx⟩
  · exact Tryz.slices_Index_int_empty none 0 x w
  · have := Tryz.slices_Index_int b off l.length cap l x w (Nat.le_refl _) hl (fun j hj => by
      rw [hx j l[j] (List.getElem?_eq_getElem hj)]
      simp [List.getD, hj])
    rw [List.take_length] at this
    exact this

/-- All who wait: a slice in a block of its own. -/
theorem lall_v (ch : Int) (send : Bool) (w0 w : World) (V : List (Nat × List Value)) (h : HS L s w0 w V) : Calls Tryz.prog 31 #[hptr L, iv ch, .bool send] w fun e w' => HS L s w0 w' V ∧ ∃ v, e = .returned v ∧ IntsAt w' v (allA s.A ch send) ∧
    (allA s.A ch send ≠ [] → ∃ b bc cap, v = .slice (some ⟨b, 0, none⟩) (allA s.A ch send).length cap ∧ HS L s w0 w' ((b, bc) :: V) ∧ ∀ (i : Nat) (x : Int), (allA s.A ch send)[i]? = some x → bc[i]? = some (iv x)) := by
  have hh := h
  obtain ⟨L', h1, h2, h3, h4⟩ := h
  rw [← hptr_eq h2]
  refine (lall_c w h1 ch send).mono ?_
  rintro e w' ⟨hb, v, rfl, ho⟩
  refine ⟨hh.below hb, v, rfl, IntsAt.ofOwn ho, fun hne => ?_⟩
  rcases ho with ⟨q1, ⟨q2, q3⟩ | ⟨g, cap, cur, hv, hbg, hg, hc, hm, hs, ht⟩⟩
  · exact absurd (List.eq_nil_of_length_eq_zero q3) hne
  · refine ⟨g, cur.toList, cap, hv, hh.with g cur.toList hb hbg ⟨_, hg⟩, fun i x hx => ?_⟩
    have hi := (List.getElem?_eq_some_iff.1 hx).1
    have : (intsV (allA s.A ch send))[i]? = some (iv x) := by simp [intsV, hx]
    rw [← ht, List.getElem?_take, if_pos (by omega)] at this
    exact this

def removeH (s : PH) (ch : Int) (send : Bool) (t : Int) : PH × Bool :=
  match posN t (allA s.A ch send) 0 with
  | none => (s, false)
  | some 0 => (followH (putChanH s ch (intoC (chanR s.A ch).1 send ((sudogR s.A t).1.next, if (endsC (chanR s.A ch).1 send).2 = t then -1 else (endsC (chanR s.A ch).1 send).2))).1 t (-1), true)
  | some (k + 1) => (followH (putChanH (followH s (nthI (allA s.A ch send) k) (sudogR s.A t).1.next) ch (intoC (chanR s.A ch).1 send ((endsC (chanR s.A ch).1 send).1, if (endsC (chanR s.A ch).1 send).2 = t then nthI (allA s.A ch send) k else (endsC (chanR s.A ch).1 send).2))).1 t (-1), true)

set_option maxRecDepth 100000 in
set_option maxHeartbeats 1000000 in
theorem remove_s (ch : Int) (send : Bool) (t : Int) : Wr L s 204 #[hptr L, iv ch, .bool send, iv t] (removeH s ch send t).1 (.bool (removeH s ch send t).2) := by
  intro w0 w V h
  have hal := lall_v (L := L) (s := s) ch send _ _ _ h
  have hle := allA_le h.wf h.few ch send
  unfold removeH
  cases hpos : posN t (allA s.A ch send) 0 with
  | none =>
    generalize allA s.A ch send = l at hal hle hpos
    have HAL := Lib.hid hal; clear hal h
    go_enter Tryz.func204, Tryz.ntmps204
    go_wp2_with fail
    refine HAL.out.mono ?_
    rintro e w1 ⟨h1, v, rfl, hv, hrow⟩
    have hix := index_c w1 hv (by omega) t
    obtain ⟨o3, c3, hv3⟩ := hv.form
    subst hv3
    rw [hpos] at hix
    have IX := Lib.hid hix; have H1 := Lib.hid h1
    clear hix h1 hv hrow
    go_wp2_with fail
    refine IX.out.mono ?_
    rintro e w1' ⟨rfl, rfl⟩
    go_wp2
    go_ret
    exact ⟨rfl, H1.out⟩
  | some k =>
    have hc := chan_s (L := L) (s := s) ch
    have hsu := sudog_s (L := L) (s := s) t
    have hof := of_list_s (L := L) (s := s) (chanR s.A ch).1 send
    have hlt := posN_lt _ _ _ _ hpos
    generalize allA s.A ch send = l at hal hle hpos hlt ⊢
    generalize chanR s.A ch = cR at hc hof ⊢
    generalize sudogR s.A t = yR at hsu ⊢
    obtain ⟨c, ce⟩ := cR
    obtain ⟨y, ye⟩ := yR
    simp only at hc hsu hof ⊢
    generalize endsC c send = x at hof ⊢
    obtain ⟨hd, tl⟩ := x
    simp only
    cases k with
    | zero =>
      simp only
      by_cases q : tl = t
      · have t1 : (tl == t) = true := by simpa using q
        rw [if_pos q]
        have hin := into_s (L := L) (s := s) c send (y.next, -1)
        have hpu := putChan_s (L := L) (s := s) ch (intoC c send (y.next, -1))
        generalize intoC c send (y.next, -1) = c' at hin hpu ⊢
        generalize putChanH s ch c' = R at hpu ⊢
        have hfo := follow_s (L := L) (s := R.1) t (-1)
        obtain ⟨x0, x1, x2, x3, x4, x5, x6, x7, x8⟩ := c
        obtain ⟨z0, z1, z2, z3, z4, z5, z6⟩ := y
        obtain ⟨y0, y1, y2, y3, y4, y5, y6, y7, y8⟩ := c'
        have HAL := Lib.hid hal; have HC := Lib.hid hc; have HSU := Lib.hid hsu; have HOF := Lib.hid hof; have HIN := Lib.hid hin; have HPU := Lib.hid hpu; have HFO := Lib.hid hfo; clear hal hc hsu hof hin hpu hfo h
        go_enter Tryz.func204, Tryz.ntmps204
        go_wp2_with fail
        refine HAL.out.mono ?_
        rintro e w1 ⟨h1, v, rfl, hv, hrow⟩
        have hix := index_c w1 hv (by omega) t
        obtain ⟨o3, c3, hv3⟩ := hv.form
        subst hv3
        rw [hpos] at hix
        have IX := Lib.hid hix; have H1 := Lib.hid h1
        clear hix h1 hv hrow
        go_wp2_with fail
        refine IX.out.mono ?_
        rintro e w1' ⟨rfl, rfl⟩
        have S1 := Lib.hid (HC.out _ _ _ H1.out); clear IX
        go_wp2_with fail
        refine S1.out.mono ?_
        rintro e w2 ⟨rfl, h1⟩
        have h2 := h1.new [iv x0, iv x1, iv x2, iv x3, iv x4, iv x5, iv x6, iv x7, iv x8] 63
        have S2 := Lib.hid (HSU.out _ _ _ h2)
        have hsz2 := h1.size
        have hlt2 := Lib.hid h1.lt
        clear h1 h2 S1
        go_wp2_with fail
        refine S2.out.mono ?_
        rintro e w3 ⟨rfl, h1⟩
        obtain ⟨k0, k1, k2, k3, k4, k5, k6, k7, k8⟩ := h1.chanCells (.head _)
        have h2 := h1.new [iv z0, iv z1, iv z2, iv z3, iv z4, iv z5, iv z6] 36
        have S3 := Lib.hid (HOF.out _ _ _ h2)
        have hlt3 := Lib.hid h1.lt
        have m1 : w2.heap.size < w3.heap.size := h1.lt _ (.head _)
        clear h1 h2 S2
        go_wp2_with fail
        refine S3.out.mono ?_
        rintro e w4 ⟨rfl, h1⟩
        have m2 : w3.heap.size < w4.heap.size := h1.lt _ (.head _)
        have m3 : w2.heap.size < w4.heap.size := by omega
        have hsz4 := h1.size
        have hlt4 := Lib.hid h1.lt
        clear k0 k1 k2 k3 k4 k5 k6 k7 k8
        obtain ⟨k0, k1, k2, k3, k4, k5, k6, k7, k8⟩ := h1.chanCells (.tail _ (.head _))
        obtain ⟨q0, q1, q2, q3, q4, q5, q6⟩ := h1.sudogCells (.head _)
        have h2 : HS L s w0 (w4.alloc (.cells #[iv z3, iv (-1)] 172)) ((w4.heap.size, [iv z3, iv (-1)]) :: (w3.heap.size, [iv z0, iv z1, iv z2, iv z3, iv z4, iv z5, iv z6]) :: (w2.heap.size, [iv x0, iv x1, iv x2, iv x3, iv x4, iv x5, iv x6, iv x7, iv x8]) :: V) := h1.new [iv z3, iv (-1)] 172
        have S4 := Lib.hid (HIN.out _ _ _ h2)
        clear h1 h2 S3
        go_wp2_with fail
        refine S4.out.mono ?_
        rintro e w6 ⟨rfl, h1⟩
        have S5 := Lib.hid (HPU.out _ _ _ h1); clear h1 S4 k0 k1 k2 k3 k4 k5 k6 k7 k8 q0 q1 q2 q3 q4 q5 q6
        go_wp2_with fail
        refine S5.out.mono ?_
        rintro e w7 ⟨rfl, h1⟩
        have S6 := Lib.hid (HFO.out _ _ _ h1); clear h1 S5
        go_wp2_with fail
        refine S6.out.mono ?_
        rintro e w8 ⟨rfl, h1⟩
        have HF := Lib.hid (h1.sub (V' := V) (fun p hp => .tail _ (.tail _ (.tail _ hp)))); clear h1 S6
        go_wp2
        go_ret
        exact ⟨rfl, HF.out⟩
      · have t1 : (tl == t) = false := by simpa using q
        rw [if_neg q]
        have hin := into_s (L := L) (s := s) c send (y.next, tl)
        have hpu := putChan_s (L := L) (s := s) ch (intoC c send (y.next, tl))
        generalize intoC c send (y.next, tl) = c' at hin hpu ⊢
        generalize putChanH s ch c' = R at hpu ⊢
        have hfo := follow_s (L := L) (s := R.1) t (-1)
        obtain ⟨x0, x1, x2, x3, x4, x5, x6, x7, x8⟩ := c
        obtain ⟨z0, z1, z2, z3, z4, z5, z6⟩ := y
        obtain ⟨y0, y1, y2, y3, y4, y5, y6, y7, y8⟩ := c'
        have HAL := Lib.hid hal; have HC := Lib.hid hc; have HSU := Lib.hid hsu; have HOF := Lib.hid hof; have HIN := Lib.hid hin; have HPU := Lib.hid hpu; have HFO := Lib.hid hfo; clear hal hc hsu hof hin hpu hfo h
        go_enter Tryz.func204, Tryz.ntmps204
        go_wp2_with fail
        refine HAL.out.mono ?_
        rintro e w1 ⟨h1, v, rfl, hv, hrow⟩
        have hix := index_c w1 hv (by omega) t
        obtain ⟨o3, c3, hv3⟩ := hv.form
        subst hv3
        rw [hpos] at hix
        have IX := Lib.hid hix; have H1 := Lib.hid h1
        clear hix h1 hv hrow
        go_wp2_with fail
        refine IX.out.mono ?_
        rintro e w1' ⟨rfl, rfl⟩
        have S1 := Lib.hid (HC.out _ _ _ H1.out); clear IX
        go_wp2_with fail
        refine S1.out.mono ?_
        rintro e w2 ⟨rfl, h1⟩
        have h2 := h1.new [iv x0, iv x1, iv x2, iv x3, iv x4, iv x5, iv x6, iv x7, iv x8] 63
        have S2 := Lib.hid (HSU.out _ _ _ h2)
        have hsz2 := h1.size
        have hlt2 := Lib.hid h1.lt
        clear h1 h2 S1
        go_wp2_with fail
        refine S2.out.mono ?_
        rintro e w3 ⟨rfl, h1⟩
        obtain ⟨k0, k1, k2, k3, k4, k5, k6, k7, k8⟩ := h1.chanCells (.head _)
        have h2 := h1.new [iv z0, iv z1, iv z2, iv z3, iv z4, iv z5, iv z6] 36
        have S3 := Lib.hid (HOF.out _ _ _ h2)
        have hlt3 := Lib.hid h1.lt
        have m1 : w2.heap.size < w3.heap.size := h1.lt _ (.head _)
        clear h1 h2 S2
        go_wp2_with fail
        refine S3.out.mono ?_
        rintro e w4 ⟨rfl, h1⟩
        have m2 : w3.heap.size < w4.heap.size := h1.lt _ (.head _)
        have m3 : w2.heap.size < w4.heap.size := by omega
        have hsz4 := h1.size
        have hlt4 := Lib.hid h1.lt
        clear k0 k1 k2 k3 k4 k5 k6 k7 k8
        obtain ⟨k0, k1, k2, k3, k4, k5, k6, k7, k8⟩ := h1.chanCells (.tail _ (.head _))
        obtain ⟨q0, q1, q2, q3, q4, q5, q6⟩ := h1.sudogCells (.head _)
        have h2 : HS L s w0 (w4.alloc (.cells #[iv z3, iv tl] 172)) ((w4.heap.size, [iv z3, iv tl]) :: (w3.heap.size, [iv z0, iv z1, iv z2, iv z3, iv z4, iv z5, iv z6]) :: (w2.heap.size, [iv x0, iv x1, iv x2, iv x3, iv x4, iv x5, iv x6, iv x7, iv x8]) :: V) := h1.new [iv z3, iv tl] 172
        have S4 := Lib.hid (HIN.out _ _ _ h2)
        clear h1 h2 S3
        go_wp2_with fail
        refine S4.out.mono ?_
        rintro e w6 ⟨rfl, h1⟩
        have S5 := Lib.hid (HPU.out _ _ _ h1); clear h1 S4 k0 k1 k2 k3 k4 k5 k6 k7 k8 q0 q1 q2 q3 q4 q5 q6
        go_wp2_with fail
        refine S5.out.mono ?_
        rintro e w7 ⟨rfl, h1⟩
        have S6 := Lib.hid (HFO.out _ _ _ h1); clear h1 S5
        go_wp2_with fail
        refine S6.out.mono ?_
        rintro e w8 ⟨rfl, h1⟩
        have HF := Lib.hid (h1.sub (V' := V) (fun p hp => .tail _ (.tail _ (.tail _ hp)))); clear h1 S6
        go_wp2
        go_ret
        exact ⟨rfl, HF.out⟩
    | succ k =>
      simp only
      obtain ⟨bz, hbz⟩ : ∃ z, l[k]? = some z := ⟨_, List.getElem?_eq_getElem (by omega)⟩
      have hnz : nthI l k = bz := by simp [nthI, List.getD, hbz]
      rw [hnz]
      have hf2 := follow_s (L := L) (s := s) bz y.next
      generalize followH s bz y.next = s1 at hf2 ⊢
      have hwr : wrap64 (k : Int) = k := by unfold wrap64; omega
      have hge : ((k : Int) + 1 > 0) := by omega
      have hkl : (k : Int) < l.length := by omega
      have hpc : posI (some (k + 1)) = (k : Int) + 1 := rfl
      by_cases q : tl = t
      · have t1 : Hid ((tl == t) = true) := by simpa [Hid] using q
        rw [if_pos q]
        have hin := into_s (L := L) (s := s1) c send (hd, bz)
        have hpu := putChan_s (L := L) (s := s1) ch (intoC c send (hd, bz))
        generalize intoC c send (hd, bz) = c' at hin hpu ⊢
        generalize putChanH s1 ch c' = R at hpu ⊢
        have hfo := follow_s (L := L) (s := R.1) t (-1)
        obtain ⟨x0, x1, x2, x3, x4, x5, x6, x7, x8⟩ := c
        obtain ⟨z0, z1, z2, z3, z4, z5, z6⟩ := y
        obtain ⟨y0, y1, y2, y3, y4, y5, y6, y7, y8⟩ := c'
        have HAL := Lib.hid hal; have HC := Lib.hid hc; have HSU := Lib.hid hsu; have HOF := Lib.hid hof; have HIN := Lib.hid hin; have HPU := Lib.hid hpu; have HFO := Lib.hid hfo; have HF2 := Lib.hid hf2; clear hal hc hsu hof hin hpu hfo hf2 h q
        go_enter Tryz.func204, Tryz.ntmps204
        go_wp2_with fail
        refine HAL.out.mono ?_
        rintro e w1 ⟨h1, v, rfl, hv, hrow⟩
        have hix := index_c w1 hv (by omega) t
        obtain ⟨bb, bc, cap, hbv, hbh, hbx⟩ := hrow (by intro q; rw [q] at hlt; simp at hlt)
        have HB1 := Lib.hid hbh; have HBX := Lib.hid hbx; clear hbh hbx
        subst hbv
        rw [hpos] at hix
        rw [hpc] at hix
        have IX := Lib.hid hix; have H1 := Lib.hid h1
        clear hix h1 hv hrow
        go_wp2_with fail
        refine IX.out.mono ?_
        rintro e w1' ⟨rfl, rfl⟩
        have S1 := Lib.hid (HC.out _ _ _ HB1.out); clear IX
        go_wp2_with fail
        refine S1.out.mono ?_
        rintro e w2 ⟨rfl, h1⟩
        have h2 := h1.new [iv x0, iv x1, iv x2, iv x3, iv x4, iv x5, iv x6, iv x7, iv x8] 63
        have S2 := Lib.hid (HSU.out _ _ _ h2)
        have hsz2 := h1.size
        have hlt2 := Lib.hid h1.lt
        clear h1 h2 S1
        go_wp2_with fail
        refine S2.out.mono ?_
        rintro e w3 ⟨rfl, h1⟩
        obtain ⟨k0, k1, k2, k3, k4, k5, k6, k7, k8⟩ := h1.chanCells (.head _)
        have h2 := h1.new [iv z0, iv z1, iv z2, iv z3, iv z4, iv z5, iv z6] 36
        have S3 := Lib.hid (HOF.out _ _ _ h2)
        have hlt3 := Lib.hid h1.lt
        have m1 : w2.heap.size < w3.heap.size := h1.lt _ (.head _)
        clear h1 h2 S2
        go_wp2_with fail
        refine S3.out.mono ?_
        rintro e w4 ⟨rfl, h1⟩
        have m2 : w3.heap.size < w4.heap.size := h1.lt _ (.head _)
        have m3 : w2.heap.size < w4.heap.size := by omega
        have hsz4 := h1.size
        have hlt4 := Lib.hid h1.lt
        clear k0 k1 k2 k3 k4 k5 k6 k7 k8
        obtain ⟨k0, k1, k2, k3, k4, k5, k6, k7, k8⟩ := h1.chanCells (.tail _ (.head _))
        obtain ⟨q0, q1, q2, q3, q4, q5, q6⟩ := h1.sudogCells (.head _)
        have h2 : HS L s w0 (w4.alloc (.cells #[iv hd, iv tl] 172)) ((w4.heap.size, [iv hd, iv tl]) :: (w3.heap.size, [iv z0, iv z1, iv z2, iv z3, iv z4, iv z5, iv z6]) :: (w2.heap.size, [iv x0, iv x1, iv x2, iv x3, iv x4, iv x5, iv x6, iv x7, iv x8]) :: (bb, bc) :: V) := h1.new [iv hd, iv tl] 172
        have hbe := (h1.blk (b := bb) (.tail _ (.tail _ (.head _))))
        have kz := hbe.at k (HBX.out k bz hbz)
        have m4 : bb < w4.heap.size := hbe.lt
        have S4b := Lib.hid (HF2.out _ _ _ h2)
        clear h1 h2 S3 hbe
        go_wp2_with fail
        refine S4b.out.mono ?_
        rintro e w5 ⟨rfl, h1⟩
        clear k0 k1 k2 k3 k4 k5 k6 k7 k8 kz
        obtain ⟨k0, k1, k2, k3, k4, k5, k6, k7, k8⟩ := h1.chanCells (.tail _ (.tail _ (.head _)))
        have kb := h1.blk (b := w4.heap.size) (vs := [iv hd, iv tl]) (.head _)
        have j0 := kb.at 0 rfl; have j1 := kb.at 1 rfl; have g0 := kb.free 0; have g1 := kb.free 1
        have hne1 : w2.heap.size ≠ w4.heap.size := by omega
        have hne2 : w4.heap.size ≠ w2.heap.size := by omega
        have t1 := t1.out
        have h2 : HS L s1 w0 (w5.setCell ⟨w4.heap.size, 1, none⟩ (iv bz)) ((w4.heap.size, [iv hd, iv bz]) :: (w3.heap.size, [iv z0, iv z1, iv z2, iv z3, iv z4, iv z5, iv z6]) :: (w2.heap.size, [iv x0, iv x1, iv x2, iv x3, iv x4, iv x5, iv x6, iv x7, iv x8]) :: (bb, bc) :: V) := h1.set hsz4 (fun p hp => Nat.ne_of_lt (hlt4.out p hp)) 1 (iv bz)
        have S4 := Lib.hid (HIN.out _ _ _ h2)
        clear h1 h2 S4b kb
        go_wp2_with fail
        refine S4.out.mono ?_
        rintro e w6 ⟨rfl, h1⟩
        have S5 := Lib.hid (HPU.out _ _ _ h1); clear h1 S4 k0 k1 k2 k3 k4 k5 k6 k7 k8 q0 q1 q2 q3 q4 q5 q6 j0 j1 g0 g1
        go_wp2_with fail
        refine S5.out.mono ?_
        rintro e w7 ⟨rfl, h1⟩
        have S6 := Lib.hid (HFO.out _ _ _ h1); clear h1 S5
        go_wp2_with fail
        refine S6.out.mono ?_
        rintro e w8 ⟨rfl, h1⟩
        have HF := Lib.hid (h1.sub (V' := V) (fun p hp => .tail _ (.tail _ (.tail _ (.tail _ hp))))); clear h1 S6
        go_wp2
        go_ret
        exact ⟨rfl, HF.out⟩
      · have t1 : (tl == t) = false := by simpa using q
        rw [if_neg q]
        have hin := into_s (L := L) (s := s1) c send (hd, tl)
        have hpu := putChan_s (L := L) (s := s1) ch (intoC c send (hd, tl))
        generalize intoC c send (hd, tl) = c' at hin hpu ⊢
        generalize putChanH s1 ch c' = R at hpu ⊢
        have hfo := follow_s (L := L) (s := R.1) t (-1)
        obtain ⟨x0, x1, x2, x3, x4, x5, x6, x7, x8⟩ := c
        obtain ⟨z0, z1, z2, z3, z4, z5, z6⟩ := y
        obtain ⟨y0, y1, y2, y3, y4, y5, y6, y7, y8⟩ := c'
        have HAL := Lib.hid hal; have HC := Lib.hid hc; have HSU := Lib.hid hsu; have HOF := Lib.hid hof; have HIN := Lib.hid hin; have HPU := Lib.hid hpu; have HFO := Lib.hid hfo; have HF2 := Lib.hid hf2; clear hal hc hsu hof hin hpu hfo hf2 h q
        go_enter Tryz.func204, Tryz.ntmps204
        go_wp2_with fail
        refine HAL.out.mono ?_
        rintro e w1 ⟨h1, v, rfl, hv, hrow⟩
        have hix := index_c w1 hv (by omega) t
        obtain ⟨bb, bc, cap, hbv, hbh, hbx⟩ := hrow (by intro q; rw [q] at hlt; simp at hlt)
        have HB1 := Lib.hid hbh; have HBX := Lib.hid hbx; clear hbh hbx
        subst hbv
        rw [hpos] at hix
        rw [hpc] at hix
        have IX := Lib.hid hix; have H1 := Lib.hid h1
        clear hix h1 hv hrow
        go_wp2_with fail
        refine IX.out.mono ?_
        rintro e w1' ⟨rfl, rfl⟩
        have S1 := Lib.hid (HC.out _ _ _ HB1.out); clear IX
        go_wp2_with fail
        refine S1.out.mono ?_
        rintro e w2 ⟨rfl, h1⟩
        have h2 := h1.new [iv x0, iv x1, iv x2, iv x3, iv x4, iv x5, iv x6, iv x7, iv x8] 63
        have S2 := Lib.hid (HSU.out _ _ _ h2)
        have hsz2 := h1.size
        have hlt2 := Lib.hid h1.lt
        clear h1 h2 S1
        go_wp2_with fail
        refine S2.out.mono ?_
        rintro e w3 ⟨rfl, h1⟩
        obtain ⟨k0, k1, k2, k3, k4, k5, k6, k7, k8⟩ := h1.chanCells (.head _)
        have h2 := h1.new [iv z0, iv z1, iv z2, iv z3, iv z4, iv z5, iv z6] 36
        have S3 := Lib.hid (HOF.out _ _ _ h2)
        have hlt3 := Lib.hid h1.lt
        have m1 : w2.heap.size < w3.heap.size := h1.lt _ (.head _)
        clear h1 h2 S2
        go_wp2_with fail
        refine S3.out.mono ?_
        rintro e w4 ⟨rfl, h1⟩
        have m2 : w3.heap.size < w4.heap.size := h1.lt _ (.head _)
        have m3 : w2.heap.size < w4.heap.size := by omega
        have hsz4 := h1.size
        have hlt4 := Lib.hid h1.lt
        clear k0 k1 k2 k3 k4 k5 k6 k7 k8
        obtain ⟨k0, k1, k2, k3, k4, k5, k6, k7, k8⟩ := h1.chanCells (.tail _ (.head _))
        obtain ⟨q0, q1, q2, q3, q4, q5, q6⟩ := h1.sudogCells (.head _)
        have h2 : HS L s w0 (w4.alloc (.cells #[iv hd, iv tl] 172)) ((w4.heap.size, [iv hd, iv tl]) :: (w3.heap.size, [iv z0, iv z1, iv z2, iv z3, iv z4, iv z5, iv z6]) :: (w2.heap.size, [iv x0, iv x1, iv x2, iv x3, iv x4, iv x5, iv x6, iv x7, iv x8]) :: (bb, bc) :: V) := h1.new [iv hd, iv tl] 172
        have hbe := (h1.blk (b := bb) (.tail _ (.tail _ (.head _))))
        have kz := hbe.at k (HBX.out k bz hbz)
        have m4 : bb < w4.heap.size := hbe.lt
        have S4b := Lib.hid (HF2.out _ _ _ h2)
        clear h1 h2 S3 hbe
        go_wp2_with fail
        refine S4b.out.mono ?_
        rintro e w5 ⟨rfl, h1⟩
        clear k0 k1 k2 k3 k4 k5 k6 k7 k8 kz
        obtain ⟨k0, k1, k2, k3, k4, k5, k6, k7, k8⟩ := h1.chanCells (.tail _ (.tail _ (.head _)))
        have kb := h1.blk (b := w4.heap.size) (vs := [iv hd, iv tl]) (.head _)
        have j0 := kb.at 0 rfl; have j1 := kb.at 1 rfl; have g0 := kb.free 0; have g1 := kb.free 1
        have hne1 : w2.heap.size ≠ w4.heap.size := by omega
        have hne2 : w4.heap.size ≠ w2.heap.size := by omega
        have S4 := Lib.hid (HIN.out _ _ _ h1)
        clear h1 S4b kb
        go_wp2_with fail
        refine S4.out.mono ?_
        rintro e w6 ⟨rfl, h1⟩
        have S5 := Lib.hid (HPU.out _ _ _ h1); clear h1 S4 k0 k1 k2 k3 k4 k5 k6 k7 k8 q0 q1 q2 q3 q4 q5 q6 j0 j1 g0 g1
        go_wp2_with fail
        refine S5.out.mono ?_
        rintro e w7 ⟨rfl, h1⟩
        have S6 := Lib.hid (HFO.out _ _ _ h1); clear h1 S5
        go_wp2_with fail
        refine S6.out.mono ?_
        rintro e w8 ⟨rfl, h1⟩
        have HF := Lib.hid (h1.sub (V' := V) (fun p hp => .tail _ (.tail _ (.tail _ (.tail _ hp))))); clear h1 S6
        go_wp2
        go_ret
        exact ⟨rfl, HF.out⟩
end Go.Proofs.YtcnppdbgieaddaaGreat

namespace Go.Proofs.YtcnppdbgieaddaaGreat
open Go.RowKit
set_option linter.unusedVariables false
set_option linter.unusedSimpArgs false
variable {w w' w0 : World} {L : Lay} {s : PH} {V : List (Nat × List Value)}

/-! ### How many spans there are does not turn -/
theorem storeS_n (A : AS) (a i v : Int) : (storeS A a i v).1.n = A.n := by
  unfold storeS; repeat' split
  all_goals rfl
theorem storeH_n (s : PH) (a i v : Int) : (storeH s a i v).1.A.n = s.A.n := by rw [storeH_A, storeS_n]
theorem layL_n (a : Int) : ∀ (os xs : List Int) (s : PH) (i : Nat), (layL s a i os xs).A.n = s.A.n
  | [], xs, s, i => by unfold layL; rfl
  | o :: os, [], s, i => by unfold layL; rfl
  | o :: os, x :: xs, s, i => by
    unfold layL
    rw [layL_n a os xs]
    split
    · rfl
    · exact storeH_n _ _ _ _
theorem putH_n (s : PH) (a k : Int) (l : List Int) : (putH s a k l).1.A.n = s.A.n := by
  unfold putH; split
  · rfl
  · exact layL_n _ _ _ _ _
theorem followH_n (s : PH) (a n : Int) : (followH s a n).A.n = s.A.n := by
  unfold followH; split
  · exact putH_n _ _ _ _
  · rfl
theorem putChanH_n (s : PH) (a : Int) (c : PChan) : (putChanH s a c).1.A.n = s.A.n := putH_n _ _ _ _
theorem removeH_n (s : PH) (ch : Int) (send : Bool) (t : Int) : (removeH s ch send t).1.A.n = s.A.n := by
  unfold removeH; split
  · rfl
  · simp only [followH_n, putChanH_n]
  · simp only [followH_n, putChanH_n]

/-! ### A map beside it -/
def HSM (L : Lay) (s : PH) (w0 w : World) (V : List (Nat × List Value)) (mb : Nat) (m : Int → Int) : Prop :=
  ∃ L', HeapAt w L' s ∧ L'.hb = L.hb ∧ L'.ab = L.ab ∧ Stp L.own L'.own w0 w ∧ (∀ p ∈ V, Blk w p.1 p.2 ∧ p.1 ∉ L'.own) ∧ mb ∉ L'.own ∧ MapAt w mb m
theorem HSM.hs {mb : Nat} {m : Int → Int} (h : HSM L s w0 w V mb m) : HS L s w0 w V := by
  obtain ⟨L', h1, h2, h3, h4, h5, _⟩ := h; exact ⟨L', h1, h2, h3, h4, h5⟩
theorem HSM.map {mb : Nat} {m : Int → Int} (h : HSM L s w0 w V mb m) : MapAt w mb m := by
  obtain ⟨L', h1, h2, h3, h4, h5, _, h7⟩ := h; exact h7
theorem HSM.start (h : HS L s w0 w V) : HSM L s w0 (w.alloc (.map #[] 0)) V w.heap.size (fun _ => 0) := by
  have hb : Below w.heap.size w (w.alloc (.map #[] 0)) := (Below.refl _ _).alloc (Nat.le_refl _) _
  obtain ⟨L', h1, h2, h3, h4, h5⟩ := h
  exact ⟨L', h1.below hb, h2, h3, h4.trans (Stp.below hb), fun p hp => ⟨(h5 p hp).1.alloc _, (h5 p hp).2⟩, fun hm => by have := h1.lt _ hm; omega, MapAt.new w⟩
theorem HSM.step {mb : Nat} {m : Int → Int} {f : Nat} {args : Lay → Array Value} {s' : PH} {r : Value} (h : HSM L s w0 w V mb m) (ha : ∀ L', L'.hb = L.hb → L'.ab = L.ab → args L' = args L) (hc : ∀ L, Wr L s f (args L) s' r) :
    Calls Tryz.prog f (args L) w fun e w' => e = .returned r ∧ HSM L s' w0 w' V mb m := by
  obtain ⟨L', h1, h2, h3, h4, h5, h6, h7⟩ := h
  rw [← ha L' h2 h3]
  refine (hc L' w w V ⟨L', h1, rfl, rfl, Stp.refl _ _, h5⟩).mono ?_
  rintro e w' ⟨q0, L2, q1, q2, q3, q4, q5⟩
  refine ⟨q0, L2, q1, q2.trans h2, q3.trans h3, h4.trans q4, q5, fun hm => ?_, h7.keep (q4.block _ h7.lt h6)⟩
  rcases q4.own _ hm with hm | hm
  · exact h6 hm
  · have := h7.lt; omega
theorem HSM.new {mb : Nat} {m : Int → Int} (h : HSM L s w0 w V mb m) (vs : List Value) (t : TypeId) : HSM L s w0 (w.alloc (.cells vs.toArray t)) ((w.heap.size, vs) :: V) mb m := by
  have hb : Below w.heap.size w (w.alloc (.cells vs.toArray t)) := (Below.refl _ _).alloc (Nat.le_refl _) _
  obtain ⟨L', h1, h2, h3, h4, h5, h6, h7⟩ := h
  refine ⟨L', h1.below hb, h2, h3, h4.trans (Stp.below hb), fun p hp => ?_, h6, h7.keep (hb.block _ h7.lt)⟩
  rcases List.mem_cons.1 hp with rfl | hp
  · exact ⟨Blk.new w vs t, fun hm => by have := h1.lt _ hm; simp only at this; omega⟩
  · exact ⟨(h5 p hp).1.alloc _, (h5 p hp).2⟩
theorem HSM.sub {mb : Nat} {m : Int → Int} (h : HSM L s w0 w V mb m) {V' : List (Nat × List Value)} (hs : ∀ p ∈ V', p ∈ V) : HSM L s w0 w V' mb m := by
  obtain ⟨L', h1, h2, h3, h4, h5, h6⟩ := h
  exact ⟨L', h1, h2, h3, h4, fun p hp => h5 p (hs p hp), h6⟩
theorem HSM.put {mb : Nat} {m m' : Int → Int} (h : HSM L s w0 w V mb m) (hw : w0.heap.size ≤ mb) (hd : ∀ p ∈ V, p.1 ≠ mb) {o : Obj} (hm : MapAt (putObj w mb o) mb m') : HSM L s w0 (putObj w mb o) V mb m' := by
  obtain ⟨L', h1, h2, h3, h4, h5, h6, h7⟩ := h
  have hst : Stp [mb] [mb] w (putObj w mb o) := Stp.put (by simp) o
  refine ⟨L', h1.stp hst (fun x hx e => by simp at e; subst e; exact h6 hx), h2, h3, ?_, fun p hp => ⟨(h5 p hp).1.keep (hst.block _ (h5 p hp).1.lt (by simp; exact hd p hp)), (h5 p hp).2⟩, h6, hm⟩
  refine ⟨hst.os.trans h4.os, hst.tape.trans h4.tape, hst.output.trans h4.output, Nat.le_trans h4.size hst.size, fun x hx hn => ?_, h4.own⟩
  rw [hst.block x (Nat.lt_of_lt_of_le hx h4.size) (by simp; omega)]
  exact h4.block x hx hn

/-- What is looked for: a sudog, or a goroutine. -/
abbrev wlookV (A : AS) (a : Int) : Value := match sudogA A a with
  | some x => .iface 36 x.v
  | none => match gorA A a with | some g => .iface 44 g.v | none => .nilIface
theorem wlook_s (a : Int) : Rd L s 203 #[hptr L, iv a] (wlookV s.A a) := by
  intro w0 w V h
  have hs := sudog_s (L := L) (s := s) a
  unfold sudogR at hs
  unfold wlookV
  cases e : sudogA s.A a with
  | some x =>
    rw [e] at hs
    simp only at hs ⊢
    obtain ⟨x0, x1, x2, x3, x4, x5, x6⟩ := x
    have HS1 := Lib.hid (hs _ _ _ h); clear hs h e
    go_enter Tryz.func203, Tryz.ntmps203
    go_wp2_with fail
    refine HS1.out.mono ?_
    rintro e w1 ⟨rfl, h1⟩
    have H1 := Lib.hid (h1.alloc (.cells #[iv x0, iv x1, iv x2, iv x3, iv x4, iv x5, iv x6] 36)); clear h1
    go_wp2
    go_ret
    exact ⟨rfl, H1.out⟩
  | none =>
    rw [e] at hs
    simp only at hs ⊢
    have hg := gor_s (L := L) (s := s) a
    unfold gorR at hg
    cases e2 : gorA s.A a with
    | some x =>
      rw [e2] at hg
      simp only at hg ⊢
      obtain ⟨x0, x1, x2, x3, x4, x5, x6, x7, x8, x9⟩ := x
      have HS1 := Lib.hid (hs _ _ _ h); have HG := Lib.hid hg; clear hs h e e2 hg
      go_enter Tryz.func203, Tryz.ntmps203
      go_wp2_with fail
      refine HS1.out.mono ?_
      rintro e w1 ⟨rfl, h1⟩
      have S1 := Lib.hid (HG.out _ _ _ (h1.alloc (.cells #[iv 0, iv 0, iv 0, iv 0, iv 0, iv 0, iv 0] 36))); clear h1
      go_wp2_with fail
      refine S1.out.mono ?_
      rintro e w2 ⟨rfl, h1⟩
      have H1 := Lib.hid (h1.alloc (.cells #[iv x0, iv x1, iv x2, iv x3, iv x4, iv x5, iv x6, iv x7, iv x8, iv x9] 44)); clear h1
      go_wp2
      go_ret
      exact ⟨rfl, H1.out⟩
    | none =>
      rw [e2] at hg
      simp only at hg ⊢
      have HS1 := Lib.hid (hs _ _ _ h); have HG := Lib.hid hg; clear hs h e e2 hg
      go_enter Tryz.func203, Tryz.ntmps203
      go_wp2_with fail
      refine HS1.out.mono ?_
      rintro e w1 ⟨rfl, h1⟩
      have S1 := Lib.hid (HG.out _ _ _ (h1.alloc (.cells #[iv 0, iv 0, iv 0, iv 0, iv 0, iv 0, iv 0] 36))); clear h1
      go_wp2_with fail
      refine S1.out.mono ?_
      rintro e w2 ⟨rfl, h1⟩
      have H1 := Lib.hid (h1.alloc (.cells #[iv 0, iv 0, iv 0, iv 0, iv 0, iv 0, iv 0, iv 0, iv 0, iv 0] 44)); clear h1
      go_wp2
      go_ret
      exact ⟨rfl, H1.out⟩
end Go.Proofs.YtcnppdbgieaddaaGreat

namespace Go.Proofs.YtcnppdbgieaddaaGreat
open Go.RowKit
set_option linter.unusedVariables false
set_option linter.unusedSimpArgs false
variable {w w' w0 : World} {L : Lay} {s : PH} {V : List (Nat × List Value)}

theorem wlook_wr (a : Int) : Wr L s 203 #[hptr L, iv a] s (wlookV s.A a) := wlook_s a
def leaveN : Nat → PH → Int → List Int → PH
  | 0, s, _, _ => s
  | d + 1, s, a, seen => if a ∈ seen then s else match sudogA s.A a with
    | none => s
    | some x => leaveN d (removeH (removeH s x.chan true a).1 x.chan false a).1 x.more (seen ++ [a])
def leaveH (s : PH) (a : Int) : PH := leaveN (fuelA s.A) s a []
def seenM (seen : List Int) (x : Int) : Int := if x ∈ seen then 1 else 0
theorem seenM_put (seen : List Int) (a : Int) (h : a ∉ seen) : updM (seenM seen) a 1 = seenM (seen ++ [a]) := by
  funext z
  unfold updM seenM
  by_cases e : z = a
  · subst e; simp
  · by_cases q : z ∈ seen <;> simp [e, q]

set_option maxRecDepth 100000 in
set_option maxHeartbeats 1000000 in
theorem leave_s (a : Int) : Wr L s 119 #[hptr L, iv a] (leaveH s a) (.tuple #[]) := by
  intro w0 w V h
  have hst := HSM.start h
  have hmm := @run_makeMap Tryz.prog
  have hsz := h.size
  have hlt := Lib.hid h.lt
  have hfew := h.few
  have HST := Lib.hid hst
  clear hst h
  go_enter Tryz.func119, Tryz.ntmps119
  go_wp2_with fail
  go_loopg [1] (fuelA s.A) (fun k v1 wr => ∃ (b : Int) (seen : List Int) (s1 : PH), v1 = iv b ∧ leaveN k s1 b seen = leaveH s a ∧ seen.length + k = fuelA s.A ∧ seen.Nodup ∧ (∀ x ∈ seen, 0 ≤ x ∧ x < ((32 * s.A.n : Nat) : Int)) ∧ s1.A.n = s.A.n ∧ HSM L s1 w0 wr V w.heap.size (seenM seen))
  case atStart => exact ⟨a, [], s, rfl, rfl, by simp, List.nodup_nil, by simp, rfl, by have := HST.out; exact this⟩
  case round =>
    obtain ⟨b, seen, s1, rfl, hl, hk, hnd, hra, hn, hm⟩ := hrel
    have hle := nodup_le _ seen hnd hra
    obtain ⟨k, rfl⟩ : ∃ k, gk = k + 1 := ⟨gk - 1, by unfold fuelA at hk; omega⟩
    simp only [leaveN] at hl
    have hlook := hm.map.look b
    by_cases hmem : b ∈ seen
    · rw [if_pos hmem] at hl
      have hv : seenM seen b = 1 := by unfold seenM; rw [if_pos hmem]
      rw [hv] at hlook
      subst hl
      have HF := Lib.hid hm.hs
      clear hm hnd hra HST
      go_wp2
      go_end0
      exact ⟨rfl, HF.out⟩
    · rw [if_neg hmem] at hl
      have hv : seenM seen b = 0 := by unfold seenM; rw [if_neg hmem]
      rw [hv] at hlook
      have hlk := HSM.step (args := fun L => #[hptr L, iv b]) hm (fun L' h2 h3 => by rw [hptr_eq h2]) (fun L => wlook_wr (L := L) (s := s1) b)
      unfold wlookV at hlk
      cases e : sudogA s1.A b with
      | none =>
        rw [e] at hlk hl
        simp only at hlk hl
        subst hl
        cases e2 : gorA (leaveH s a).A b with
        | none =>
          rw [e2] at hlk
          simp only at hlk
          have HLK := Lib.hid hlk
          clear hm hnd hra HST hlk e e2
          go_wp2_with fail
          refine HLK.out.mono ?_
          rintro e w1 ⟨rfl, h1⟩
          have HF := Lib.hid (h1.hs.alloc (.cells #[iv 0, iv 0, iv 0, iv 0, iv 0, iv 0, iv 0] 36)); clear h1
          go_wp2
          exact bodyPost_ret (results_none rfl _ _ _) rfl ⟨rfl, HF.out⟩
        | some g =>
          rw [e2] at hlk
          simp only at hlk
          obtain ⟨x0, x1, x2, x3, x4, x5, x6, x7, x8, x9⟩ := g
          have HLK := Lib.hid hlk
          clear hm hnd hra HST hlk e e2
          go_wp2_with fail
          refine HLK.out.mono ?_
          rintro e w1 ⟨rfl, h1⟩
          have HF := Lib.hid (h1.hs.alloc (.cells #[iv 0, iv 0, iv 0, iv 0, iv 0, iv 0, iv 0] 36)); clear h1
          go_wp2
          exact bodyPost_ret (results_none rfl _ _ _) rfl ⟨rfl, HF.out⟩
      | some x =>
        rw [e] at hlk hl
        simp only at hlk hl
        obtain ⟨q1, q2⟩ := sudogA_lt hm.hs.wf e
        rw [hn] at q2
        have hnd2 : (seen ++ [b]).Nodup := by
          rw [List.nodup_append]
          exact ⟨hnd, by simp, fun x hx y hy => by simp at hy; subst hy; intro e; subst e; exact hmem hx⟩
        have hra2 : ∀ x ∈ seen ++ [b], 0 ≤ x ∧ x < ((32 * s.A.n : Nat) : Int) := by
          intro x hx
          rcases List.mem_append.1 hx with h | h
          · exact hra x h
          · simp at h; subst h; omega
        have hput := seenM_put seen b hmem
        have hrm1 := fun L => remove_s (L := L) (s := s1) x.chan true b
        have hrm2 := fun L => remove_s (L := L) (s := (removeH s1 x.chan true b).1) x.chan false b
        have hn2 : (removeH (removeH s1 x.chan true b).1 x.chan false b).1.A.n = s.A.n := by rw [removeH_n, removeH_n, hn]
        obtain ⟨x0, x1, x2, x3, x4, x5, x6⟩ := x
        simp only at hl hrm1 hrm2 hn2
        generalize removeH s1 x1 true b = R1 at hl hrm1 hrm2 hn2
        generalize removeH R1.1 x1 false b = R2 at hl hrm2 hn2
        have HLK := Lib.hid hlk; have HL := Lib.hid hl; have HND := Lib.hid hnd2; have HRA := Lib.hid hra2; have HPUT := Lib.hid hput; have HRM1 := Lib.hid hrm1; have HRM2 := Lib.hid hrm2
        have hszb := hm.map.lt
        clear hm hnd hra HST hlk e hl hnd2 hra2 hput hrm1 hrm2 hle hn
        go_wp2_with fail
        refine HLK.out.mono ?_
        rintro e w1 ⟨rfl, h1⟩
        have h2 := h1.new [iv x0, iv x1, iv x2, iv x3, iv x4, iv x5, iv x6] 36
        clear hlook
        have hlook := h2.map.look b
        rw [hv] at hlook
        obtain ⟨o, ho1, ho2⟩ := h2.map.put b 1
        rw [HPUT.out] at ho2
        have hl1 := h1.hs.lt
        have hmb := h1.map.lt
        have h3 := h2.put hsz (fun p hp => by
          rcases List.mem_cons.1 hp with rfl | hp
          · show w1.heap.size ≠ w.heap.size; omega
          · have := hlt.out p hp; omega) ho2
        have H3 := Lib.hid h3
        have c1 := (h3.hs.blk (.head _)).at 1 rfl
        have S1 := Lib.hid (HSM.step (args := fun L => #[hptr L, iv x1, .bool true, iv b]) h3 (fun L' h2 h3 => by rw [hptr_eq h2]) HRM1.out)
        clear h1 h2 ho2 h3 HLK hl1 hmb
        go_wp2_with fail
        refine S1.out.mono ?_
        rintro e w2 ⟨rfl, h1⟩
        clear c1
        have c1 := (h1.hs.blk (.head _)).at 1 rfl
        have S2 := Lib.hid (HSM.step (args := fun L => #[hptr L, iv x1, .bool false, iv b]) h1 (fun L' h2 h3 => by rw [hptr_eq h2]) HRM2.out)
        clear h1 S1 H3
        go_wp2_with fail
        refine S2.out.mono ?_
        rintro e w3 ⟨rfl, h1⟩
        clear c1
        have c6 := (h1.hs.blk (.head _)).at 6 rfl
        have H4 := Lib.hid (h1.sub (V' := V) (fun p hp => .tail _ hp))
        clear h1 S2
        go_wp2
        go_roundg k
        case measure => omega
        case rel => exact ⟨x6, seen ++ [b], R2.1, rfl, HL.out, by rw [List.length_append]; simp; omega, HND.out, HRA.out, hn2, H4.out⟩
end Go.Proofs.YtcnppdbgieaddaaGreat
