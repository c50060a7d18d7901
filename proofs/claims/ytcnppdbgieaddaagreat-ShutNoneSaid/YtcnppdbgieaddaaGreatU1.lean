/- Both heaps: the calls that the benches make, one heap at a time. The statements' bench: a thing is made in both heaps. The statements' bench: a channel, a goroutine of it, by number. The statements' bench, made. -/
import Derived.Test.YtcnppdbgieaddaaGreatQ10
import Derived.Test.YtcnppdbgieaddaaGreatQ9
namespace Go.Proofs.YtcnppdbgieaddaaGreat
open Go.RowKit
set_option linter.unusedVariables false
set_option linter.unusedSimpArgs false
variable {w w' w0 : World} {L : Lay} {R : RLay} {s t : PH} {V : List (Nat × List Value)} {O : List (Value × List Int)}
theorem push_j (h : JS L s R t w0 w V O) (ch : Int) (send : Bool) (x : Int) : Calls Tryz.prog 25 #[hptr L, iv ch, .bool send, iv x] w fun e w' => e = .returned (iv (pushH s ch send x).2) ∧ JS L (pushH s ch send x).1 R t w0 w' V O :=
  h.l (x := [iv ch, .bool send, iv x]) fun L => push_s ch send x
theorem rpush_j (h : JS L s R t w0 w V O) (ch : Int) (send : Bool) (x : Int) : Calls Tryz.prog 132 #[rptr R, iv ch, .bool send, iv x] w fun e w' => e = .returned (iv (pushH t ch send x).2) ∧ JS L s R (pushH t ch send x).1 w0 w' V O :=
  h.r (x := [iv ch, .bool send, iv x]) fun R => rpush_s ch send x
theorem putSudog_j (h : JS L s R t w0 w V O) (a : Int) (c : PSudog) (hv : I64 c.value) : Calls Tryz.prog 22 #[hptr L, iv a, c.v] w fun e w' => e = .returned (iv (putSudogH s a c).2) ∧ JS L (putSudogH s a c).1 R t w0 w' V O :=
  h.l (x := [iv a, c.v]) fun L => putSudog_s a c hv
theorem rputSudog_j (h : JS L s R t w0 w V O) (a : Int) (c : PSudog) (hv : I64 c.value) : Calls Tryz.prog 131 #[rptr R, iv a, c.v] w fun e w' => e = .returned (iv (putSudogH t a c).2) ∧ JS L s R (putSudogH t a c).1 w0 w' V O :=
  h.r (x := [iv a, c.v]) fun R => rputSudog_s a c hv
theorem rgor_j (h : JS L s R t w0 w V O) (a : Int) : Calls Tryz.prog 130 #[rptr R, iv a] w fun e w' => e = .returned (.tuple #[(gorR t.A a).1.v, iv (gorR t.A a).2]) ∧ JS L s R t w0 w' V O :=
  h.r (x := [iv a]) fun R => rgor_s a
theorem park_j (h : JS L s R t w0 w V O) (g : Int) (l : List Int) (hl : l.length ≤ 4096) {v : Value} (hv : (v, l) ∈ O) : Calls Tryz.prog 26 #[hptr L, iv g, v] w fun e w' => e = .returned (iv (parkH s g l).2) ∧ JS L (parkH s g l).1 R t w0 w' V O := by
  obtain ⟨L', e1, e2, hh, hs, hb⟩ := h.hs
  rw [← e1]
  exact (park_s (L := L') g l hl v w w _ hh (hs _ hv)).mono fun e w' q => ⟨q.1, hb _ _ _ (q.2.sub (V' := V) fun p hp => List.mem_append.2 (.inl hp)) fun p hp => .inl hp⟩
theorem rpark_j (h : JS L s R t w0 w V O) (g : Int) (l : List Int) (hl : l.length ≤ 4096) {v : Value} (hv : (v, l) ∈ O) : Calls Tryz.prog 133 #[rptr R, iv g, v] w fun e w' => e = .returned (iv (rparkH t g l).2) ∧ JS L s R (rparkH t g l).1 w0 w' V O := by
  obtain ⟨R', e1, e2, hh, hs, hb⟩ := h.rs
  rw [← e1]
  exact (rpark_s (R := R') g l hl v w w _ hh (hs _ hv)).mono fun e w' q => ⟨q.1, hb _ _ _ (q.2.sub (V' := V) fun p hp => List.mem_append.2 (.inl hp)) fun p hp => .inl hp⟩

/-- One who waits at the Ith channel. -/
def sudW (g v tgt : Int) (i : Nat) (ch : Int) (send : Bool) : PSudog := ⟨g, ch, wrap64 (v + 2 * i), -1, wrap64 (tgt + i), if send = true then -1 else i, -1⟩
def waitOne (s : PH) (g v tgt : Int) (i : Nat) (ch : Int) (send : Bool) : PH × Int :=
  ((pushH (putSudogH (allocB s 3 7).2 (allocB s 3 7).1 (sudW g v tgt i ch send)).1 ch send (allocB s 3 7).1).1, (allocB s 3 7).1)
def waitN (s : PH) (g v tgt : Int) (chs : List Int) (sends : List Bool) : Nat → PH × List Int
  | 0 => (s, [])
  | p + 1 => ((waitOne (waitN s g v tgt chs sends p).1 g v tgt p (nthI chs p) (sends.getD p false)).1, (waitN s g v tgt chs sends p).2 ++ [(waitOne (waitN s g v tgt chs sends p).1 g v tgt p (nthI chs p) (sends.getD p false)).2])
theorem waitN_len (s : PH) (g v tgt : Int) (chs : List Int) (sends : List Bool) : ∀ p, (waitN s g v tgt chs sends p).2.length = p
  | 0 => rfl
  | p + 1 => by simp only [waitN, List.length_append, List.length_singleton, waitN_len s g v tgt chs sends p]
/-- A goroutine that may go waits. -/
def waitH (s : PH) (g : Int) (chs : List Int) (sends : List Bool) (v tgt : Int) : PH :=
  if (gorR s.A g).1.status ≠ 0 then s else (parkH (waitN s g v tgt chs sends chs.length).1 g (waitN s g v tgt chs sends chs.length).2).1
theorem pop_j (h : JS L s R t w0 w V O) (ch : Int) (send : Bool) : Calls Tryz.prog 107 #[hptr L, iv ch, .bool send] w fun e w' => e = .returned (.tuple #[iv (popH s ch send).2.1, .bool (popH s ch send).2.2]) ∧ JS L (popH s ch send).1 R t w0 w' V O :=
  h.l (x := [iv ch, .bool send]) fun L => pop_s ch send
theorem wake_j (h : JS L s R t w0 w V O) (x v : Int) (hv : I64 v) : Calls Tryz.prog 28 #[hptr L, iv x, iv v] w fun e w' => e = .returned (.tuple #[iv (wakeH s x v).2.1, iv (wakeH s x v).2.2]) ∧ JS L (wakeH s x v).1 R t w0 w' V O :=
  h.l (x := [iv x, iv v]) fun L => wake_s x v hv
theorem gor_j (h : JS L s R t w0 w V O) (a : Int) : Calls Tryz.prog 29 #[hptr L, iv a] w fun e w' => e = .returned (.tuple #[(gorR s.A a).1.v, iv (gorR s.A a).2]) ∧ JS L s R t w0 w' V O :=
  h.l (x := [iv a]) fun L => gor_s a
/-- Begin with no roots, the heap by itself. -/
theorem begin0_j (h : JS L s R t w0 w V O) : Calls Tryz.prog 27 #[hptr L, .slice none 0 0] w fun e w' => e = .returned (iv (beginH s []).2) ∧ JS L (beginH s []).1 R t w0 w' V O :=
  h.l (x := [.slice none 0 0]) fun L => fun w0 w V h => h.write fun L' h1 h2 h3 => by rw [← hptr_eq h2]; exact hbegin_c w h1 (.inl ⟨rfl, rfl⟩) (by simp) (fun b e => by cases e)
theorem colour_j (h : JS L s R t w0 w V O) (a : Int) : Calls Tryz.prog 30 #[hptr L, iv a] w fun e w' => e = .returned (iv (colourH s a)) ∧ JS L s R t w0 w' V O :=
  h.l (x := [iv a]) fun L => colour_s a
theorem lall_j (h : JS L s R t w0 w V O) (ch : Int) (send : Bool) : Calls Tryz.prog 31 #[hptr L, iv ch, .bool send] w fun e w' => JS L s R t w0 w' V O ∧ ∃ v, e = .returned v ∧ IntsAt w' v (allA s.A ch send) := by
  obtain ⟨L', e1, e2, hh, _, hb⟩ := h.hs
  rw [← e1]
  exact (lall_s (L := L') ch send w w V (hh.sub fun p hp => List.mem_append.2 (.inl hp))).mono fun e w' q => ⟨hb _ _ _ q.1 fun p hp => .inl hp, q.2⟩
theorem park_jv (h : JS L s R t w0 w V O) (g x : Int) {b : Nat} (hb : (b, [iv x]) ∈ V) : Calls Tryz.prog 26 #[hptr L, iv g, .slice (some ⟨b, 0, none⟩) 1 1] w fun e w' => e = .returned (iv (parkH s g [x]).2) ∧ JS L (parkH s g [x]).1 R t w0 w' V O := by
  obtain ⟨L', e1, e2, hh, hs, hb2⟩ := h.hs
  rw [← e1]
  have hv : SlV V (.slice (some ⟨b, 0, none⟩) 1 1) [x] := ⟨some ⟨b, 0, none⟩, 1, rfl, fun i y hi => ⟨b, [iv x], rfl, hb, by
    match i, hi with
    | 0, hi => simp at hi; subst hi; rfl⟩⟩
  exact (park_s (L := L') g [x] (by simp) _ w w _ (hh.sub (V' := V) fun p hp => List.mem_append.2 (.inl hp)) hv).mono fun e w' q => ⟨q.1, hb2 _ _ _ q.2 fun p hp => .inl hp⟩
/-- A block that is nobody's becomes a slice of one's own. -/
theorem JS.toO {b : Nat} {cs : List Value} {v : Value} {l : List Int} (h : JS L s R t w0 w ((b, cs) :: V) O) (hV : ∀ p ∈ V, p.1 ≠ b) (hv : v.ownBlock = some b) (ho : w.ownsRow w0.heap.size 3 1 v l.length (intsV l)) : JS L s R t w0 w V ((v, l) :: O) := by
  obtain ⟨L', R', a, c, c1, c2, c3, vv, o, pw⟩ := h
  have hb := vv (b, cs) (by simp)
  refine ⟨L', R', a, c, c1, c2, c3, fun p hp => vv p (List.mem_cons_of_mem _ hp), fun q hq => ?_, .cons (fun q hq b' e e2 => ?_) pw⟩
  · rcases List.mem_cons.1 hq with rfl | hq
    · exact ⟨ho, fun b' e => by rw [hv] at e; cases e; exact ⟨hb.2.1, hb.2.2, hV⟩⟩
    · exact ⟨(o q hq).1, fun b' e => ⟨((o q hq).2 b' e).1, ((o q hq).2 b' e).2.1, fun p hp => ((o q hq).2 b' e).2.2 p (List.mem_cons_of_mem _ hp)⟩⟩
  · rw [hv] at e; cases e
    exact ((o q hq).2 _ e2).2.2 (b, cs) (by simp) rfl
/-- A channel is closed. -/
theorem shut_j (d : Nat) (hd : d ≤ 1000000) (h : JS L s R t w0 w V O) (x : Int) (hx : I64 x) (X : PH × List Int × Int) (hX : shutH d s x = some X) : Calls Tryz.prog 34 #[hptr L, iv x] w fun e w' => ∃ v, e = .returned (.tuple #[v, iv X.2.2]) ∧ JS L X.1 R t w0 w' V ((v, X.2.1) :: O) := by
  have hsz := h.size
  have hlt := h.vlt
  obtain ⟨L', e1, e2, hh, _, hb⟩ := h.hs
  rw [← e1]
  refine (shut_s d hd x hx X hX w w V (hh.sub fun p hp => List.mem_append.2 (.inl hp))).mono ?_
  rintro e w' ⟨v, rfl, q⟩
  refine ⟨v, rfl, ?_⟩
  have hs := q.hs
  have ho := q.own
  obtain ⟨L2, h1, h2, h3, h4, h5, h6, h7⟩ := q
  cases ev : v.ownBlock with
  | none =>
    have j := hb _ _ _ hs fun p hp => .inl hp
    obtain ⟨k1, ⟨rfl, k3⟩ | ⟨g, cap, cur, rfl, _⟩⟩ := ho
    · have : X.2.1 = [] := List.eq_nil_of_length_eq_zero k3
      rw [this]; exact j.nilO
    · cases ev
  | some b =>
    have k := ho.lt b ev
    obtain ⟨k1, k2⟩ := (ownsRow_blk ho)
    have hg : ∃ cs, Blk w' b cs := by
      obtain ⟨z1, ⟨rfl, z3⟩ | ⟨g, cap, cur, rfl, zb, zg, zz⟩⟩ := ho
      · cases ev
      · cases ev; exact ⟨cur.toList, _, by simpa using zg⟩
    obtain ⟨cs, hcs⟩ := hg
    have j := hb _ w' ((b, cs) :: V) ⟨L2, h1, h2, h3, h4, fun p hp => by
      rcases List.mem_cons.1 hp with rfl | hp
      · exact ⟨hcs, (h6 b ev).1⟩
      · exact h5 p hp⟩ fun p hp => by
        rcases List.mem_cons.1 hp with rfl | hp
        · exact .inr k.1
        · exact .inl hp
    exact j.toO (fun p hp => (h6 b ev).2 p hp) ev (ownsRow_low ho hsz)
/-- Park with nobody. -/
theorem park_j0 (h : JS L s R t w0 w V O) (g : Int) : Calls Tryz.prog 26 #[hptr L, iv g, .slice none 0 0] w fun e w' => e = .returned (iv (parkH s g []).2) ∧ JS L (parkH s g []).1 R t w0 w' V O := by
  obtain ⟨L', e1, e2, hh, hs, hb2⟩ := h.hs
  rw [← e1]
  exact (park_s (L := L') g [] (by simp) _ w w _ (hh.sub (V' := V) fun p hp => List.mem_append.2 (.inl hp)) SlV.nil).mono fun e w' q => ⟨q.1, hb2 _ _ _ q.2 fun p hp => .inl hp⟩
theorem chan_j (h : JS L s R t w0 w V O) (a : Int) : Calls Tryz.prog 40 #[hptr L, iv a] w fun e w' => e = .returned (.tuple #[(chanR s.A a).1.v, iv (chanR s.A a).2]) ∧ JS L s R t w0 w' V O :=
  h.l (x := [iv a]) fun L => chan_s a
end Go.Proofs.YtcnppdbgieaddaaGreat

namespace Go.Proofs.YtcnppdbgieaddaaGreat
open Go.RowKit
set_option linter.unusedVariables false
set_option linter.unusedSimpArgs false
variable {w w' w0 : World} {L : Lay} {R : RLay} {s t : PH} {V : List (Nat × List Value)} {O : List (Value × List Int)}
namespace Law17
set_option maxHeartbeats 1000000 in
theorem alloc_j {bb : Nat} {cv gv : Value} (hb : (bb, [hptr L, rptr R, cv, gv]) ∈ V) (k n : Int) (h : JS L s R s w0 w V O) :
    Calls Tryz.prog 126 #[.pointer (some ⟨bb, 0, none⟩), iv k, iv n] w fun e w' => e = .returned (iv (allocB s k n).1) ∧ JS L (allocB s k n).2 R (allocB s k n).2 w0 w' V O := by
  have h1 := h.l (x := [iv k, iv n]) fun L => halloc_s k n
  have h2 : ∀ w1, JS L (allocH s k n).2 R s w0 w1 V O → _ := fun w1 j => j.r (x := [iv k, iv n]) fun R => rhalloc_s k n
  have hB := Lib.hid (fun (s t : PH) w1 (j : JS L s R t w0 w1 V O) => (⟨(j.blk hb).at 0 rfl, (j.blk hb).at 1 rfl⟩ : w1.cell? ⟨bb, 0, none⟩ = some (hptr L) ∧ w1.cell? ⟨bb, 1, none⟩ = some (rptr R)))
  obtain ⟨k0, k1⟩ := hB.out _ _ _ h
  unfold allocB
  generalize allocH s k n = x at h1 h2 ⊢
  obtain ⟨⟨a, e⟩, s'⟩ := x
  simp only at h1 h2 ⊢
  have H1 := Lib.hid h1; have H2 := Lib.hid h2
  by_cases e0 : e = 0
  · subst e0
    simp only [if_true]
    clear h1 h2 h hb
    go_enter Tryz.func126, Tryz.ntmps126
    go_wp2_with fail
    refine H1.out.mono ?_
    rintro e w1 ⟨rfl, j1⟩
    obtain ⟨_, k3⟩ := hB.out _ _ _ j1
    have S2 := Lib.hid (H2.out _ j1); clear j1 k0 k1 H1 H2
    go_wp2_with fail
    refine S2.out.mono ?_
    rintro e w2 ⟨rfl, j2⟩
    have J2 := Lib.hid j2; clear j2
    go_wp2
    go_ret
    exact ⟨rfl, J2.out⟩
  · rw [if_neg e0]
    have t1 : (e != 0) = true := by simpa using e0
    clear h1 h2 h hb e0
    go_enter Tryz.func126, Tryz.ntmps126
    go_wp2_with fail
    refine H1.out.mono ?_
    rintro e w1 ⟨rfl, j1⟩
    obtain ⟨_, k3⟩ := hB.out _ _ _ j1
    have S2 := Lib.hid (H2.out _ j1); clear j1 k0 k1 H1 H2
    go_wp2_with fail
    refine S2.out.mono ?_
    rintro e w2 ⟨rfl, j2⟩
    have J2 := Lib.hid j2; clear j2
    go_wp2
    go_ret
    exact ⟨rfl, J2.out⟩
end Law17
end Go.Proofs.YtcnppdbgieaddaaGreat

namespace Go.Proofs.YtcnppdbgieaddaaGreat
open Go.RowKit
set_option linter.unusedVariables false
set_option linter.unusedSimpArgs false
variable {w w' w0 : World} {L : Lay} {R : RLay} {s t : PH} {V : List (Nat × List Value)} {O : List (Value × List Int)}
namespace Law17
/-- The bench lies at bb: its channels, its goroutines. -/
structure Ben (L : Lay) (R : RLay) (bb : Nat) (chans gors : List Int) (w : World) : Prop where
  blk : ∃ cv gv, Blk w bb [hptr L, rptr R, cv, gv] ∧ IntsAt w cv chans ∧ IntsAt w gv gors
variable {bb : Nat} {chans gors : List Int}
theorem Ben.ext (h : Ben L R bb chans gors w) (he : Ext w w') : Ben L R bb chans gors w' := by
  obtain ⟨cv, gv, h1, h2, h3⟩ := h.blk
  exact ⟨cv, gv, h1.keep (he.toBelow.block _ h1.lt), h2.below he.toBelow, h3.below he.toBelow⟩
/-- The number of a thing among so many, by any number. -/
def n64 (n : Int) : Nat := (n % 18446744073709551616).toNat
def pickI (l : List Int) (n : Int) : Int := nthI l (n64 n % l.length)
theorem gor_b (h : Ben L R bb chans gors w) (n : Int) (hn : I64 n) (hg : 0 < gors.length) (hg2 : gors.length < 1000) : Calls Tryz.prog 35 #[.pointer (some ⟨bb, 0, none⟩), iv n] w fun e w' => e = .returned (iv (pickI gors n)) ∧ Ext w w' := by
  obtain ⟨cv, gv, h1, _, h3⟩ := h.blk
  have k3 := h1.at 3 rfl
  have hlt : n64 n % gors.length < gors.length := Nat.mod_lt _ hg
  obtain ⟨b, off, cap, rfl, hb, hc⟩ := h3.cell hlt
  have hp : Hid (pickI gors n = gors[n64 n % gors.length]) := by unfold Hid pickI nthI; rw [List.getD_eq_getElem?_getD, List.getElem?_eq_getElem hlt]; rfl
  have e1 : IntKind.u64.wrap n = (n64 n : Int) := by unfold n64; show n % 18446744073709551616 = _; rw [Int.toNat_of_nonneg (Int.emod_nonneg _ (by decide))]
  have e2 : IntKind.u64.wrap (gors.length : Int) = (gors.length : Int) := by show (gors.length : Int) % 18446744073709551616 = _; exact Int.emod_eq_of_lt (by omega) (by omega)
  have hu0 : (0 : Int) ≤ (n64 n : Int) := by omega
  have e3 : ((n64 n : Int)).tmod (gors.length : Int) = ((n64 n % gors.length : Nat) : Int) := by rw [Int.tmod_eq_emod_of_nonneg hu0]; exact (Int.natCast_emod _ _).symm
  have e4 : ((n64 n : Int)) % (gors.length : Int) = ((n64 n % gors.length : Nat) : Int) := (Int.natCast_emod _ _).symm
  have t1 : ((gors.length : Int) == 0) = false := by rw [beq_eq_false_iff_ne]; omega
  generalize gors[n64 n % gors.length] = y at hc hp
  generalize n64 n % gors.length = i at hc e3 e4 hlt
  have hlt' : (i : Int) < gors.length := by omega
  have hi : i < 1000 := by omega
  have e5 : IntKind.i64.wrap (i : Int) = i := IntWalk.i64_in _ (by omega)
  clear h h1 h3 hu0
  go_enter Tryz.func35, Tryz.ntmps35
  go_wp2
  go_quiet (fail)
  go_wp2
  go_ret
  exact ⟨ret_eq (by rw [hp.out]; rfl), (Ext.refl _).drewN _⟩
theorem ch_b (h : Ben L R bb chans gors w) (n : Int) (hn : I64 n) (hg : 0 < chans.length) (hg2 : chans.length < 1000) : Calls Tryz.prog 97 #[.pointer (some ⟨bb, 0, none⟩), iv n] w fun e w' => e = .returned (iv (pickI chans n)) ∧ Ext w w' := by
  obtain ⟨cv, gv, h1, h3, _⟩ := h.blk
  have k3 := h1.at 2 rfl
  have hlt : n64 n % chans.length < chans.length := Nat.mod_lt _ hg
  obtain ⟨b, off, cap, rfl, hb, hc⟩ := h3.cell hlt
  have hp : Hid (pickI chans n = chans[n64 n % chans.length]) := by unfold Hid pickI nthI; rw [List.getD_eq_getElem?_getD, List.getElem?_eq_getElem hlt]; rfl
  have e1 : IntKind.u64.wrap n = (n64 n : Int) := by unfold n64; show n % 18446744073709551616 = _; rw [Int.toNat_of_nonneg (Int.emod_nonneg _ (by decide))]
  have e2 : IntKind.u64.wrap (chans.length : Int) = (chans.length : Int) := by show (chans.length : Int) % 18446744073709551616 = _; exact Int.emod_eq_of_lt (by omega) (by omega)
  have hu0 : (0 : Int) ≤ (n64 n : Int) := by omega
  have e3 : ((n64 n : Int)).tmod (chans.length : Int) = ((n64 n % chans.length : Nat) : Int) := by rw [Int.tmod_eq_emod_of_nonneg hu0]; exact (Int.natCast_emod _ _).symm
  have e4 : ((n64 n : Int)) % (chans.length : Int) = ((n64 n % chans.length : Nat) : Int) := (Int.natCast_emod _ _).symm
  have t1 : ((chans.length : Int) == 0) = false := by rw [beq_eq_false_iff_ne]; omega
  have t2 : (chans.length == 0) = false := by rw [beq_eq_false_iff_ne]; omega
  generalize chans[n64 n % chans.length] = y at hc hp
  generalize n64 n % chans.length = i at hc e3 e4 hlt
  have hlt' : (i : Int) < chans.length := by omega
  have hi : i < 1000 := by omega
  have e5 : IntKind.i64.wrap (i : Int) = i := IntWalk.i64_in _ (by omega)
  clear h h1 h3 hu0
  go_enter Tryz.func97, Tryz.ntmps97
  go_wp2
  go_quiet (fail)
  go_wp2
  go_ret
  exact ⟨ret_eq (by rw [hp.out]; rfl), (Ext.refl _).drewN _⟩
theorem ben_of {cv gv : Value} (h : JS L s R t w0 w V O) (hb : (bb, [hptr L, rptr R, cv, gv]) ∈ V) (hc : (cv, chans) ∈ O) (hg : (gv, gors) ∈ O) : Ben L R bb chans gors w :=
  ⟨cv, gv, h.blk hb, h.ints hc, h.ints hg⟩
end Law17
end Go.Proofs.YtcnppdbgieaddaaGreat

namespace Go.Proofs.YtcnppdbgieaddaaGreat
open Go.RowKit
set_option linter.unusedVariables false
set_option linter.unusedSimpArgs false
variable {w w' w0 : World} {L : Lay} {R : RLay} {s t : PH} {V : List (Nat × List Value)} {O : List (Value × List Int)}
namespace Law17
variable {bb : Nat} {chans gors : List Int}
def chan0 (k b : Int) : PChan := ⟨k, 0, 0, 0, b, -1, -1, -1, -1⟩
/-- A channel of so many is made: the heap, its place. -/
def chanB (s : PH) (k : Int) : PH × Int :=
  let a := allocB s 1 9
  let b := if 0 < k then allocB a.2 2 k else (-1, a.2)
  ((putChanH b.2 a.1 (chan0 k b.1)).1, a.1)
def chansB (s : PH) : List Int → PH × List Int
  | [] => (s, [])
  | k :: l => ((chansB (chanB s (k % 4)).1 l).1, (chanB s (k % 4)).2 :: (chansB (chanB s (k % 4)).1 l).2)
def gor0 (i : Int) : PGor := ⟨i, 0, 0, 0, 0, 0, 0, 0, 0, -1⟩
def gorB (s : PH) (i : Int) : PH × Int := ((putGorH (allocB s 4 10).2 (allocB s 4 10).1 (gor0 i)).1, (allocB s 4 10).1)
def gorsB (s : PH) : Nat → PH × List Int
  | 0 => (s, [])
  | d + 1 => ((gorB (gorsB s d).1 d).1, (gorsB s d).2 ++ [(gorB (gorsB s d).1 d).2])
theorem gorsB_len : ∀ (d : Nat) (s : PH), (gorsB s d).2.length = d
  | 0, s => rfl
  | d + 1, s => by simp only [gorsB, List.length_append, List.length_singleton, gorsB_len d]
def heap0 : PH := { A := AS.empty 60, m := fun _ => 0, l := [], over := false, phase := 0, span := 0, cycles := 0 }
def madeB (caps : List Int) (n : Int) : PH × List Int × List Int :=
  ((gorsB (chansB heap0 (caps.take 4)).1 (1 + n64 n % 6)).1, (chansB heap0 (caps.take 4)).2, (gorsB (chansB heap0 (caps.take 4)).1 (1 + n64 n % 6)).2)
theorem chansB_snoc : ∀ (l : List Int) (s : PH) (k : Int), chansB s (l ++ [k]) = ((chanB (chansB s l).1 (k % 4)).1, (chansB s l).2 ++ [(chanB (chansB s l).1 (k % 4)).2])
  | [], s, k => rfl
  | x :: l, s, k => by simp only [List.cons_append, chansB, chansB_snoc l]
theorem chansB_len : ∀ (l : List Int) (s : PH), (chansB s l).2.length = l.length
  | [], s => rfl
  | x :: l, s => by simp only [chansB, List.length_cons, chansB_len l]
/-- A bench: one heap in both, its channels, its goroutines; what else was there stands as it stood. -/
def BJ (L : Lay) (R : RLay) (s : PH) (bb : Nat) (chans gors : List Int) (w0 w : World) (V : List (Nat × List Value)) (O : List (Value × List Int)) : Prop :=
  ∃ cv gv, w0.heap.size ≤ bb ∧ JS L s R s w0 w ((bb, [hptr L, rptr R, cv, gv]) :: V) ((cv, chans) :: (gv, gors) :: O)
def MadePost (caps : List Int) (n : Int) (w : World) (e : Ending) (w' : World) : Prop :=
  ∃ L R bb, e = .returned (.pointer (some ⟨bb, 0, none⟩)) ∧ BJ L R (madeB caps n).1 bb (madeB caps n).2.1 (madeB caps n).2.2 w w' [] []

set_option maxRecDepth 100000 in
set_option maxHeartbeats 4000000 in
theorem made_j (caps : List Int) (v : Value) (hv : IntsAt w v caps) (hcaps : ∀ x ∈ caps, I64 x) (hlen : caps.length ≤ 1000000) (n : Int) (hn : I64 n) : Calls Tryz.prog 32 #[v, iv n] w (MadePost caps n w) := by
  have hh := heap_new_c 60 (by omega) (by omega) w
  have hr := fun w1 => rheap_new_c 60 (by omega) (by omega) w1
  obtain ⟨o, cap, hvf⟩ := hv.form
  subst hvf
  have HH := Lib.hid hh; have HR := Lib.hid hr; have HV := Lib.hid hv; have HCAPS := Lib.hid hcaps
  clear hh hr hv hcaps
  unfold MadePost
  go_enter Tryz.func32, Tryz.ntmps32
  go_wp2_with fail
  refine HH.out.mono ?_
  rintro e w1 ⟨L, rfl, hL, hLf, b1⟩
  have BL := Lib.hid hL; have BF := Lib.hid hLf; have B1 := Lib.hid b1
  have hsz1 := b1.size
  clear hL hLf b1 HH
  go_wp2_with fail
  refine (HR.out w1).mono ?_
  rintro e w2 ⟨R, rfl, hR, hRf, b2⟩
  have hJ : JS L heap0 R heap0 w w2 [] [] := JS.start (BL.out.below b2) hR (B1.out.trans (b2.mono hsz1)) (fun b hb => ⟨fun hm => by have := BL.out.lt b hb; have := hRf b hm; omega, BF.out b hb⟩) (fun b hb => by have := hRf b hb; omega)
  have har := hJ.arena
  have HAR := Lib.hid har
  clear hR hRf b2 BL BF B1 hJ HR hsz1 har
  go_wp2_with fail
  refine HAR.out.mono ?_
  rintro e w3 ⟨rfl, j3⟩
  have hs3 := j3.size
  have j4 : BJ L R heap0 w3.heap.size [] [] w (w3.alloc (.cells #[hptr L, rptr R, .slice none 0 0, .slice none 0 0] 54)) [] [] := ⟨_, _, hs3, ((j3.new [hptr L, rptr R, .slice none 0 0, .slice none 0 0] 54).nilO).nilO⟩
  have hbb : w3.heap.size < (w3.alloc (.cells #[hptr L, rptr R, .slice none 0 0, .slice none 0 0] 54)).heap.size := by rw [World.size_alloc]; omega
  have J4 := Lib.hid j4
  clear HAR j3 j4
  go_wp2_with fail
  go_loopw [10] (fun v10 wr => ∃ p : Nat, p ≤ caps.length ∧ p ≤ 4 ∧ v10 = iv p ∧ Hid (BJ L R (chansB heap0 (caps.take p)).1 w3.heap.size (chansB heap0 (caps.take p)).2 [] w wr [] [])) (fun v10 _ => 4 - (intOf v10).toNat)
  case atStart => exact ⟨0, Nat.zero_le _, Nat.zero_le _, rfl, J4⟩
  case round =>
    obtain ⟨p, hp, hp4, rfl, hj⟩ := hrel
    clear J4
    by_cases hlt : p < caps.length ∧ p < 4
    · obtain ⟨hlt, hlt4⟩ := hlt
      obtain ⟨b, off, cap', hvb, hbl, hc⟩ := HV.out.cell hlt
      cases hvb
      obtain ⟨cv, gv, hbb2, j⟩ := hj.out
      have hcell : wr.cell? ⟨b, off + p, none⟩ = some (iv caps[p]) := by rw [World.cell?_of_block (j.past.block b hbl)]; exact hc
      have hst : chansB heap0 (caps.take (p + 1)) = ((chanB (chansB heap0 (caps.take p)).1 (caps[p] % 4)).1, (chansB heap0 (caps.take p)).2 ++ [(chanB (chansB heap0 (caps.take p)).1 (caps[p] % 4)).2]) := by
        rw [List.take_succ_eq_append_getElem hlt, chansB_snoc]
      have hx64 := HCAPS.out caps[p] (List.getElem_mem hlt)
      have e1 : IntKind.u64.wrap caps[p] = (n64 caps[p] : Int) := by unfold n64; show caps[p] % 18446744073709551616 = _; rw [Int.toNat_of_nonneg (Int.emod_nonneg _ (by decide))]
      have hu0 : (0 : Int) ≤ (n64 caps[p] : Int) := by omega
      have e4 : (n64 caps[p] : Int) % 4 = caps[p] % 4 := by unfold n64; rw [Int.toNat_of_nonneg (Int.emod_nonneg _ (by decide))]; omega
      have e3 : (n64 caps[p] : Int).tmod 4 = caps[p] % 4 := by rw [Int.tmod_eq_emod_of_nonneg hu0]; exact e4
      have hk0 : 0 ≤ caps[p] % 4 ∧ caps[p] % 4 < 4 := by omega
      obtain ⟨hk0, hk4⟩ := hk0
      have e5 : IntKind.i64.wrap (caps[p] % 4) = caps[p] % 4 := IntWalk.i64_in _ (by omega)
      have hcl4 : (chansB heap0 (caps.take p)).2.length ≤ 4 := by rw [chansB_len, List.length_take]; omega
      generalize chansB heap0 (caps.take p) = X at j hst hcl4
      obtain ⟨s, chans⟩ := X
      simp only at j hst hcl4
      have HST := Lib.hid hst; clear hst
      generalize caps[p] % 4 = k at e3 e4 e5 hk0 hk4 HST
      generalize caps[p] = x at hcell e1 e3 e4 hx64 hu0
      have hal1 := fun w1 (he : Ext wr w1) => alloc_j (w := w1.alloc (.cells #[iv k, iv 0, iv 0, iv 0, iv (-1), iv (-1), iv (-1), iv (-1), iv (-1)] 63)) (.tail _ (.head _)) 1 9 ((j.ext he).new [iv k, iv 0, iv 0, iv 0, iv (-1), iv (-1), iv (-1), iv (-1), iv (-1)] 63)
      have HAL1 := Lib.hid (hal1 wr (Ext.refl _))
      have hsz := j.size
      have hvlt := Lib.hid j.vlt
      have hp4' : (p : Int) < 4 := by omega
      have hpl' : (p : Int) < caps.length := by omega
      clear hc hal1 j hj hu0 hx64
      have hcB : chanB s k = if 0 < k then ((putChanH (allocB (allocB s 1 9).2 2 k).2 (allocB s 1 9).1 (chan0 k (allocB (allocB s 1 9).2 2 k).1)).1, (allocB s 1 9).1) else ((putChanH (allocB s 1 9).2 (allocB s 1 9).1 (chan0 k (-1))).1, (allocB s 1 9).1) := by
        unfold chanB; split <;> rfl
      rw [hcB] at HST
      clear hcB
      generalize allocB s 1 9 = A1 at HAL1 HST
      obtain ⟨at', s1⟩ := A1
      simp only at HAL1 HST
      by_cases hk : 0 < k
      · rw [if_pos hk] at HST
        have t1 : decide (k > 0) = true := by simpa using hk
        go_wp2_with fail
        refine HAL1.out.mono ?_
        rintro e w4 ⟨rfl, j4⟩
        obtain ⟨c0, c1, c2, c3, c4, c5, c6, c7, c8⟩ := j4.nine (.head _)
        have f4 := (j4.blk (.head _)).free 4
        have hal2 := alloc_j (.tail _ (.head _)) 2 k j4
        generalize allocB s1 2 k = A2 at hal2 HST
        obtain ⟨buf, s2⟩ := A2
        simp only at hal2 HST
        have HAL2 := Lib.hid hal2
        clear hal2 HAL1 j4
        go_wp2_with fail
        refine HAL2.out.mono ?_
        rintro e w5 ⟨rfl, j5⟩
        clear c0 c1 c2 c3 c4 c5 c6 c7 c8 f4
        obtain ⟨c0, c1, c2, c3, c4, c5, c6, c7, c8⟩ := j5.nine (.head _)
        have f4 := (j5.blk (.head _)).free 4
        have j5b := j5.set hsz (by simp; exact Nat.ne_of_lt (hvlt.out _ (.head _))) 4 (iv buf)
        have J5 := Lib.hid (show JS L s2 R s2 w (w5.setCell ⟨wr.heap.size, 4, none⟩ (iv buf)) ((wr.heap.size, [iv k, iv 0, iv 0, iv 0, iv buf, iv (-1), iv (-1), iv (-1), iv (-1)]) :: (w3.heap.size, [hptr L, rptr R, cv, gv]) :: []) ((cv, chans) :: (gv, []) :: []) from j5b)
        clear j5 j5b HAL2
        have jx := J5.out
        generalize hW : w5.setCell ⟨wr.heap.size, 4, none⟩ (iv buf) = W5 at jx
        subst hW
        clear c0 c1 c2 c3 c5 c6 c7 c8
        obtain ⟨c0, c1, c2, c3, c4, c5, c6, c7, c8⟩ := jx.nine (.head _)
        have hp1 := fun w' (he : Ext (w5.setCell ⟨wr.heap.size, 4, none⟩ (iv buf)) w') => (jx.ext he).l (x := [iv at', (chan0 k buf).v]) fun L => putChan_s at' (chan0 k buf)
        have hp2 := fun s' w' (jj : JS L s' R s2 w w' ((wr.heap.size, [iv k, iv 0, iv 0, iv 0, iv buf, iv (-1), iv (-1), iv (-1), iv (-1)]) :: (w3.heap.size, [hptr L, rptr R, cv, gv]) :: []) ((cv, chans) :: (gv, []) :: [])) => jj.r (x := [iv at', (chan0 k buf).v]) fun R => rputChan_s at' (chan0 k buf)
        generalize putChanH s2 at' (chan0 k buf) = X3 at hp1 hp2 HST
        obtain ⟨s3, er⟩ := X3
        simp only [chan0] at hp1 hp2
        have HP1 := Lib.hid hp1; have HP2 := Lib.hid hp2
        clear hp1 hp2 jx
        go_wp2_with fail
        go_region_held3 (fun w' => w'.cell? ⟨wr.heap.size, 0, none⟩ = some (iv k) ∧ w'.cell? ⟨wr.heap.size, 1, none⟩ = some (iv 0) ∧ w'.cell? ⟨wr.heap.size, 2, none⟩ = some (iv 0) ∧ w'.cell? ⟨wr.heap.size, 3, none⟩ = some (iv 0) ∧ w'.cell? ⟨wr.heap.size, 4, none⟩ = some (iv buf) ∧ w'.cell? ⟨wr.heap.size, 5, none⟩ = some (iv (-1)) ∧ w'.cell? ⟨wr.heap.size, 6, none⟩ = some (iv (-1)) ∧ w'.cell? ⟨wr.heap.size, 7, none⟩ = some (iv (-1)) ∧ w'.cell? ⟨wr.heap.size, 8, none⟩ = some (iv (-1))) (first | exact j7.nine (.head _) | exact j6.nine (.head _) | go_keep) (first | (go_at_call 42; refine (HP1.out _ ?_).mono ?_; (repeat (first | exact Ext.refl _ | refine Ext.alloc ?_ _ | refine Ext.drew ?_)); rintro e w6 ⟨rfl, j6⟩) | (go_at_call 103; refine (HP2.out _ _ (j6.ext ?_)).mono ?_; (repeat (first | exact Ext.refl _ | refine Ext.alloc ?_ _ | refine Ext.drew ?_)); rintro e w7 ⟨rfl, j7⟩))
        have kb := j7.blk (.tail _ (.head _))
        have k2 := kb.at 2 rfl
        have hown7 := j7.own (.head _)
        obtain ⟨o4, c4, hv4⟩ := own_form hown7
        simp only at hv4
        subst hv4
        have J7 := Lib.hid j7
        have hs7 := j7.size
        have hlt7 := j7.vlt (w3.heap.size, [hptr L, rptr R, .slice o4 chans.length c4, gv]) (.tail _ (.head _))
        have hcl : chans.length ≤ 4 := by have := hcl4; omega
        clear kb hown7 j7 j6 HP1 HP2
        go_wp2_with (at_builtin; refine wpList_appendI rfl (.tmp 80) (.tmp 82) rfl w.heap.size rfl ((J7.out.own (.head _)).alloc _) rfl (ints_one w7 at' _) (by simp; omega) (by rw [World.size_alloc]; omega) ?_)
        intro v' w8 hown8 hg8 halt8
        have hown8' : w8.ownsRow w.heap.size 3 1 v' (chans ++ [at']).length (intsV (chans ++ [at'])) := by simpa [intsV] using hown8
        have j8 := (J7.out.grow hg8 hown8' (by rw [World.size_alloc]; exact halt8)).sub (V' := [(w3.heap.size, [hptr L, rptr R, .slice o4 chans.length c4, gv])]) (fun p hp => .tail _ hp)
        obtain ⟨o5, c5, hv5⟩ := own_form hown8'
        subst hv5
        have hll : (chans ++ [at']).length = chans.length + 1 := by simp
        rw [hll] at j8
        have kb8 := j8.blk (.head _)
        have k28 := kb8.at 2 rfl
        have f28 := kb8.free 2
        have j9 := j8.set hbb2 (by simp) 2 (.slice o5 (chans.length + 1) c5)
        have HB := Lib.hid (show BJ L R s3 w3.heap.size (chans ++ [at']) [] w _ [] [] from ⟨_, _, hbb2, j9⟩)
        clear j8 j9 kb8 hown8 hown8' hg8 halt8 J7 k2
        go_wp2
        go_roundw
        case rel => exact ⟨p + 1, by omega, by omega, by go_num, by rw [HST.out]; exact HB⟩
        case measure => simp [intOf]; omega
      · rw [if_neg hk] at HST
        obtain rfl : k = 0 := by omega
        go_wp2_with fail
        refine HAL1.out.mono ?_
        rintro e w4 ⟨rfl, jx⟩
        clear HAL1
        obtain ⟨c0, c1, c2, c3, c4, c5, c6, c7, c8⟩ := jx.nine (.head _)
        have hp1 := fun w' (he : Ext w4 w') => (jx.ext he).l (x := [iv at', (chan0 0 (-1)).v]) fun L => putChan_s at' (chan0 0 (-1))
        have hp2 := fun s' w' (jj : JS L s' R s1 w w' ((wr.heap.size, [iv 0, iv 0, iv 0, iv 0, iv (-1), iv (-1), iv (-1), iv (-1), iv (-1)]) :: (w3.heap.size, [hptr L, rptr R, cv, gv]) :: []) ((cv, chans) :: (gv, []) :: [])) => jj.r (x := [iv at', (chan0 0 (-1)).v]) fun R => rputChan_s at' (chan0 0 (-1))
        generalize putChanH s1 at' (chan0 0 (-1)) = X3 at hp1 hp2 HST
        obtain ⟨s3, er⟩ := X3
        simp only [chan0] at hp1 hp2
        have HP1 := Lib.hid hp1; have HP2 := Lib.hid hp2
        clear hp1 hp2 jx
        go_wp2_with fail
        go_region_held3 (fun w' => w'.cell? ⟨wr.heap.size, 0, none⟩ = some (iv 0) ∧ w'.cell? ⟨wr.heap.size, 1, none⟩ = some (iv 0) ∧ w'.cell? ⟨wr.heap.size, 2, none⟩ = some (iv 0) ∧ w'.cell? ⟨wr.heap.size, 3, none⟩ = some (iv 0) ∧ w'.cell? ⟨wr.heap.size, 4, none⟩ = some (iv (-1)) ∧ w'.cell? ⟨wr.heap.size, 5, none⟩ = some (iv (-1)) ∧ w'.cell? ⟨wr.heap.size, 6, none⟩ = some (iv (-1)) ∧ w'.cell? ⟨wr.heap.size, 7, none⟩ = some (iv (-1)) ∧ w'.cell? ⟨wr.heap.size, 8, none⟩ = some (iv (-1))) (first | exact j7.nine (.head _) | exact j6.nine (.head _) | go_keep) (first | (go_at_call 42; refine (HP1.out _ ?_).mono ?_; (repeat (first | exact Ext.refl _ | refine Ext.alloc ?_ _ | refine Ext.drew ?_)); rintro e w6 ⟨rfl, j6⟩) | (go_at_call 103; refine (HP2.out _ _ (j6.ext ?_)).mono ?_; (repeat (first | exact Ext.refl _ | refine Ext.alloc ?_ _ | refine Ext.drew ?_)); rintro e w7 ⟨rfl, j7⟩))
        have kb := j7.blk (.tail _ (.head _))
        have k2 := kb.at 2 rfl
        have hown7 := j7.own (.head _)
        obtain ⟨o4, c4, hv4⟩ := own_form hown7
        simp only at hv4
        subst hv4
        have J7 := Lib.hid j7
        have hs7 := j7.size
        have hlt7 := j7.vlt (w3.heap.size, [hptr L, rptr R, .slice o4 chans.length c4, gv]) (.tail _ (.head _))
        have hcl : chans.length ≤ 4 := by have := hcl4; omega
        clear kb hown7 j7 j6 HP1 HP2
        go_wp2_with (at_builtin; refine wpList_appendI rfl (.tmp 80) (.tmp 82) rfl w.heap.size rfl ((J7.out.own (.head _)).alloc _) rfl (ints_one w7 at' _) (by simp; omega) (by rw [World.size_alloc]; omega) ?_)
        intro v' w8 hown8 hg8 halt8
        have hown8' : w8.ownsRow w.heap.size 3 1 v' (chans ++ [at']).length (intsV (chans ++ [at'])) := by simpa [intsV] using hown8
        have j8 := (J7.out.grow hg8 hown8' (by rw [World.size_alloc]; exact halt8)).sub (V' := [(w3.heap.size, [hptr L, rptr R, .slice o4 chans.length c4, gv])]) (fun p hp => .tail _ hp)
        obtain ⟨o5, c5, hv5⟩ := own_form hown8'
        subst hv5
        have hll : (chans ++ [at']).length = chans.length + 1 := by simp
        rw [hll] at j8
        have kb8 := j8.blk (.head _)
        have k28 := kb8.at 2 rfl
        have f28 := kb8.free 2
        have j9 := j8.set hbb2 (by simp) 2 (.slice o5 (chans.length + 1) c5)
        have HB := Lib.hid (show BJ L R s3 w3.heap.size (chans ++ [at']) [] w _ [] [] from ⟨_, _, hbb2, j9⟩)
        clear j8 j9 kb8 hown8 hown8' hg8 halt8 J7 k2
        go_wp2
        go_roundw
        case rel => exact ⟨p + 1, by omega, by omega, by go_num, by rw [HST.out]; exact HB⟩
        case measure => simp [intOf]; omega
    · have htk : caps.take p = caps.take 4 := by
        rcases (by omega : p = caps.length ∨ p = 4) with rfl | rfl
        · rw [List.take_length, List.take_of_length_le (by omega)]
        · rfl
      rw [htk] at hj
      clear htk
      have hcl4 : (chansB heap0 (caps.take 4)).2.length ≤ 4 := by rw [chansB_len, List.length_take]; omega
      generalize hX : chansB heap0 (caps.take 4) = X at hj hcl4
      obtain ⟨s0, chans⟩ := X
      simp only at hj hcl4
      have hmd : madeB caps n = ((gorsB s0 (1 + n64 n % 6)).1, chans, (gorsB s0 (1 + n64 n % 6)).2) := by unfold madeB; rw [hX]
      have HMD := Lib.hid hmd
      have e1 : IntKind.u64.wrap n = (n64 n : Int) := by unfold n64; show n % 18446744073709551616 = _; rw [Int.toNat_of_nonneg (Int.emod_nonneg _ (by decide))]
      obtain ⟨m, hm⟩ : ∃ m, m = n64 n % 6 := ⟨_, rfl⟩
      have hm6 : m < 6 := by omega
      have e3 : (n64 n : Int).tmod 6 = (m : Int) := by rw [Int.tmod_eq_emod_of_nonneg (by omega)]; omega
      have e4 : (n64 n : Int) % 6 = (m : Int) := by omega
      rw [← hm] at HMD
      have e5 : IntKind.i64.wrap (m : Int) = m := IntWalk.i64_in _ (by omega)
      have e6 : IntKind.i64.wrap (1 + (m : Int)) = 1 + m := IntWalk.i64_in _ (by omega)
      have E1 := Lib.hid e1; have E3 := Lib.hid e3; have E4 := Lib.hid e4; have E5 := Lib.hid e5; have E6 := Lib.hid e6
      clear hmd hX hm e1 e3 e4 e5 e6
      have hJ2 : Hid (BJ L R (gorsB s0 0).1 w3.heap.size chans (gorsB s0 0).2 w wr [] []) := hj
      clear hj
      rcases (by omega : p = caps.length ∨ (p < caps.length ∧ p = 4)) with hq | ⟨hq, hq4⟩
      · subst hq
        clear hlt hp4
        have ta : decide (caps.length < caps.length) = false := by simp
        go_wp2_with fail
        go_loopw [13] (fun v13 wr => ∃ q : Nat, q ≤ 1 + m ∧ v13 = iv q ∧ Hid (BJ L R (gorsB s0 q).1 w3.heap.size chans (gorsB s0 q).2 w wr [] [])) (fun v13 _ => 7 - (intOf v13).toNat)
        case atStart => exact ⟨0, Nat.zero_le _, rfl, hJ2⟩
        case round =>
          obtain ⟨q, hq, rfl, hj⟩ := hrel
          clear hJ2
          have e1 := E1.out; have e3 := E3.out; have e4 := E4.out; have e5 := E5.out; have e6 := E6.out
          by_cases hlt2 : q < 1 + m
          · have tq : decide ((q : Int) < 1 + m) = true := by simp; omega
            have tq2 : (q : Int) < 1 + m := by omega
            have tq3 : decide (q < 1 + m) = true := by simp; omega
            obtain ⟨cv, gv, hbb2, j⟩ := hj.out
            have hst : gorsB s0 (q + 1) = ((gorB (gorsB s0 q).1 q).1, (gorsB s0 q).2 ++ [(gorB (gorsB s0 q).1 q).2]) := rfl
            have hgl : (gorsB s0 q).2.length ≤ 6 := by rw [gorsB_len]; omega
            generalize gorsB s0 q = X at j hst hgl
            obtain ⟨s, gors⟩ := X
            simp only at j hst hgl
            have hgB : gorB s q = ((putGorH (allocB s 4 10).2 (allocB s 4 10).1 (gor0 q)).1, (allocB s 4 10).1) := rfl
            rw [hgB] at hst
            have hal := alloc_j (.head _) 4 10 j
            generalize allocB s 4 10 = A1 at hal hst
            obtain ⟨at', s1⟩ := A1
            simp only at hal hst
            have HAL := Lib.hid hal; have HST := Lib.hid hst
            clear hal hst hj j hgB
            go_wp2_with fail
            refine HAL.out.mono ?_
            rintro e w5 ⟨rfl, j4⟩
            have j5 := j4.new [iv q, iv 0, iv 0, iv 0, iv 0, iv 0, iv 0, iv 0, iv 0, iv (-1)] 44
            have hp1 := fun w' (he : Ext (w5.alloc (.cells #[iv q, iv 0, iv 0, iv 0, iv 0, iv 0, iv 0, iv 0, iv 0, iv (-1)] 44)) w') => (j5.ext he).l (x := [iv at', (gor0 q).v]) fun L => putGor_s at' (gor0 q) (by intro x hx; simp [PGor.regs, gor0] at hx; subst hx; unfold I64; omega)
            have hp2 := fun s' w' (jj : JS L s' R s1 w w' ((w5.heap.size, [iv q, iv 0, iv 0, iv 0, iv 0, iv 0, iv 0, iv 0, iv 0, iv (-1)]) :: (w3.heap.size, [hptr L, rptr R, cv, gv]) :: []) ((cv, chans) :: (gv, gors) :: [])) => jj.r (x := [iv at', (gor0 q).v]) fun R => rputGor_s at' (gor0 q) (by intro x hx; simp [PGor.regs, gor0] at hx; subst hx; unfold I64; omega)
            obtain ⟨c0, c1, c2, c3, c4, c5, c6, c7, c8, c9⟩ := j5.ten (.head _)
            generalize putGorH s1 at' (gor0 q) = X3 at hp1 hp2 HST
            obtain ⟨s3, er⟩ := X3
            simp only [gor0] at hp1 hp2
            have HP1 := Lib.hid hp1; have HP2 := Lib.hid hp2
            clear hp1 hp2 j5 j4 HAL e1 e3 e4 e5 e6
            go_wp2_with fail
            go_region_held3 (fun w' => w'.cell? ⟨w5.heap.size, 0, none⟩ = some (iv q) ∧ w'.cell? ⟨w5.heap.size, 1, none⟩ = some (iv 0) ∧ w'.cell? ⟨w5.heap.size, 2, none⟩ = some (iv 0) ∧ w'.cell? ⟨w5.heap.size, 3, none⟩ = some (iv 0) ∧ w'.cell? ⟨w5.heap.size, 4, none⟩ = some (iv 0) ∧ w'.cell? ⟨w5.heap.size, 5, none⟩ = some (iv 0) ∧ w'.cell? ⟨w5.heap.size, 6, none⟩ = some (iv 0) ∧ w'.cell? ⟨w5.heap.size, 7, none⟩ = some (iv 0) ∧ w'.cell? ⟨w5.heap.size, 8, none⟩ = some (iv 0) ∧ w'.cell? ⟨w5.heap.size, 9, none⟩ = some (iv (-1))) (first | exact j7.ten (.head _) | exact j6.ten (.head _) | go_keep) (first | (go_at_call 104; refine (HP1.out _ ?_).mono ?_; (repeat (first | exact Ext.refl _ | refine Ext.alloc ?_ _ | refine Ext.drew ?_)); rintro e w6 ⟨rfl, j6⟩) | (go_at_call 105; refine (HP2.out _ _ (j6.ext ?_)).mono ?_; (repeat (first | exact Ext.refl _ | refine Ext.alloc ?_ _ | refine Ext.drew ?_)); rintro e w7 ⟨rfl, j7⟩))
            have kb := j7.blk (.tail _ (.head _))
            have k2 := kb.at 3 rfl
            have hown7 := j7.own (.tail _ (.head _))
            obtain ⟨o4, c4, hv4⟩ := own_form hown7
            simp only at hv4
            subst hv4
            have J7 := Lib.hid j7.swapO
            have hs7 := j7.size
            have hlt7 := j7.vlt (w3.heap.size, [hptr L, rptr R, cv, .slice o4 gors.length c4]) (.tail _ (.head _))
            clear kb hown7 j7 j6 HP1 HP2
            go_wp2_with (at_builtin; refine wpList_appendI rfl (.tmp 112) (.tmp 114) rfl w.heap.size rfl ((J7.out.own (.head _)).alloc _) rfl (ints_one w7 at' _) (by simp; omega) (by rw [World.size_alloc]; omega) ?_)
            intro v' w8 hown8 hg8 halt8
            have hown8' : w8.ownsRow w.heap.size 3 1 v' (gors ++ [at']).length (intsV (gors ++ [at'])) := by simpa [intsV] using hown8
            have j8 := ((J7.out.grow hg8 hown8' (by rw [World.size_alloc]; exact halt8)).swapO).sub (V' := [(w3.heap.size, [hptr L, rptr R, cv, .slice o4 gors.length c4])]) (fun p hp => .tail _ hp)
            obtain ⟨o5, c5, hv5⟩ := own_form hown8'
            subst hv5
            have hll : (gors ++ [at']).length = gors.length + 1 := by simp
            rw [hll] at j8
            have kb8 := j8.blk (.head _)
            have k28 := kb8.at 3 rfl
            have f28 := kb8.free 3
            have j9 := j8.set hbb2 (by simp) 3 (.slice o5 (gors.length + 1) c5)
            have HB := Lib.hid (show BJ L R s3 w3.heap.size chans (gors ++ [at']) w _ [] [] from ⟨_, _, hbb2, j9⟩)
            clear j8 j9 kb8 hown8 hown8' hg8 halt8 J7 k2
            go_wp2
            go_roundw
            case rel => exact ⟨q + 1, by omega, by go_num, by rw [HST.out]; exact HB⟩
            case measure => simp [intOf]; omega
          · obtain rfl : q = 1 + m := by omega
            have tq : decide (((1 + m : Nat) : Int) < 1 + m) = false := by simp
            have tq3 : decide (1 + m < 1 + m) = false := by simp
            go_wp2
            go_ret
            refine ⟨L, R, w3.heap.size, rfl, ?_⟩
            rw [HMD.out]
            exact hj.out
      · have ta : decide ((p : Int) < caps.length) = true := by simp; omega
        have tb : decide (p < caps.length) = true := by simp; omega
        have tc : (p : Int) < caps.length := by omega
        have td : decide ((p : Int) < 4) = false := by simp; omega
        have tf : decide (p < 4) = false := by simp; omega
        clear hlt hp4 hp hq4
        go_wp2_with fail
        go_loopw [13] (fun v13 wr => ∃ q : Nat, q ≤ 1 + m ∧ v13 = iv q ∧ Hid (BJ L R (gorsB s0 q).1 w3.heap.size chans (gorsB s0 q).2 w wr [] [])) (fun v13 _ => 7 - (intOf v13).toNat)
        case atStart => exact ⟨0, Nat.zero_le _, rfl, hJ2⟩
        case round =>
          obtain ⟨q, hq, rfl, hj⟩ := hrel
          clear hJ2
          have e1 := E1.out; have e3 := E3.out; have e4 := E4.out; have e5 := E5.out; have e6 := E6.out
          by_cases hlt2 : q < 1 + m
          · have tq : decide ((q : Int) < 1 + m) = true := by simp; omega
            have tq2 : (q : Int) < 1 + m := by omega
            have tq3 : decide (q < 1 + m) = true := by simp; omega
            obtain ⟨cv, gv, hbb2, j⟩ := hj.out
            have hst : gorsB s0 (q + 1) = ((gorB (gorsB s0 q).1 q).1, (gorsB s0 q).2 ++ [(gorB (gorsB s0 q).1 q).2]) := rfl
            have hgl : (gorsB s0 q).2.length ≤ 6 := by rw [gorsB_len]; omega
            generalize gorsB s0 q = X at j hst hgl
            obtain ⟨s, gors⟩ := X
            simp only at j hst hgl
            have hgB : gorB s q = ((putGorH (allocB s 4 10).2 (allocB s 4 10).1 (gor0 q)).1, (allocB s 4 10).1) := rfl
            rw [hgB] at hst
            have hal := alloc_j (.head _) 4 10 j
            generalize allocB s 4 10 = A1 at hal hst
            obtain ⟨at', s1⟩ := A1
            simp only at hal hst
            have HAL := Lib.hid hal; have HST := Lib.hid hst
            clear hal hst hj j hgB
            go_wp2_with fail
            refine HAL.out.mono ?_
            rintro e w5 ⟨rfl, j4⟩
            have j5 := j4.new [iv q, iv 0, iv 0, iv 0, iv 0, iv 0, iv 0, iv 0, iv 0, iv (-1)] 44
            have hp1 := fun w' (he : Ext (w5.alloc (.cells #[iv q, iv 0, iv 0, iv 0, iv 0, iv 0, iv 0, iv 0, iv 0, iv (-1)] 44)) w') => (j5.ext he).l (x := [iv at', (gor0 q).v]) fun L => putGor_s at' (gor0 q) (by intro x hx; simp [PGor.regs, gor0] at hx; subst hx; unfold I64; omega)
            have hp2 := fun s' w' (jj : JS L s' R s1 w w' ((w5.heap.size, [iv q, iv 0, iv 0, iv 0, iv 0, iv 0, iv 0, iv 0, iv 0, iv (-1)]) :: (w3.heap.size, [hptr L, rptr R, cv, gv]) :: []) ((cv, chans) :: (gv, gors) :: [])) => jj.r (x := [iv at', (gor0 q).v]) fun R => rputGor_s at' (gor0 q) (by intro x hx; simp [PGor.regs, gor0] at hx; subst hx; unfold I64; omega)
            obtain ⟨c0, c1, c2, c3, c4, c5, c6, c7, c8, c9⟩ := j5.ten (.head _)
            generalize putGorH s1 at' (gor0 q) = X3 at hp1 hp2 HST
            obtain ⟨s3, er⟩ := X3
            simp only [gor0] at hp1 hp2
            have HP1 := Lib.hid hp1; have HP2 := Lib.hid hp2
            clear hp1 hp2 j5 j4 HAL e1 e3 e4 e5 e6
            go_wp2_with fail
            go_region_held3 (fun w' => w'.cell? ⟨w5.heap.size, 0, none⟩ = some (iv q) ∧ w'.cell? ⟨w5.heap.size, 1, none⟩ = some (iv 0) ∧ w'.cell? ⟨w5.heap.size, 2, none⟩ = some (iv 0) ∧ w'.cell? ⟨w5.heap.size, 3, none⟩ = some (iv 0) ∧ w'.cell? ⟨w5.heap.size, 4, none⟩ = some (iv 0) ∧ w'.cell? ⟨w5.heap.size, 5, none⟩ = some (iv 0) ∧ w'.cell? ⟨w5.heap.size, 6, none⟩ = some (iv 0) ∧ w'.cell? ⟨w5.heap.size, 7, none⟩ = some (iv 0) ∧ w'.cell? ⟨w5.heap.size, 8, none⟩ = some (iv 0) ∧ w'.cell? ⟨w5.heap.size, 9, none⟩ = some (iv (-1))) (first | exact j7.ten (.head _) | exact j6.ten (.head _) | go_keep) (first | (go_at_call 104; refine (HP1.out _ ?_).mono ?_; (repeat (first | exact Ext.refl _ | refine Ext.alloc ?_ _ | refine Ext.drew ?_)); rintro e w6 ⟨rfl, j6⟩) | (go_at_call 105; refine (HP2.out _ _ (j6.ext ?_)).mono ?_; (repeat (first | exact Ext.refl _ | refine Ext.alloc ?_ _ | refine Ext.drew ?_)); rintro e w7 ⟨rfl, j7⟩))
            have kb := j7.blk (.tail _ (.head _))
            have k2 := kb.at 3 rfl
            have hown7 := j7.own (.tail _ (.head _))
            obtain ⟨o4, c4, hv4⟩ := own_form hown7
            simp only at hv4
            subst hv4
            have J7 := Lib.hid j7.swapO
            have hs7 := j7.size
            have hlt7 := j7.vlt (w3.heap.size, [hptr L, rptr R, cv, .slice o4 gors.length c4]) (.tail _ (.head _))
            clear kb hown7 j7 j6 HP1 HP2
            go_wp2_with (at_builtin; refine wpList_appendI rfl (.tmp 112) (.tmp 114) rfl w.heap.size rfl ((J7.out.own (.head _)).alloc _) rfl (ints_one w7 at' _) (by simp; omega) (by rw [World.size_alloc]; omega) ?_)
            intro v' w8 hown8 hg8 halt8
            have hown8' : w8.ownsRow w.heap.size 3 1 v' (gors ++ [at']).length (intsV (gors ++ [at'])) := by simpa [intsV] using hown8
            have j8 := ((J7.out.grow hg8 hown8' (by rw [World.size_alloc]; exact halt8)).swapO).sub (V' := [(w3.heap.size, [hptr L, rptr R, cv, .slice o4 gors.length c4])]) (fun p hp => .tail _ hp)
            obtain ⟨o5, c5, hv5⟩ := own_form hown8'
            subst hv5
            have hll : (gors ++ [at']).length = gors.length + 1 := by simp
            rw [hll] at j8
            have kb8 := j8.blk (.head _)
            have k28 := kb8.at 3 rfl
            have f28 := kb8.free 3
            have j9 := j8.set hbb2 (by simp) 3 (.slice o5 (gors.length + 1) c5)
            have HB := Lib.hid (show BJ L R s3 w3.heap.size chans (gors ++ [at']) w _ [] [] from ⟨_, _, hbb2, j9⟩)
            clear j8 j9 kb8 hown8 hown8' hg8 halt8 J7 k2
            go_wp2
            go_roundw
            case rel => exact ⟨q + 1, by omega, by go_num, by rw [HST.out]; exact HB⟩
            case measure => simp [intOf]; omega
          · obtain rfl : q = 1 + m := by omega
            have tq : decide (((1 + m : Nat) : Int) < 1 + m) = false := by simp
            have tq3 : decide (1 + m < 1 + m) = false := by simp
            go_wp2
            go_ret
            refine ⟨L, R, w3.heap.size, rfl, ?_⟩
            rw [HMD.out]
            exact hj.out
end Law17
end Go.Proofs.YtcnppdbgieaddaaGreat
