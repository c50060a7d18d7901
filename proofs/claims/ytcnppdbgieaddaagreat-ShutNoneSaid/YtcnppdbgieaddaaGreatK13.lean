/- Which channel a word is. A channel is closed. -/
import Derived.Test.YtcnppdbgieaddaaGreatK12
namespace Go.Proofs.YtcnppdbgieaddaaGreat
open Go.RowKit
set_option linter.unusedVariables false
set_option linter.unusedSimpArgs false
variable {w w' w0 : World} {L : Lay} {s : PH} {V : List (Nat × List Value)}

theorem Rd.of {f : Nat} {args : Array Value} {r : Value} (hc : ∀ w, Calls Tryz.prog f args w fun e w' => e = .returned r ∧ w = w') : Rd L s f args r := fun w0 w V h =>
  (hc w).mono fun e w' q => ⟨q.1, q.2 ▸ h⟩
/-- What a word is: nothing, a channel, or neither. -/
abbrev mouthV (A : AS) (x : Int) : Value := if x = 0 then .iface 188 (.agg #[]) else match chanA A (atW x) with
  | none => .nilIface
  | some _ => .iface 190 (iv (atW x))
theorem mouth_nil (x : Int) (w : World) : Calls Tryz.prog 127 #[.pointer none, iv x] w fun e w' => e = .returned .nilIface ∧ w = w' := by
  go_enter Tryz.func127, Tryz.ntmps127
  go_wp2
  go_ret
  exact ⟨rfl, rfl⟩
theorem intW_zero : intW 0 = 0 := by unfold intW wrap64; omega
theorem mouth_s (x : Int) (hx : I64 x) : Rd L s 127 #[hptr L, iv x] (mouthV s.A x) := by
  intro w0 w V h
  have hi := int_c 0
  rw [intW_zero] at hi
  unfold mouthV
  by_cases e : x = 0
  · subst e
    rw [if_pos rfl]
    have H := Lib.hid h; have HI := Lib.hid hi; clear h hi
    go_enter Tryz.func127, Tryz.ntmps127
    go_wp2_with (go_at_call 112; refine (HI.out _).mono ?_; rintro e w1 ⟨rfl, rfl⟩)
    go_ret
    exact ⟨rfl, H.out⟩
  · rw [if_neg e]
    have t1 : (x == 0) = false := by simpa using e
    have ha := at_c x hx
    have hc := chan_s (L := L) (s := s) (atW x)
    unfold chanR at hc
    generalize atW x = at' at ha hc ⊢
    cases e2 : chanA s.A at' with
    | none =>
      rw [e2] at hc
      simp only at hc
      have HC := Lib.hid (hc _ _ _ h); have HI := Lib.hid hi; have HA := Lib.hid ha; clear h hi ha hc e e2 hx
      go_enter Tryz.func127, Tryz.ntmps127
      go_wp2_with fail
      refine (HI.out _).mono ?_
      rintro e w1 ⟨rfl, rfl⟩
      go_wp2_with fail
      refine (HA.out _).mono ?_
      rintro e w1 ⟨rfl, rfl⟩
      go_wp2_with fail
      refine HC.out.mono ?_
      rintro e w1 ⟨rfl, h1⟩
      have H1 := Lib.hid (h1.alloc (.cells #[iv 0, iv 0, iv 0, iv 0, iv 0, iv 0, iv 0, iv 0, iv 0] 63)); clear h1
      go_wp2
      go_ret
      exact ⟨rfl, H1.out⟩
    | some c =>
      rw [e2] at hc
      simp only at hc
      obtain ⟨x0, x1, x2, x3, x4, x5, x6, x7, x8⟩ := c
      have HC := Lib.hid (hc _ _ _ h); have HI := Lib.hid hi; have HA := Lib.hid ha; clear h hi ha hc e e2 hx
      go_enter Tryz.func127, Tryz.ntmps127
      go_wp2_with fail
      refine (HI.out _).mono ?_
      rintro e w1 ⟨rfl, rfl⟩
      go_wp2_with fail
      refine (HA.out _).mono ?_
      rintro e w1 ⟨rfl, rfl⟩
      go_wp2_with fail
      refine HC.out.mono ?_
      rintro e w1 ⟨rfl, h1⟩
      have H1 := Lib.hid (h1.alloc (.cells #[iv x0, iv x1, iv x2, iv x3, iv x4, iv x5, iv x6, iv x7, iv x8] 63)); clear h1
      go_wp2
      go_ret
      exact ⟨rfl, H1.out⟩
end Go.Proofs.YtcnppdbgieaddaaGreat

namespace Go.Proofs.YtcnppdbgieaddaaGreat
open Go.RowKit
set_option linter.unusedVariables false
set_option linter.unusedSimpArgs false
variable {w w' w0 : World} {L : Lay} {s : PH} {V : List (Nat × List Value)}

/-- All who wait to take are woken, one after another. -/
def shutN : Nat → PH → Int → List Int → Option (PH × List Int)
  | 0, _, _, _ => none
  | d + 1, s, ch, l => if (popH s ch false).2.2 = false then some ((popH s ch false).1, l) else
      shutN d (wakeH (popH s ch false).1 (popH s ch false).2.1 0).1 ch (if (wakeH (popH s ch false).1 (popH s ch false).2.1 0).2.2 = 0 then l ++ [(wakeH (popH s ch false).1 (popH s ch false).2.1 0).2.1] else l)
/-- What closing does: the heap, who was woken, how it went; 'none': no answer within so many. -/
def shutH (d : Nat) (s : PH) (x : Int) : Option (PH × List Int × Int) :=
  if x = 0 then some (s, [], 5) else match chanA s.A (atW x) with
  | none => some (s, [], 6)
  | some c => if c.closed ≠ 0 then some (s, [], 4) else if (allA s.A (atW x) true).length > 0 then some (s, [], 3) else
    match shutN d (putChanH s (atW x) { c with closed := 1 }).1 (atW x) [] with
    | none => none
    | some r => some (r.1, r.2, 1)

/-! ### A slice of one's own beside it -/
def HSO (L : Lay) (s : PH) (w0 w : World) (V : List (Nat × List Value)) (base : Nat) (v : Value) (l : List Int) : Prop :=
  ∃ L', HeapAt w L' s ∧ L'.hb = L.hb ∧ L'.ab = L.ab ∧ Stp L.own L'.own w0 w ∧ (∀ p ∈ V, Blk w p.1 p.2 ∧ p.1 ∉ L'.own) ∧ (∀ b, v.ownBlock = some b → b ∉ L'.own ∧ ∀ p ∈ V, p.1 ≠ b) ∧ w.ownsRow base 3 1 v l.length (intsV l)
theorem HSO.hs {base : Nat} {v : Value} {l : List Int} (h : HSO L s w0 w V base v l) : HS L s w0 w V := by
  obtain ⟨L', h1, h2, h3, h4, h5, _⟩ := h; exact ⟨L', h1, h2, h3, h4, h5⟩
theorem HSO.own {base : Nat} {v : Value} {l : List Int} (h : HSO L s w0 w V base v l) : w.ownsRow base 3 1 v l.length (intsV l) := by
  obtain ⟨L', h1, h2, h3, h4, h5, _, h7⟩ := h; exact h7
theorem HSO.start (h : HS L s w0 w V) (base : Nat) : HSO L s w0 w V base (.slice none 0 0) [] := by
  obtain ⟨L', h1, h2, h3, h4, h5⟩ := h
  exact ⟨L', h1, h2, h3, h4, h5, fun b e => (by cases e), World.ownsRow_nil _ _ _ _⟩
theorem HSO.step {base : Nat} {v : Value} {l : List Int} {f : Nat} {args : Lay → Array Value} {s' : PH} {r : Value} (h : HSO L s w0 w V base v l) (ha : ∀ L', L'.hb = L.hb → L'.ab = L.ab → args L' = args L) (hc : ∀ L, Wr L s f (args L) s' r) :
    Calls Tryz.prog f (args L) w fun e w' => e = .returned r ∧ HSO L s' w0 w' V base v l := by
  obtain ⟨L', h1, h2, h3, h4, h5, h6, h7⟩ := h
  rw [← ha L' h2 h3]
  refine (hc L' w w V ⟨L', h1, rfl, rfl, Stp.refl _ _, h5⟩).mono ?_
  rintro e w' ⟨q0, L2, q1, q2, q3, q4, q5⟩
  refine ⟨q0, L2, q1, q2.trans h2, q3.trans h3, h4.trans q4, q5, fun b hb => ⟨fun hm => ?_, (h6 b hb).2⟩, ownsRow_keep h7 (fun b hb => q4.block b (h7.lt b hb).2 (h6 b hb).1)⟩
  rcases q4.own _ hm with hm | hm
  · exact (h6 b hb).1 hm
  · have := (h7.lt b hb).2; omega
theorem HSO.grow {base : Nat} {v v' : Value} {l : List Int} {x : Int} {t : TypeId} (h : HSO L s w0 w V base v l) (hw : w0.heap.size ≤ base) (hg : (w.alloc (.cells #[iv x] t)).grownBy w' v.ownBlock)
    (ho : w'.ownsRow base 3 1 v' (l ++ [x]).length (intsV (l ++ [x]))) (halt : v'.ownBlock = v.ownBlock ∨ v'.ownBlock = some (w.alloc (.cells #[iv x] t)).heap.size) : HSO L s w0 w' V base v' (l ++ [x]) := by
  obtain ⟨L', h1, h2, h3, h4, h5, h6, h7⟩ := h
  have hk : ∀ b, b < w.heap.size → v.ownBlock ≠ some b → w'.heap[b]? = w.heap[b]? := fun b hb hn => by
    rw [hg.block b (by rw [World.size_alloc]; omega) (fun e => hn (by rw [e]))]; exact Below.heap_alloc _ _ _ hb
  have hsz : w.heap.size ≤ w'.heap.size := by have := hg.size; rw [World.size_alloc] at this; omega
  refine ⟨L', h1.keep (fun b hm => hk b (h1.lt b hm) (fun e => (h6 b e).1 hm)), h2, h3, ?_, fun p hp => ⟨(h5 p hp).1.keep (hk _ (h5 p hp).1.lt (fun e => (h6 _ e).2 p hp rfl)), (h5 p hp).2⟩, fun b e => ?_, ho⟩
  · refine ⟨?_, ?_, ?_, Nat.le_trans h4.size hsz, fun b hb hn => ?_, h4.own⟩
    · exact hg.os.trans h4.os
    · exact hg.tape.trans h4.tape
    · exact hg.output.trans h4.output
    · rw [hk b (Nat.lt_of_lt_of_le hb h4.size) (fun e => by have := (h7.lt _ e).1; omega)]; exact h4.block b hb hn
  · rcases halt with q | q
    · rw [q] at e; exact h6 b e
    · rw [q] at e; cases e
      refine ⟨fun hm => ?_, fun p hp => ?_⟩
      · have := h1.lt _ hm; rw [World.size_alloc] at this; omega
      · have := (h5 p hp).1.lt; rw [World.size_alloc]; omega

theorem ownsRow_low {base base' : Nat} {v : Value} {n : Nat} {xs : List Value} (h : w.ownsRow base 3 1 v n xs) (hb : base' ≤ base) : w.ownsRow base' 3 1 v n xs := by
  rcases h with ⟨h1, h2 | ⟨g, cap, cur, hv, hg, r⟩⟩
  · exact ⟨h1, .inl h2⟩
  · exact ⟨h1, .inr ⟨g, cap, cur, hv, Nat.le_trans hb hg, r⟩⟩
def ShutPost (L : Lay) (R : PH × List Int × Int) (w0 w : World) (V : List (Nat × List Value)) (e : Ending) (w' : World) : Prop :=
  ∃ v, e = .returned (.tuple #[v, iv R.2.2]) ∧ HSO L R.1 w0 w' V w0.heap.size v R.2.1

theorem shut_nil (x : Int) (w : World) : Calls Tryz.prog 34 #[.pointer none, iv x] w fun e w' => e = .returned (.tuple #[.slice none 0 0, iv 6]) ∧ Below w.heap.size w w' := by
  have HM := Lib.hid (mouth_nil x)
  go_enter Tryz.func34, Tryz.ntmps34
  go_wp2_with (go_at_call 127; refine (HM.out _).mono ?_; rintro e w1 ⟨rfl, rfl⟩)
  go_ret2
  exact ⟨rfl, (Below.refl _ _).alloc (Nat.le_refl _) _⟩

set_option maxRecDepth 100000 in
set_option maxHeartbeats 2000000 in
theorem shut_s (d : Nat) (hd : d ≤ 1000000) (x : Int) (hx : I64 x) (R : PH × List Int × Int) (hR : shutH d s x = some R) (w0 w : World) (V : List (Nat × List Value)) (h : HS L s w0 w V) : Calls Tryz.prog 34 #[hptr L, iv x] w (ShutPost L R w0 w V) := by
  have hm := mouth_s (L := L) (s := s) x hx _ _ _ h
  unfold mouthV at hm
  unfold shutH at hR
  by_cases e : x = 0
  · subst e
    rw [if_pos rfl] at hm hR
    cases hR
    have HM := Lib.hid hm; clear hm h hx
    go_enter Tryz.func34, Tryz.ntmps34
    go_wp2_with fail
    refine HM.out.mono ?_
    rintro e w1 ⟨rfl, h1⟩
    have H1 := Lib.hid (h1.alloc (.cells #[] 188)); clear h1
    go_wp2
    go_ret2
    exact ⟨_, rfl, HSO.start H1.out _⟩
  rw [if_neg e] at hm hR
  have hc := chan_s (L := L) (s := s) (atW x)
  unfold chanR at hc
  clear e hx
  generalize atW x = at' at hm hR hc
  cases e2 : chanA s.A at' with
  | none =>
    rw [e2] at hm hR
    cases hR
    have HM := Lib.hid hm; clear hm h hc e2
    go_enter Tryz.func34, Tryz.ntmps34
    go_wp2_with fail
    refine HM.out.mono ?_
    rintro e w1 ⟨rfl, h1⟩
    have H1 := Lib.hid (h1.alloc (.cells #[] 188)); clear h1
    go_wp2
    go_ret2
    exact ⟨_, rfl, HSO.start H1.out _⟩
  | some c =>
    rw [e2] at hm hR hc
    simp only at hm hR hc
    by_cases e3 : c.closed ≠ 0
    · rw [if_pos e3] at hR
      cases hR
      obtain ⟨x0, x1, x2, x3, x4, x5, x6, x7, x8⟩ := c
      simp only at e3
      have t1 : (x1 != 0) = true := by simpa using e3
      have HM := Lib.hid hm; have HC := Lib.hid hc; clear hm h hc e2 e3
      go_enter Tryz.func34, Tryz.ntmps34
      go_wp2_with fail
      refine HM.out.mono ?_
      rintro e w1 ⟨rfl, h1⟩
      have S1 := Lib.hid (HC.out _ _ _ (h1.alloc (.cells #[] 188))); clear h1
      go_wp2_with fail
      refine S1.out.mono ?_
      rintro e w2 ⟨rfl, h1⟩
      have H1 := Lib.hid (h1.alloc (.cells #[iv x0, iv x1, iv x2, iv x3, iv x4, iv x5, iv x6, iv x7, iv x8] 63)); clear h1
      go_wp2
      go_ret2
      exact ⟨_, rfl, HSO.start H1.out _⟩
    · rw [if_neg e3] at hR
      have hal := lall_s (L := L) (s := s) at' true
      have hle := allA_le h.wf h.few at' true
      generalize allA s.A at' true = al at hR hal hle
      obtain ⟨x0, x1, x2, x3, x4, x5, x6, x7, x8⟩ := c
      simp only at e3
      have e3' : x1 = 0 := by omega
      clear e3
      subst e3'
      by_cases e4 : al.length > 0
      · rw [if_pos e4] at hR
        cases hR
        obtain ⟨al0, al1, hal0⟩ : ∃ a b, al = a :: b := by
          cases al with
          | nil => simp at e4
          | cons a b => exact ⟨a, b, rfl⟩
        subst hal0
        have hge : ((al1.length : Int) + 1 > 0) := by omega
        have HM := Lib.hid hm; have HC := Lib.hid hc; have HAL := Lib.hid hal; clear hm h hc e2 e4 hal
        go_enter Tryz.func34, Tryz.ntmps34
        go_wp2_with fail
        refine HM.out.mono ?_
        rintro e w1 ⟨rfl, h1⟩
        have S1 := Lib.hid (HC.out _ _ _ (h1.alloc (.cells #[] 188))); clear h1
        go_wp2_with fail
        refine S1.out.mono ?_
        rintro e w2 ⟨rfl, h1⟩
        have S2 := Lib.hid (HAL.out _ _ _ (h1.alloc (.cells #[iv x0, iv 0, iv x2, iv x3, iv x4, iv x5, iv x6, iv x7, iv x8] 63))); clear h1
        go_wp2_with fail
        refine S2.out.mono ?_
        rintro e w3 ⟨h1, v, rfl, hv⟩
        obtain ⟨o3, c3, hv3⟩ := hv.form
        subst hv3
        have H1 := Lib.hid h1; clear h1 hv
        go_wp2
        go_ret2
        exact ⟨_, rfl, HSO.start H1.out _⟩
      · rw [if_neg e4] at hR
        have e5 : al = [] := List.eq_nil_of_length_eq_zero (by omega)
        subst e5
        clear e4 hle
        have hpc := putChan_s (L := L) (s := s) at' ⟨x0, 1, x2, x3, x4, x5, x6, x7, x8⟩
        generalize putChanH s at' ⟨x0, 1, x2, x3, x4, x5, x6, x7, x8⟩ = PC at hR hpc
        cases e6 : shutN d PC.1 at' [] with
        | none => rw [e6] at hR; cases hR
        | some r =>
          rw [e6] at hR
          cases hR
          have HM := Lib.hid hm; have HC := Lib.hid hc; have HAL := Lib.hid hal; have HPC := Lib.hid hpc; have HE6 := Lib.hid e6; clear hm h hc e2 hal hpc e6
          go_enter Tryz.func34, Tryz.ntmps34
          go_wp2_with fail
          refine HM.out.mono ?_
          rintro e w1 ⟨rfl, h1⟩
          have S1 := Lib.hid (HC.out _ _ _ (h1.alloc (.cells #[] 188))); have hs0 := h1.size; clear h1
          go_wp2_with fail
          refine S1.out.mono ?_
          rintro e w2 ⟨rfl, h1⟩
          have S2 := Lib.hid (HAL.out _ _ _ (h1.new [iv x0, iv 0, iv x2, iv x3, iv x4, iv x5, iv x6, iv x7, iv x8] 63))
          have hs1 := h1.size
          have hl1 := Lib.hid h1.lt
          clear h1
          go_wp2_with fail
          refine S2.out.mono ?_
          rintro e w3 ⟨h1, v, rfl, hv⟩
          obtain ⟨o3, c3, hv3⟩ := hv.form
          subst hv3
          have kb := h1.blk (.head _)
          have k0 := kb.at 0 rfl; have k1 := kb.at 1 rfl; have k2 := kb.at 2 rfl; have k3 := kb.at 3 rfl; have k4 := kb.at 4 rfl; have k5 := kb.at 5 rfl; have k6 := kb.at 6 rfl; have k7 := kb.at 7 rfl; have k8 := kb.at 8 rfl
          have f1 := kb.free 1
          have h2 : HS L s w0 (w3.setCell ⟨w2.heap.size, 1, none⟩ (iv 1)) ((w2.heap.size, [iv x0, iv 1, iv x2, iv x3, iv x4, iv x5, iv x6, iv x7, iv x8]) :: V) := h1.set hs1 (fun p hp => Nat.ne_of_lt (hl1.out p hp)) 1 (iv 1)
          have S3 := Lib.hid (HPC.out _ _ _ h2)
          clear h1 h2 hv kb S2
          go_wp2_with fail
          refine S3.out.mono ?_
          rintro e w4 ⟨rfl, h1⟩
          have H4 := Lib.hid (h1.sub (V' := V) (fun p hp => .tail _ hp))
          clear h1 S3 k0 k1 k2 k3 k4 k5 k6 k7 k8 f1 HPC HAL HC HM
          have hsz4 := H4.out.size
          go_wp2_with fail
          go_loopg [14] d (fun k v14 wr => ∃ (s1 : PH) (l : List Int), shutN k s1 at' l = some r ∧ l.length + k ≤ d ∧ HSO L s1 w0 wr V w0.heap.size v14 l)
          case atStart => exact ⟨PC.1, [], HE6.out, by simp, HSO.start H4.out _⟩
          case round =>
            obtain ⟨s1, l, hsh, hlk, ho⟩ := hrel
            cases gk with
            | zero => cases hsh
            | succ k =>
              simp only [shutN] at hsh
              have hpop := HSO.step (args := fun L => #[hptr L, iv at', .bool false]) ho (fun L' h2 h3 => by rw [hptr_eq h2]) (fun L => pop_s (L := L) (s := s1) at' false)
              have hfv := own_form ho.own
              generalize popH s1 at' false = P at hsh hpop
              obtain ⟨s2, t, b⟩ := P
              simp only at hsh hpop
              obtain ⟨o5, c5, hv5⟩ := hfv
              subst hv5
              cases b with
              | false =>
                rw [if_pos rfl] at hsh
                cases hsh
                have HP := Lib.hid hpop; clear ho hpop
                go_wp2_with fail
                refine HP.out.mono ?_
                rintro e w5 ⟨rfl, h1⟩
                have HF := Lib.hid h1; clear h1
                go_wp2
                go_ret2
                exact ⟨_, rfl, HF.out⟩
              | true =>
                rw [if_neg (by simp)] at hsh
                have hwk := fun L => wake_s (L := L) (s := s2) t 0 (by unfold I64; omega)
                generalize wakeH s2 t 0 = W at hsh hwk
                obtain ⟨s3, g, ge⟩ := W
                simp only at hsh hwk
                have hi := int_c 0
                rw [intW_zero] at hi
                have HP := Lib.hid hpop; have HWK := Lib.hid hwk; have HI := Lib.hid hi; clear ho hpop hwk hi
                by_cases q : ge = 0
                · subst q
                  rw [if_pos rfl] at hsh
                  have HSH := Lib.hid hsh; clear hsh
                  go_wp2_with fail
                  refine HP.out.mono ?_
                  rintro e w5 ⟨rfl, h1⟩
                  have H5 := Lib.hid h1; clear h1
                  go_wp2_with fail
                  refine (HI.out _).mono ?_
                  rintro e w5' ⟨rfl, rfl⟩
                  have S5 := Lib.hid (HSO.step (args := fun L => #[hptr L, iv t, iv 0]) H5.out (fun L' h2 h3 => by rw [hptr_eq h2]) HWK.out)
                  go_wp2_with fail
                  refine S5.out.mono ?_
                  rintro e w6 ⟨rfl, h1⟩
                  have hown := h1.own
                  have hs6 := h1.hs.size
                  have H6 := Lib.hid h1; have HO := Lib.hid hown
                  clear h1 S5 H5 hown HP
                  go_wp2_with (at_builtin; refine wpList_append2 rfl _ _ 25 rfl w0.heap.size 3 (.int .i64 0) 1 8 Tryz.underlying25 intInfo rfl (by decide) _ _ _ rfl (HO.out.alloc _) ⟨w6.heap.size, 0, none⟩ 1 1 [iv g] rfl rfl (cell_one_new _ _ _) ?c2 ?c3 ?c4 ?c5 ?next)
                  case c2 => intro u hu; simp at hu; subst hu; rfl
                  case c3 => unfold maxLen; omega
                  case c4 => omega
                  case c5 => simp; omega
                  case next =>
                    intro v' w7 hown7 hg halt
                    have g4 : w7.ownsRow w0.heap.size 3 1 v' (l ++ [g]).length (intsV (l ++ [g])) := by rw [List.length_append]; simpa [intsV] using hown7
                    have g5 := H6.out.grow (Nat.le_refl _) hg g4 (by rw [World.size_alloc]; exact halt)
                    obtain ⟨o7, c7, hv7⟩ := own_form g4
                    subst hv7
                    have G5 := Lib.hid g5
                    clear g4 g5 hown7 hg halt H6 HO
                    go_wp2
                    go_roundg k
                    case measure => omega
                    case rel => exact ⟨s3, l ++ [g], HSH.out, by rw [List.length_append]; simp; omega, G5.out⟩
                · rw [if_neg q] at hsh
                  have t1 : (ge == 0) = false := by simpa using q
                  have HSH := Lib.hid hsh; clear hsh q
                  go_wp2_with fail
                  refine HP.out.mono ?_
                  rintro e w5 ⟨rfl, h1⟩
                  have H5 := Lib.hid h1; clear h1
                  go_wp2_with fail
                  refine (HI.out _).mono ?_
                  rintro e w5' ⟨rfl, rfl⟩
                  have S5 := Lib.hid (HSO.step (args := fun L => #[hptr L, iv t, iv 0]) H5.out (fun L' h2 h3 => by rw [hptr_eq h2]) HWK.out)
                  go_wp2_with fail
                  refine S5.out.mono ?_
                  rintro e w6 ⟨rfl, h1⟩
                  have H6 := Lib.hid h1
                  clear h1 S5 H5 HP
                  go_wp2
                  go_roundg k
                  case measure => omega
                  case rel => exact ⟨s3, l, HSH.out, by omega, H6.out⟩
end Go.Proofs.YtcnppdbgieaddaaGreat
