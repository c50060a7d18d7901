/- The document's side: an object's kind, how many words it has, a word read, a word turned. The document's side: an object is made. The document's side: a place is kept in its grey list. The document's heap: a white object is made grey; a word is turned; an object is made. -/
import Derived.Test.YtcnppdbgieaddaaGreatQ2
import Derived.Test.YtcnppdbgieaddaaGreatK5
namespace Go.Proofs.YtcnppdbgieaddaaGreat
open Go.RowKit
set_option linter.unusedVariables false
set_option linter.unusedSimpArgs false
variable {w w' : World} {ab sb cb tb wb : Nat} {A : AS} {f : Nat → Int}

theorem objA_none {A : AS} {a : Int} (h : objA A a = none) : kindA A a = 0 ∧ lenA A a = 0 ∧ ∀ i, loadS A a i = (0, 8) := by
  unfold kindA lenA loadS; rw [h]; exact ⟨rfl, rfl, fun _ => rfl⟩
theorem RAr.word (h : RAr w ab sb cb tb wb A f) {a : Int} {k : Int} {ws : List Int} (e : objA A a = some (k, ws)) :
    ∃ m : Nat, a = m ∧ m < 32 * A.n ∧ m + ws.length < 32 * A.n ∧ f m = k + 16 * ws.length ∧ 1 ≤ k ∧ k ≤ 6 ∧ ws.length < 32 ∧ ∀ (i : Nat) (v : Int), ws[i]? = some v → f (m + 1 + i) = v := by
  obtain ⟨h0, h1⟩ := objA_nonneg e
  obtain ⟨m, rfl⟩ := Int.eq_ofNat_of_zero_le h0
  rw [Int.toNat_natCast] at h1
  obtain ⟨y1, y2⟩ := h.obj m k ws h1
  obtain ⟨s, p1, p2, p3, p4, p5⟩ := h.wf.slot h1
  obtain ⟨_, _, _, _, k1, k2⟩ := h.wf.obj m k ws h1
  exact ⟨m, rfl, by omega, by omega, y1, k1, k2, by omega, y2⟩

theorem rkind_c (w : World) (h : RAr w ab sb cb tb wb A f) (a : Int) : Calls Tryz.prog 174 #[.pointer (some ⟨ab, 0, none⟩), iv a] w fun e w' => e = .returned (iv (kindA A a)) ∧ Below w.heap.size w w' := by
  have hi := ris_c w h a
  cases e : objA A a with
  | none =>
    rw [(objA_none e).1]
    rw [e] at hi
    have HI := Lib.hid hi; clear hi h e
    go_enter Tryz.func174, Tryz.ntmps174
    go_wp2_with (go_at_call 216; refine HI.out.mono ?_; rintro e w1 ⟨rfl, b1⟩)
    go_ret
    exact ⟨rfl, b1⟩
  | some o =>
    obtain ⟨k, ws⟩ := o
    rw [e] at hi
    obtain ⟨m, rfl, h1, _, h2, k1, k2, h3, _⟩ := h.word e
    have hk : kindA A m = k := by unfold kindA; rw [e]
    have key : ∀ w1, Below w.heap.size w w1 → w1.cell? ⟨ab, 1, none⟩ = some (.slice (some ⟨wb, 0, none⟩) (32 * A.n) (32 * A.n)) ∧ w1.cell? ⟨wb, m, none⟩ = some (iv (k + 16 * ws.length)) := fun w1 hb =>
      ⟨(h.below hb).top.at 1 rfl, by rw [(h.below hb).wAt h1, h2]⟩
    rw [hk]
    have HI := Lib.hid hi; have KEY := Lib.hid key
    have h1' : (m : Int) < 32 * A.n := by omega
    have q1 : (k + 16 * (ws.length : Int)).tmod 16 = k := by rw [Int.tmod_eq_emod_of_nonneg (by omega)]; omega
    have q2 : (k + 16 * (ws.length : Int)) % 16 = k := by omega
    generalize (k + 16 * (ws.length : Int)) = x at q1 q2 KEY
    clear hi h e key h2 hk
    go_enter Tryz.func174, Tryz.ntmps174
    go_wp2_with (go_at_call 216; refine HI.out.mono ?_; rintro e w1 ⟨rfl, b1⟩; obtain ⟨c1, c2⟩ := KEY.out w1 b1)
    go_ret
    exact ⟨rfl, b1⟩
theorem rlen_c (w : World) (h : RAr w ab sb cb tb wb A f) (a : Int) : Calls Tryz.prog 154 #[.pointer (some ⟨ab, 0, none⟩), iv a] w fun e w' => e = .returned (iv (lenA A a)) ∧ Below w.heap.size w w' := by
  have hi := ris_c w h a
  cases e : objA A a with
  | none =>
    rw [(objA_none e).2.1]
    rw [e] at hi
    have HI := Lib.hid hi; clear hi h e
    go_enter Tryz.func154, Tryz.ntmps154
    go_wp2_with (go_at_call 216; refine HI.out.mono ?_; rintro e w1 ⟨rfl, b1⟩)
    go_ret
    exact ⟨rfl, b1⟩
  | some o =>
    obtain ⟨k, ws⟩ := o
    rw [e] at hi
    obtain ⟨m, rfl, h1, _, h2, k1, k2, h3, _⟩ := h.word e
    have hk : lenA A m = ws.length := by unfold lenA; rw [e]
    have key : ∀ w1, Below w.heap.size w w1 → w1.cell? ⟨ab, 1, none⟩ = some (.slice (some ⟨wb, 0, none⟩) (32 * A.n) (32 * A.n)) ∧ w1.cell? ⟨wb, m, none⟩ = some (iv (k + 16 * ws.length)) := fun w1 hb =>
      ⟨(h.below hb).top.at 1 rfl, by rw [(h.below hb).wAt h1, h2]⟩
    rw [hk]
    have HI := Lib.hid hi; have KEY := Lib.hid key
    have h1' : (m : Int) < 32 * A.n := by omega
    have q1 : (k + 16 * (ws.length : Int)).tdiv 16 = ws.length := by rw [Int.tdiv_eq_ediv_of_nonneg (by omega)]; omega
    have q2 : (k + 16 * (ws.length : Int)) / 16 = ws.length := by omega
    have q3 : (0 : Int) ≤ k + 16 * (ws.length : Int) := by omega
    generalize (k + 16 * (ws.length : Int)) = x at q1 q2 q3 KEY
    clear hi h e key h2 hk
    go_enter Tryz.func154, Tryz.ntmps154
    go_wp2_with (go_at_call 216; refine HI.out.mono ?_; rintro e w1 ⟨rfl, b1⟩; obtain ⟨c1, c2⟩ := KEY.out w1 b1)
    go_ret
    exact ⟨rfl, b1⟩
set_option maxRecDepth 100000 in
theorem rload_c (w : World) (h : RAr w ab sb cb tb wb A f) (a i : Int) : Calls Tryz.prog 145 #[.pointer (some ⟨ab, 0, none⟩), iv a, iv i] w fun e w' => e = .returned (.tuple #[iv (loadS A a i).1, iv (loadS A a i).2]) ∧ Below w.heap.size w w' := by
  have hi := ris_c w h a
  have hlen := fun w1 (hb : Below w.heap.size w w1) => rlen_c w1 (h.below hb) a
  cases e : objA A a with
  | none =>
    rw [(objA_none e).2.2]
    rw [e] at hi
    have HI := Lib.hid hi; clear hi h e hlen
    go_enter Tryz.func145, Tryz.ntmps145
    go_wp2_with (go_at_call 216; refine HI.out.mono ?_; rintro e w1 ⟨rfl, b1⟩)
    go_ret2
    exact ⟨rfl, b1⟩
  | some o =>
    obtain ⟨k, ws⟩ := o
    rw [e] at hi
    obtain ⟨m, rfl, h1, h1b, h2, k1, k2, h3, h4⟩ := h.word e
    have hk : lenA A m = ws.length := by unfold lenA; rw [e]
    rw [hk] at hlen
    have HI := Lib.hid hi; have HLEN := Lib.hid hlen
    by_cases i0 : i < 0
    · have hr : Hid (loadS A m i = (0, 1)) := by unfold Hid loadS; rw [e]; simp only; rw [if_pos i0]
      clear hi hlen h e h1 h1b h2 k1 k2 h3 h4 hk
      go_enter Tryz.func145, Tryz.ntmps145
      go_wp2_with (go_at_call 216; refine HI.out.mono ?_; rintro e w1 ⟨rfl, b1⟩)
      go_ret2
      exact ⟨ret_eq (by rw [hr.out]; rfl), b1⟩
    · obtain ⟨j, rfl⟩ := Int.eq_ofNat_of_zero_le (by omega : 0 ≤ i)
      by_cases hj : ws.length ≤ j
      · have hr : Hid (loadS A m j = (0, 1)) := by unfold Hid loadS; rw [e]; simp only; rw [if_neg i0, Int.toNat_natCast, List.getElem?_eq_none hj]
        have g1 : decide (j < 0) = false := by simp
        have g2 : decide ((j : Int) < 0) = false := by simp
        clear hi hlen h e h1 h1b h2 k1 k2 h3 h4 hk i0
        go_enter Tryz.func145, Tryz.ntmps145
        go_wp2_with (first | (go_at_call 216; refine HI.out.mono ?_; rintro e w1 ⟨rfl, b1⟩) | (go_at_call 154; refine (HLEN.out _ b1).mono ?_; rintro e w2 ⟨rfl, b2⟩))
        go_ret2
        exact ⟨ret_eq (by rw [hr.out]; rfl), b1.trans (b2.mono b1.size)⟩
      · have hx : ws[j]? = some (ws[j]'(by omega)) := List.getElem?_eq_getElem (by omega)
        have hr : Hid (loadS A m j = (ws[j]'(by omega), 0)) := by unfold Hid loadS; rw [e]; simp only; rw [if_neg i0, Int.toNat_natCast, hx]
        have hv := h4 j _ hx
        have key : ∀ w1, Below w.heap.size w w1 → w1.cell? ⟨ab, 1, none⟩ = some (.slice (some ⟨wb, 0, none⟩) (32 * A.n) (32 * A.n)) ∧ w1.cell? ⟨wb, m + 1 + j, none⟩ = some (iv (ws[j]'(by omega))) := fun w1 hb =>
          ⟨(h.below hb).top.at 1 rfl, by rw [(h.below hb).wAt (by omega), hv]⟩
        have KEY := Lib.hid key
        have hf := h.few
        have hj' : j < ws.length := by omega
        have hb' : (m : Int) + 1 + j < 32 * A.n := by omega
        generalize (ws[j]'(by omega) : Int) = x at KEY hr
        clear hi hlen h e h1 h2 k1 k2 h3 h4 hk i0 key hv hx hj
        go_enter Tryz.func145, Tryz.ntmps145
        go_wp2_with fail
        refine HI.out.mono ?_
        rintro e w1 ⟨rfl, b1⟩
        go_wp2_with fail
        refine (HLEN.out _ b1).mono ?_
        rintro e w2 ⟨rfl, b2⟩
        have b12 := b1.trans (b2.mono b1.size)
        obtain ⟨c1, c2⟩ := KEY.out w2 b12
        have B := Lib.hid b12; clear b1 b2 b12
        go_wp2
        go_ret2
        exact ⟨ret_eq (by rw [hr.out]; rfl), B.out⟩
set_option maxRecDepth 100000 in
theorem rstore_c (w : World) (h : RAr w ab sb cb tb wb A f) (a i v : Int) : Calls Tryz.prog 157 #[.pointer (some ⟨ab, 0, none⟩), iv a, iv i, iv v] w fun e w' => e = .returned (iv (storeS A a i v).2) ∧ (∃ f', RAr w' ab sb cb tb wb (storeS A a i v).1 f') ∧ Stp [wb] [wb] w w' := by
  have hl := rload_c w h a i
  by_cases e0 : (loadS A a i).2 = 0
  · have hs : ∃ (m : Nat) (k : Int) (ws : List Int) (j : Nat), a = (m : Int) ∧ i = (j : Int) ∧ A.obj m = some (k, ws) ∧ j < ws.length := by
      unfold loadS at e0
      cases e : objA A a with
      | none => rw [e] at e0; cases e0
      | some o =>
        obtain ⟨k, ws⟩ := o
        rw [e] at e0
        simp only at e0
        by_cases i0 : i < 0
        · rw [if_pos i0] at e0; cases e0
        rw [if_neg i0] at e0
        cases e2 : ws[i.toNat]? with
        | none => rw [e2] at e0; cases e0
        | some x =>
          obtain ⟨h0, h1⟩ := objA_nonneg e
          exact ⟨a.toNat, k, ws, i.toNat, by omega, by omega, h1, (List.getElem?_eq_some_iff.1 e2).1⟩
    obtain ⟨m, k, ws, j, rfl, rfl, e, hj⟩ := hs
    have hst : storeS A m j v = ({ A with obj := updO A.obj m (some (k, ws.set j v)) }, 0) := by
      unfold storeS objA
      rw [if_neg (by omega), Int.toNat_natCast, e]
      simp only
      rw [if_neg (by omega), if_neg (by omega), Int.toNat_natCast]
    have key : ∀ w1, Below w.heap.size w w1 → w1.cell? ⟨ab, 1, none⟩ = some (.slice (some ⟨wb, 0, none⟩) (32 * A.n) (32 * A.n)) ∧ (∃ x, w1.cell? ⟨wb, m + 1 + j, none⟩ = some x) ∧ w1.frozen? ⟨wb, m + 1 + j, none⟩ = false ∧ RAr (w1.setCell ⟨wb, m + 1 + j, none⟩ (iv v)) ab sb cb tb wb { A with obj := updO A.obj m (some (k, ws.set j v)) } (fun x => if x = m + 1 + j then v else f x) := fun w1 hb => by
      have h' := h.below hb
      obtain ⟨s, p1, p2, p3, p4, p5⟩ := h.wf.slot e
      exact ⟨h'.top.at 1 rfl, ⟨_, h'.wAt (by omega)⟩, h'.cells.free _, h'.setWord e hj v⟩
    rw [hst]
    rw [e0] at hl
    generalize (loadS A m j).1 = x0 at hl
    have KEY := Lib.hid key; have HL := Lib.hid hl
    obtain ⟨s, p1, p2, p3, p4, p5⟩ := h.wf.slot e
    have hf := h.few
    have hb' : (m : Int) + 1 + j < 32 * A.n := by omega
    clear key hl hst e0 e p1 p2 p3 p4 p5 h
    go_enter Tryz.func157, Tryz.ntmps157
    go_wp2_with fail
    refine HL.out.mono ?_
    rintro e w1 ⟨rfl, b1⟩
    obtain ⟨c1, ⟨x, c2⟩, c3, c4⟩ := KEY.out w1 b1
    have C4 := Lib.hid c4; have B := Lib.hid b1; clear b1 c4
    go_wp2
    go_ret
    exact ⟨rfl, ⟨_, C4.out⟩, (Stp.below B.out).trans (Stp.set (by simp) _ _)⟩
  · have hst : storeS A a i v = (A, (loadS A a i).2) := by
      unfold loadS at e0 ⊢
      unfold storeS
      cases e : objA A a with
      | none => rfl
      | some o =>
        obtain ⟨k, ws⟩ := o
        rw [e] at e0
        simp only at e0 ⊢
        by_cases i0 : i < 0
        · rw [if_pos i0, if_pos i0]
        rw [if_neg i0] at e0 ⊢
        rw [if_neg i0]
        cases e2 : ws[i.toNat]? with
        | none => rw [if_pos (by have := List.getElem?_eq_none_iff.1 e2; omega)]
        | some x => rw [e2] at e0; exact absurd rfl e0
    rw [hst]
    have t1 : ((loadS A a i).2 == 0) = false := by simpa using e0
    have H := Lib.hid (fun w1 (hb : Below w.heap.size w w1) => h.below hb)
    generalize (loadS A a i).1 = x0 at hl
    generalize (loadS A a i).2 = e at hl t1
    have HL := Lib.hid hl
    clear hl hst h e0
    go_enter Tryz.func157, Tryz.ntmps157
    go_wp2_with fail
    refine HL.out.mono ?_
    rintro e' w1 ⟨rfl, b1⟩
    go_wp2
    go_ret
    exact ⟨rfl, ⟨_, H.out _ b1⟩, Stp.below b1⟩
end Go.Proofs.YtcnppdbgieaddaaGreat

namespace Go.Proofs.YtcnppdbgieaddaaGreat
open Go.RowKit
set_option linter.unusedVariables false
set_option linter.unusedSimpArgs false
variable {w w' : World} {ab sb cb tb wb : Nat} {A : AS} {f : Nat → Int}

def RAPost (ab sb cb tb wb : Nat) (x : (Int × Int) × AS) (w : World) (e : Ending) (w' : World) : Prop :=
  e = .returned (.tuple #[iv x.1.1, iv x.1.2]) ∧ (∃ f', RAr w' ab sb cb tb wb x.2 f') ∧ Stp [cb, tb, wb] [cb, tb, wb] w w'
/-- The words ahead of p are cleared. -/
def clearF (f : Nat → Int) (a p : Nat) : Nat → Int := fun x => if a ≤ x ∧ x < a + p then 0 else f x
theorem clearF_succ (f : Nat → Int) (a p x : Nat) : (if x = a + p then 0 else clearF f a p x) = clearF f a (p + 1) x := by
  unfold clearF
  by_cases h : x = a + p
  · rw [if_pos h, if_pos (by omega)]
  · rw [if_neg h]
    by_cases h2 : a ≤ x ∧ x < a + p
    · rw [if_pos h2, if_pos (by omega)]
    · rw [if_neg h2, if_neg (by omega)]
theorem newF_clear (f : Nat → Int) (a m : Nat) (hm : 1 ≤ m) (v : Int) (x : Nat) : (if x = a then v else clearF f a m x) = newF f a m v x := by
  unfold clearF newF
  by_cases h : x = a
  · rw [if_pos h, if_pos h]
  · rw [if_neg h, if_neg h]
    by_cases h2 : a < x ∧ x < a + m
    · rw [if_pos h2, if_pos (by omega)]
    · rw [if_neg h2, if_neg (by omega)]

set_option maxRecDepth 100000 in
set_option maxHeartbeats 1000000 in
theorem raalloc_c (w : World) (h : RAr w ab sb cb tb wb A f) (kind n : Int) : Calls Tryz.prog 200 #[.pointer (some ⟨ab, 0, none⟩), iv kind, iv n] w (RAPost ab sb cb tb wb (allocS A kind n) w) := by
  have hc := rclass_c n w
  have H0 := Lib.hid (fun w1 (hb : Below w.heap.size w w1) => h.below hb)
  unfold allocS
  by_cases g : kind < 1 ∨ 6 < kind ∨ (classC n).2 = false
  · rw [if_pos g]
    have hend : ∀ w1, Below w.heap.size w w1 → RAPost ab sb cb tb wb ((0, 1), A) w (.returned (.tuple #[iv 0, iv 1])) w1 := fun w1 hb => ⟨rfl, ⟨_, H0.out w1 hb⟩, Stp.below hb⟩
    have HE := Lib.hid hend; clear hend
    generalize (classC n).1 = c at hc
    generalize hb0 : (classC n).2 = b at hc g
    have HC := Lib.hid hc
    clear hc h hb0 H0
    by_cases g1 : kind < 1
    · have t1 : decide (kind < 1) = true := by simpa using g1
      clear g
      go_enter Tryz.func200, Tryz.ntmps200
      go_wp2_with (go_at_call 167; refine HC.out.mono ?_; rintro e w1 ⟨rfl, b1⟩)
      go_ret2
      exact HE.out _ b1
    · have t1 : decide (kind < 1) = false := by simpa using g1
      by_cases g2 : 6 < kind
      · have t2 : decide (kind > 6) = true := by simpa using g2
        clear g
        go_enter Tryz.func200, Tryz.ntmps200
        go_wp2_with (go_at_call 167; refine HC.out.mono ?_; rintro e w1 ⟨rfl, b1⟩)
        go_ret2
        exact HE.out _ b1
      · have t2 : decide (kind > 6) = false := by simpa using g2
        obtain rfl : b = false := by rcases g with g | g | g; exact absurd g g1; exact absurd g g2; exact g
        clear g
        go_enter Tryz.func200, Tryz.ntmps200
        go_wp2_with (go_at_call 167; refine HC.out.mono ?_; rintro e w1 ⟨rfl, b1⟩)
        go_ret2
        exact HE.out _ b1
  rw [if_neg g]
  have g1 : ¬ kind < 1 := fun q => g (.inl q)
  have g2 : ¬ 6 < kind := fun q => g (.inr (.inl q))
  have g3 : (classC n).2 = true := by cases q : (classC n).2 with | true => rfl | false => exact absurd (.inr (.inr q)) g
  obtain ⟨c4, n0, nw⟩ := classC_in g3
  obtain ⟨n, rfl⟩ := Int.eq_ofNat_of_zero_le n0
  rw [Int.toNat_natCast] at nw
  rw [g3] at hc
  have t1 : decide (kind < 1) = false := by simpa using g1
  have t2 : decide (kind > 6) = false := by simpa using g2
  generalize (classC (n : Int)).1 = c at hc c4 nw ⊢
  have hal := fun w1 (hb : Below w.heap.size w w1) => ralloc_sp_c w1 (h.below hb).spans c c4
  rw [rspot_eq h.wf] at hal
  have hspec := fun i s (e : spotA A c = some (i, s)) => spotA_spec c4 e
  have hwords := fun w1 => rwords_c c w1
  have hwn : wordsC c = (wN c : Int) := by rcases c4 with rfl | rfl | rfl | rfl <;> rfl
  rw [hwn] at hwords
  have hwn2 : 1 ≤ wN c ∧ wN c ≤ 32 := by rcases wN_pos c4 with ⟨x, _⟩ | ⟨x, _⟩ | ⟨x, _⟩ | ⟨x, _⟩ <;> omega
  cases e : spotA A c with
  | none =>
    rw [e] at hal
    have hend : ∀ w1, Below w.heap.size w w1 → RAPost ab sb cb tb wb ((0, 9), A) w (.returned (.tuple #[iv 0, iv 9])) w1 := fun w1 hb => ⟨rfl, ⟨_, H0.out w1 hb⟩, Stp.below hb⟩
    have HE := Lib.hid hend; have HC := Lib.hid hc; have HAL := Lib.hid hal
    have K := Lib.hid (fun w1 (hb : Below w.heap.size w w1) => (h.below hb).top.at 0 rfl)
    clear hend hc hal h hspec hwords hwn hwn2 e H0 c4 nw g g3
    go_enter Tryz.func200, Tryz.ntmps200
    go_wp2_with fail
    refine HC.out.mono ?_
    rintro e w1 ⟨rfl, b1⟩
    have k0 := K.out w1 b1
    go_wp2_with fail
    refine (HAL.out w1 b1).mono ?_
    unfold RAllocPost
    rintro e w2 ⟨rfl, b2⟩
    go_wp2
    go_ret2
    exact HE.out _ (b1.trans (b2.mono b1.size))
  | some q =>
    obtain ⟨i, s⟩ := q
    rw [e] at hal
    obtain ⟨hi, hs, ho⟩ := hspec i s e
    obtain ⟨p1, p2, p3⟩ := spot_at c4 hs (i := i)
    have hf := h.few
    simp only
    obtain ⟨m, hm⟩ : ∃ m, m = wN c := ⟨_, rfl⟩
    obtain ⟨a, ha⟩ : ∃ a, a = i * 32 + s * wN c := ⟨_, rfl⟩
    have hlt : a + m ≤ 32 * A.n := by omega
    -- what the world holds behind the spans' turn
    have hne := h.ne
    have key : ∀ w1, Below w.heap.size w w1 → ∀ w2, RSp w2 sb cb tb A.n (updN A.cls i c) (updU (usedA A) i s true) → Stp [cb, tb] [cb, tb] w1 w2 →
        Blk w2 ab [.pointer (some ⟨sb, 0, none⟩), .slice (some ⟨wb, 0, none⟩) (32 * A.n) (32 * A.n)] ∧ Blk w2 wb ((List.range (32 * A.n)).map fun j => iv (f j)) := fun w1 hb w2 hsp hst => by
      have h1 := h.below hb
      obtain ⟨n1, n2, n3, n4, n5, n6, n7⟩ := hne
      exact ⟨h1.top.keep (hst.block _ h1.top.lt (by simp [n2, n3])), h1.cells.keep (hst.block _ h1.cells.lt (by simp [n6, n7]))⟩
    have hfin : ∀ w2, RSp w2 sb cb tb A.n (updN A.cls i c) (updU (usedA A) i s true) → Blk w2 ab [.pointer (some ⟨sb, 0, none⟩), .slice (some ⟨wb, 0, none⟩) (32 * A.n) (32 * A.n)] → Blk w2 wb ((List.range (32 * A.n)).map fun j => iv (clearF f a m j)) →
        ∃ f', RAr (w2.setCell ⟨wb, a, none⟩ (iv (kind + 16 * n))) ab sb cb tb wb { A with cls := updN A.cls i c, obj := updO A.obj a (some (kind, List.replicate n 0)) } f' := fun w2 hsp hb hc => by
      obtain ⟨n1, n2, n3, n4, n5, n6, n7⟩ := hne
      subst hm
      subst ha
      have hk : ∀ b, b ≠ wb → (w2.setCell ⟨wb, i * 32 + s * wN c, none⟩ (iv (kind + 16 * n))).heap[b]? = w2.heap[b]? := fun b q => Below.heap_setCell _ _ _ _ q
      refine ⟨newF f (i * 32 + s * wN c) (wN c) (kind + 16 * n), ?_⟩
      refine h.add c4 hi hs ho ⟨by omega, by omega⟩ nw (hb.keep (hk _ n4)) (hsp.keep fun b q => hk b (by rcases q with rfl | rfl | rfl; exact fun z => n5 z.symm; exact fun z => n6 z.symm; exact fun z => n7 z.symm)) ?_
      have := hc.set (i * 32 + s * wN c) (iv (kind + 16 * n))
      rw [range_set (by omega)] at this
      simp only [newF_clear f (i * 32 + s * wN c) (wN c) (show 1 ≤ wN c by omega)] at this
      exact this
    have KEY := Lib.hid key; have HFIN := Lib.hid hfin; have HC := Lib.hid hc; have HAL := Lib.hid hal; have HW := Lib.hid hwords
    have K := Lib.hid (fun w1 (hb : Below w.heap.size w w1) => (h.below hb).top.at 0 rfl)
    have hsum : (i : Int) * 32 + (s : Int) * (m : Int) = (a : Int) := by rw [ha, ← hm]; push_cast; rfl
    have HA := Lib.hid ha
    rw [← ha, Int.toNat_natCast]
    rw [← hm] at HW
    have hi' : i < 128 := by omega
    have hs' : s < 8 := by rcases wN_pos c4 with ⟨_, x⟩ | ⟨_, x⟩ | ⟨_, x⟩ | ⟨_, x⟩ <;> omega
    have hn' : n < 32 := by omega
    have hm1 : 1 ≤ m ∧ m ≤ 32 := by omega
    obtain ⟨hm1, hm2⟩ := hm1
    have hsm : (s : Int) * (m : Int) ≤ 256 := by
      have : s * m ≤ 8 * 32 := Nat.mul_le_mul (by omega) hm2
      omega
    have hsm0 : (0 : Int) ≤ (s : Int) * (m : Int) := by omega
    have hnw : Hid (wb ≠ sb ∧ wb ≠ cb ∧ wb ≠ tb ∧ ab ≠ wb) := ⟨hne.2.2.2.2.1, hne.2.2.2.2.2.1, hne.2.2.2.2.2.2, hne.2.2.2.1⟩
    clear key hfin hc hal hwords h hspec e ho p1 p2 p3 hne H0 g g3 hwn hwn2 nw c4 ha hm
    go_enter Tryz.func200, Tryz.ntmps200
    go_wp2_with fail
    refine HC.out.mono ?_
    rintro e w1 ⟨rfl, b1⟩
    have k0 := K.out w1 b1
    go_wp2_with fail
    refine (HAL.out w1 b1).mono ?_
    unfold RAllocPost
    rintro e w2 ⟨rfl, _, _, hsp, hst⟩
    obtain ⟨x1, x2⟩ := KEY.out w1 b1 w2 hsp hst
    have st2 := (Stp.below b1 : Stp [cb, tb] [cb, tb] w w1).trans hst
    have ST := Lib.hid st2; have SP := Lib.hid hsp; have X1 := Lib.hid x1; have X2 := Lib.hid x2
    clear k0 b1 hsp hst x1 x2 st2 HAL HC K KEY
    go_wp2_with fail
    refine (HW.out w2).mono ?_
    rintro e w3 ⟨rfl, b3⟩
    have hJ : Hid (RSp w3 sb cb tb A.n (updN A.cls i c) (updU (usedA A) i s true) ∧ Blk w3 ab [.pointer (some ⟨sb, 0, none⟩), .slice (some ⟨wb, 0, none⟩) (32 * A.n) (32 * A.n)] ∧ Blk w3 wb ((List.range (32 * A.n)).map fun j => iv (clearF f a 0 j)) ∧ Stp [cb, tb, wb] [cb, tb, wb] w w3) := by
      refine ⟨SP.out.below b3, X1.out.keep (b3.block _ X1.out.lt), ?_, (ST.out.sub (by simp)).trans (Stp.below b3)⟩
      have : (fun j => iv (clearF f a 0 j)) = fun j => iv (f j) := by funext j; unfold clearF; rw [if_neg (by omega)]
      rw [this]
      exact X2.out.keep (b3.block _ X2.out.lt)
    clear b3 SP X1 X2 ST
    go_wp2_with fail
    go_loopw [13] (fun v13 wr => ∃ p : Nat, p ≤ m ∧ v13 = iv p ∧ Hid (RSp wr sb cb tb A.n (updN A.cls i c) (updU (usedA A) i s true) ∧ Blk wr ab [.pointer (some ⟨sb, 0, none⟩), .slice (some ⟨wb, 0, none⟩) (32 * A.n) (32 * A.n)] ∧ Blk wr wb ((List.range (32 * A.n)).map fun j => iv (clearF f a p j)) ∧ Stp [cb, tb, wb] [cb, tb, wb] w wr)) (fun v13 _ => m - (intOf v13).toNat)
    case atStart => exact ⟨0, by omega, rfl, hJ⟩
    case round =>
      obtain ⟨p, hp, rfl, hj⟩ := hrel
      clear hJ
      by_cases hlt2 : p < m
      · have hlt3 : (p : Int) < m := by omega
        go_wp2_with fail
        refine (HW.out wr).mono ?_
        rintro e w4 ⟨rfl, b4⟩
        obtain ⟨j1, j2, j3, j4⟩ := hj.out
        have q2 := j2.keep (b4.block _ j2.lt)
        have q3 := j3.keep (b4.block _ j3.lt)
        have q1 := j1.below b4
        have q4 := j4.trans (Stp.below b4)
        have c1 := q2.at 1 rfl
        have c2 : w4.cell? ⟨wb, a + p, none⟩ = some (iv (clearF f a p (a + p))) := by rw [q3.cell]; simp [show a + p < 32 * A.n from by omega]
        have c3 := q3.free (a + p)
        have hJ2 : Hid (RSp (w4.setCell ⟨wb, a + p, none⟩ (iv 0)) sb cb tb A.n (updN A.cls i c) (updU (usedA A) i s true) ∧ Blk (w4.setCell ⟨wb, a + p, none⟩ (iv 0)) ab [.pointer (some ⟨sb, 0, none⟩), .slice (some ⟨wb, 0, none⟩) (32 * A.n) (32 * A.n)] ∧ Blk (w4.setCell ⟨wb, a + p, none⟩ (iv 0)) wb ((List.range (32 * A.n)).map fun j => iv (clearF f a (p + 1) j)) ∧ Stp [cb, tb, wb] [cb, tb, wb] w (w4.setCell ⟨wb, a + p, none⟩ (iv 0))) := by
          obtain ⟨n5, n6, n7, n4⟩ := hnw.out
          refine ⟨q1.keep fun b q => Below.heap_setCell _ _ _ _ (by rcases q with rfl | rfl | rfl; exact fun z => n5 z.symm; exact fun z => n6 z.symm; exact fun z => n7 z.symm), q2.set_other n4 _ _, ?_, q4.trans (Stp.set (by simp) _ _)⟩
          have := q3.set (a + p) (iv 0)
          rw [range_set (by omega)] at this
          simp only [clearF_succ] at this
          exact this
        generalize clearF f a p (a + p) = x at c2
        clear j1 j2 j3 j4 q1 q2 q3 q4 hj b4
        go_wp2
        go_roundw
        case rel => exact ⟨p + 1, by omega, by go_num, hJ2⟩
        case measure => simp [intOf]; omega
      · obtain rfl : p = m := by omega
        go_wp2_with fail
        refine (HW.out wr).mono ?_
        rintro e w4 ⟨rfl, b4⟩
        obtain ⟨j1, j2, j3, j4⟩ := hj.out
        have q2 := j2.keep (b4.block _ j2.lt)
        have q3 := j3.keep (b4.block _ j3.lt)
        have q1 := j1.below b4
        have q4 := j4.trans (Stp.below b4)
        have c1 := q2.at 1 rfl
        have c2 : w4.cell? ⟨wb, a, none⟩ = some (iv (clearF f a p a)) := by rw [q3.cell]; simp [show a < 32 * A.n from by omega]
        have c3 := q3.free a
        have hFF := Lib.hid (HFIN.out w4 q1 q2 q3)
        have hS4 := Lib.hid (q4.trans (Stp.set (b := wb) (by simp) a (iv (kind + 16 * n))))
        generalize clearF f a p a = x at c2
        clear j1 j2 j3 j4 q1 q2 q3 q4 hj b4
        go_wp2
        go_ret2
        exact ⟨rfl, hFF.out, hS4.out⟩
end Go.Proofs.YtcnppdbgieaddaaGreat

namespace Go.Proofs.YtcnppdbgieaddaaGreat
open Go.RowKit
set_option linter.unusedVariables false
set_option linter.unusedSimpArgs false
variable {w w' : World} {gb : Nat} {v : Value} {l : List Int} {over : Bool}

def RPushPost (gb : Nat) (v : Value) (x : List Int × Bool × Bool) (w : World) (e : Ending) (w' : World) : Prop :=
  e = .returned (.bool x.2.2) ∧ ∃ v', RGrey w' gb v' x.1 x.2.1 ∧ Stp (greyOwn gb v) (greyOwn gb v') w w'

set_option maxRecDepth 100000 in
theorem rpush_c (w : World) (h : RGrey w gb v l over) (a : Int) : Calls Tryz.prog 217 #[.pointer (some ⟨gb, 0, none⟩), iv a] w (RPushPost gb v (pushG l over a) w) := by
  have k0 := h.top.at 0 rfl; have k1 := h.top.at 1 rfl
  have f0 := h.top.free 0; have f1 := h.top.free 1
  obtain ⟨o, c, hv⟩ := own_form h.row
  subst hv
  by_cases hl : 8 ≤ l.length
  · have hr : Hid (pushG l over a = (l, true, false)) := by simp [Hid, pushG, hl]
    have t1 : decide (8 ≤ l.length) = true := by simpa using hl
    have t2 : decide ((l.length : Int) ≥ 8) = true := by simp; omega
    have H := Lib.hid h; clear h
    go_enter Tryz.func217, Tryz.ntmps217
    go_wp2
    go_ret
    unfold RPushPost
    rw [hr.out]
    exact ⟨rfl, _, ⟨H.out.top.set 1 _, ownsRow_setCell_other H.out.row H.out.ne _, H.out.ne, H.out.few⟩, Stp.set (by simp [greyOwn]) _ _⟩
  · have hr : Hid (pushG l over a = (l ++ [a], over, true)) := by simp [Hid, pushG, hl]
    have t1 : decide (8 ≤ l.length) = false := by simpa using hl
    have t2 : decide ((l.length : Int) ≥ 8) = false := by simp; omega
    have hl' : l.length < 8 := by omega
    have hI := Lib.hid (IntsAt.ofOwn h.row)
    have hlt := Lib.hid h.lt
    have H := Lib.hid h; clear h
    go_enter Tryz.func217, Tryz.ntmps217
    go_wp2_with (at_builtin; refine wpList_appendI (l := []) rfl (.const (.slice none 0 0)) (.tmp 18) rfl w.heap.size rfl (World.ownsRow_nil _ _ _ _) rfl hI.out (by simp; omega) (Nat.le_refl _) ?_)
    intro v1 w1 hown1 hg1 _
    have b1 : Below w.heap.size w w1 := below_grown0 hg1
    have O1 := Lib.hid hown1; have B1 := Lib.hid b1
    have hsz := b1.size
    clear hown1 hg1 b1 hI
    go_wp2_with (at_builtin; refine wpList_appendI rfl (.tmp 19) (.tmp 21) rfl w.heap.size rfl (O1.out.alloc _) rfl (ints_one w1 a _) (by simp; omega) (by simp; omega) ?_)
    intro v2 w2 hown2 hg2 _
    have b2 : Below w.heap.size w w2 := ((B1.out.alloc hsz _).trans ((below_grown (O1.out.alloc _) hg2 (by simp; omega))))
    have hg := hlt.out gb (by simp [greyOwn])
    have hgr : RGrey w2 gb (.slice o l.length c) l over := H.out.below b2
    obtain ⟨o2, c2, hv2⟩ := own_form hown2
    subst hv2
    have hne2 : (Value.slice o2 (l.length + 1) c2).ownBlock ≠ some gb := fun e => by have := (hown2.lt _ e).1; omega
    have k2 := hgr.top.at 0 rfl
    have f2 := hgr.top.free 0
    have hown3 : w2.ownsRow w.heap.size 3 1 (.slice o2 (l.length + 1) c2) (l ++ [a]).length (intsV (l ++ [a])) := by simpa [intsV] using hown2
    have O2 := Lib.hid hown3; have B2 := Lib.hid b2; have GR := Lib.hid hgr; have NE := Lib.hid hne2
    clear hown2 hown3 hg2 b2 hgr hne2 O1 B1
    go_wp2
    go_ret
    unfold RPushPost
    rw [hr.out]
    refine ⟨rfl, _, ⟨by have := GR.out.top.set 0 (.slice o2 (l.length + 1) c2); exact this, ownsRow_setCell_other (row_low O2.out (Nat.zero_le _)) NE.out _, NE.out, by simp; omega⟩, ?_⟩
    have hst : Stp (greyOwn gb (.slice o l.length c)) (greyOwn gb (.slice o l.length c)) w (w2.setCell ⟨gb, 0, none⟩ (.slice o2 (l.length + 1) c2)) := (Stp.below B2.out).trans (Stp.set (by simp [greyOwn]) _ _)
    refine ⟨hst.os, hst.tape, hst.output, hst.size, hst.block, fun b hb => ?_⟩
    simp only [greyOwn, List.mem_cons, Option.mem_toList] at hb ⊢
    rcases hb with rfl | hb
    · exact .inl (.inl rfl)
    · exact .inr (O2.out.lt b hb).1
end Go.Proofs.YtcnppdbgieaddaaGreat

namespace Go.Proofs.YtcnppdbgieaddaaGreat
open Go.RowKit
set_option linter.unusedVariables false
set_option linter.unusedSimpArgs false
variable {w w' : World} {R : RLay} {s : PH}

theorem kindA_pos {A : AS} (h : WfAS A) {a : Int} : (objA A a).isSome = true ↔ kindA A a ≠ 0 := by
  unfold kindA
  cases e : objA A a with
  | none => simp
  | some o =>
    obtain ⟨k, ws⟩ := o
    obtain ⟨h0, h1⟩ := objA_nonneg e
    have := (h.obj _ _ _ h1).2.2.2.2.1
    simp only [Option.isSome_some, true_iff]; omega
set_option maxRecDepth 100000 in
theorem rshade_c (w : World) (h : RefAt w R s) (a : Int) : Calls Tryz.prog 146 #[rptr R, iv a] w (RPost R (shadeH s a) (.tuple #[]) w) := by
  have c0 := h.c0
  have c3 := h.c3
  obtain ⟨f, ha⟩ := h.arena
  have hi := ris_c w ha a
  have hend : shadeH s a = s → ∀ w1, Below w.heap.size w w1 → RPost R (shadeH s a) (.tuple #[]) w (.returned (.tuple #[])) w1 := fun e w1 hb => by rw [e]; exact RPost.same h _ hb
  by_cases e1 : s.phase = 1
  · rw [e1] at c3
    cases e2 : objA s.A a with
    | none =>
      rw [e2] at hi
      have HE := Lib.hid (hend (by unfold shadeH; rw [if_pos (.inr (.inl (objA_none e2).1))])); have HI := Lib.hid hi; clear hend hi h e1 e2 ha
      go_enter Tryz.func146, Tryz.ntmps146
      go_wp2_with (go_at_call 216; refine HI.out.mono ?_; rintro e w1 ⟨rfl, b1⟩)
      refine bodyPost_ret (results_none rfl _ _ _) rfl ?_
      exact HE.out _ b1
    | some o =>
      obtain ⟨k, ws⟩ := o
      rw [e2] at hi
      obtain ⟨m, rfl, h1, h1b, h2, k1, k2, h3, h4⟩ := ha.word e2
      have hkind : kindA s.A m = k := by unfold kindA; rw [e2]
      have hobj : (s.A.obj m).isSome = true := by have := (objA_nonneg e2).2; rw [Int.toNat_natCast] at this; rw [this]; rfl
      obtain ⟨g, hg, hgc⟩ := h.cols
      have hcol : colourH s m = s.m m := by unfold colourH; rw [if_neg (by omega)]
      have hgm := hgc m hobj
      have hfew := h.few
      have h1' : (m : Int) < 32 * s.A.n := by omega
      have key : ∀ w1, Below w.heap.size w w1 → RefAt w1 R s ∧ w1.cell? ⟨R.hb, 1, none⟩ = some (.slice (some ⟨R.kb, 0, none⟩) (32 * s.A.n) (32 * s.A.n)) ∧ w1.cell? ⟨R.kb, m, none⟩ = some (iv (s.m m)) ∧ w1.frozen? ⟨R.kb, m, none⟩ = false := fun w1 hb => by
        have q := h.below hb
        have qg := hg.keep (hb.block _ hg.lt)
        exact ⟨q, q.c1, by rw [qg.cell, ← hgm]; simp [h1], qg.free m⟩
      have KEY := Lib.hid key; have HI := Lib.hid hi
      by_cases e3 : s.m m = 0
      · have hr : Hid (shadeH s m = { s with m := updM s.m m 1, l := (pushG s.l s.over m).1, over := (pushG s.l s.over m).2.1 }) := by
          unfold Hid shadeH; rw [if_neg]; rw [hcol]; rintro (q | q | q)
          · exact q e1
          · omega
          · exact q e3
        have K0 := Lib.hid (show ∀ w1, Below w.heap.size w w1 → w1.cell? ⟨R.kb, m, none⟩ = some (iv 0) from fun w1 hb => by rw [← e3]; exact (key w1 hb).2.2.1)
        clear key hi hend h ha hg hgc hgm hcol hobj hkind h2 h4 e2 e1 e3 h1b
        go_enter Tryz.func146, Tryz.ntmps146
        go_wp2_with fail
        refine HI.out.mono ?_
        rintro e w1 ⟨rfl, b1⟩
        obtain ⟨q0, q1, qz, q3⟩ := KEY.out w1 b1
        clear qz
        have q2 := K0.out w1 b1
        have h5 := q0.setCol h1 1
        have c2 := h5.c2
        have hp := rpush_c (w1.setCell ⟨R.kb, m, none⟩ (iv 1)) h5.grey m
        have HP := Lib.hid hp; have H5 := Lib.hid h5; have B := Lib.hid b1
        clear q0 b1 h5 hp KEY K0
        go_wp2_with fail
        refine HP.out.mono ?_
        unfold RPushPost
        rintro e w4 ⟨rfl, v', g4, st4⟩
        obtain ⟨h6, s6⟩ := H5.out.greyTo g4 st4
        have hlt := H5.out.lt
        go_wp2
        go_end0
        refine ⟨rfl, { R with gv := v' }, by rw [hr.out]; exact h6, rfl, rfl, ?_⟩
        exact ((Stp.below B.out).trans (Stp.set (b := R.kb) (by simp [RLay.own]) _ _)).trans s6
      · have HE := Lib.hid (hend (by unfold shadeH; rw [if_pos]; rw [hcol]; exact .inr (.inr e3)))
        have t3 : ((s.m m) == 0) = false := by simpa using e3
        generalize s.m m = cc at KEY t3
        clear key hi hend h ha hg hgc hgm hcol hobj hkind h2 h4 e2 e1 e3 h1b
        go_enter Tryz.func146, Tryz.ntmps146
        go_wp2_with fail
        refine HI.out.mono ?_
        rintro e w1 ⟨rfl, b1⟩
        obtain ⟨q0, q1, q2, q3⟩ := KEY.out w1 b1
        clear q0
        go_wp2
        refine bodyPost_ret (results_none rfl _ _ _) rfl ?_
        exact HE.out _ b1
  · have t1 : (s.phase == 1) = false := by simpa using e1
    have HE := Lib.hid (hend (by simp [shadeH, e1])); clear hend hi h e1 ha
    generalize s.phase = ph at c3 t1
    go_enter Tryz.func146, Tryz.ntmps146
    go_wp2
    refine bodyPost_ret (results_none rfl _ _ _) rfl ?_
    exact HE.out _ (Below.refl _ _)

theorem storeS_shape (A : AS) (a i v : Int) : (storeS A a i v).1.n = A.n ∧ ∀ b, ((storeS A a i v).1.obj b).isSome = true → (A.obj b).isSome = true := by
  unfold storeS
  cases e : objA A a with
  | none => exact ⟨rfl, fun _ h => h⟩
  | some o =>
    obtain ⟨k, ws⟩ := o
    simp only
    repeat' split
    · exact ⟨rfl, fun _ h => h⟩
    · exact ⟨rfl, fun _ h => h⟩
    · refine ⟨rfl, fun b hb => ?_⟩
      simp only [updO] at hb
      by_cases q : b = a.toNat
      · rw [q, (objA_nonneg e).2]; rfl
      · rw [if_neg q] at hb; exact hb
theorem rhstore_c (w : World) (h : RefAt w R s) (a i v : Int) (hv : I64 v) : Calls Tryz.prog 73 #[rptr R, iv a, iv i, iv v] w (RPost R (storeH s a i v).1 (iv (storeH s a i v).2) w) := by
  have c0 := h.c0
  obtain ⟨f, ha⟩ := h.arena
  have hs := rstore_c w ha a i v
  have h64 := storeS_i64 h.i64 a i v hv
  obtain ⟨hn, ho⟩ := storeS_shape s.A a i v
  unfold storeH
  generalize storeS s.A a i v = x at hs h64 hn ho ⊢
  obtain ⟨A', e⟩ := x
  simp only at hs h64 hn ho ⊢
  have key : ∀ w1 f', RAr w1 R.ab R.sb R.cb R.tb R.wb A' f' → Stp [R.wb] [R.wb] w w1 → RefAt w1 R { s with A := A' } ∧ Stp R.own R.own w w1 := fun w1 f' h1 h2 =>
    ⟨h.arenaTo h1 hn (h2.sub (by simp)) ho h64, h2.sub (by simp [RLay.own])⟩
  have KEY := Lib.hid key; have HS := Lib.hid hs
  clear key h64 hn ho hs h ha
  by_cases e0 : e = 0
  · subst e0
    simp only [if_true]
    have hp := Lib.hid (risPtr_c v)
    by_cases hv2 : v % 2 = 1
    · rw [if_pos (isP_yes hv2)]
      rw [isP_yes hv2] at hp
      have hat := Lib.hid (rat_c v hv)
      clear hv hv2
      go_enter Tryz.func73, Tryz.ntmps73
      go_wp2_with fail
      refine HS.out.mono ?_
      rintro e w1 ⟨rfl, ⟨f', k1⟩, k2⟩
      obtain ⟨h1, s1⟩ := KEY.out w1 f' k1 k2
      have hsh := Lib.hid (rshade_c w1 h1 (atW v))
      have S1 := Lib.hid s1
      clear k1 k2 h1 s1 KEY HS
      go_wp2_with fail
      refine (hp.out w1).mono ?_
      rintro e w2 ⟨rfl, rfl⟩
      go_wp2_with fail
      refine (hat.out w1).mono ?_
      rintro e w2 ⟨rfl, rfl⟩
      go_wp2_with fail
      refine hsh.out.mono ?_
      rintro e w2 ⟨rfl, R', h2, q1, q2, st2⟩
      have H2 := Lib.hid h2; have Q := Lib.hid q1; have Q2 := Lib.hid q2; have S2 := Lib.hid st2; clear h2 q1 q2 st2
      go_wp2
      go_ret
      exact ⟨rfl, R', H2.out, Q.out, Q2.out, S1.out.trans S2.out⟩
    · rw [isP_no hv2] at hp ⊢
      simp only [Bool.false_eq_true, if_false]
      clear hv hv2
      go_enter Tryz.func73, Tryz.ntmps73
      go_wp2_with fail
      refine HS.out.mono ?_
      rintro e w1 ⟨rfl, ⟨f', k1⟩, k2⟩
      obtain ⟨h1, s1⟩ := KEY.out w1 f' k1 k2
      have H1 := Lib.hid h1; have S1 := Lib.hid s1
      clear k1 k2 h1 s1 KEY HS
      go_wp2_with fail
      refine (hp.out w1).mono ?_
      rintro e w2 ⟨rfl, rfl⟩
      go_wp2
      go_ret
      exact ⟨rfl, R, H1.out, rfl, rfl, S1.out⟩
  · rw [if_neg e0]
    have t1 : (e == 0) = false := by simpa using e0
    clear e0 hv
    go_enter Tryz.func73, Tryz.ntmps73
    go_wp2_with fail
    refine HS.out.mono ?_
    rintro e' w1 ⟨rfl, ⟨f', k1⟩, k2⟩
    obtain ⟨h1, s1⟩ := KEY.out w1 f' k1 k2
    have H1 := Lib.hid h1; have S1 := Lib.hid s1
    clear k1 k2 h1 s1 KEY HS
    go_wp2
    go_ret
    exact ⟨rfl, R, H1.out, rfl, rfl, S1.out⟩

theorem allocS_shape {A : AS} (hw : WfAS A) (kind n : Int) : (allocS A kind n).2.n = A.n ∧ ((allocS A kind n).1.2 ≠ 0 → (allocS A kind n).2 = A) ∧
    ((allocS A kind n).1.2 = 0 → ∃ m : Nat, (allocS A kind n).1.1 = m ∧ m < 32 * A.n ∧ ∀ b, b ≠ m → ((allocS A kind n).2.obj b).isSome = true → (A.obj b).isSome = true) := by
  unfold allocS
  by_cases g : kind < 1 ∨ 6 < kind ∨ (classC n).2 = false
  · rw [if_pos g]; exact ⟨rfl, fun _ => rfl, fun h => by cases h⟩
  · rw [if_neg g]
    have g3 : (classC n).2 = true := by cases q : (classC n).2 with | true => rfl | false => exact absurd (.inr (.inr q)) g
    obtain ⟨c4, _, _⟩ := classC_in g3
    cases e : spotA A (classC n).1 with
    | none => exact ⟨rfl, fun _ => rfl, fun h => by cases h⟩
    | some q =>
      obtain ⟨i, s⟩ := q
      obtain ⟨hi, hs, ho⟩ := spotA_spec c4 e
      obtain ⟨p1, p2, p3⟩ := spot_at c4 hs (i := i)
      have hwn : 1 ≤ wN (classC n).1 := by rcases wN_pos c4 with ⟨x, _⟩ | ⟨x, _⟩ | ⟨x, _⟩ | ⟨x, _⟩ <;> omega
      refine ⟨rfl, fun h => absurd rfl h, fun _ => ⟨i * 32 + s * wN (classC n).1, rfl, by omega, fun b hb h => ?_⟩⟩
      simp only [updO] at h
      rw [if_neg hb] at h
      exact h
set_option maxHeartbeats 400000 in
theorem rhalloc_c (w : World) (h : RefAt w R s) (kind n : Int) : Calls Tryz.prog 109 #[rptr R, iv kind, iv n] w
    (RPost R (allocH s kind n).2 (.tuple #[iv (allocH s kind n).1.1, iv (allocH s kind n).1.2]) w) := by
  have c0 := h.c0
  obtain ⟨f, ha⟩ := h.arena
  have hs := raalloc_c w ha kind n
  have h64 := allocS_i64 h.i64 kind n
  obtain ⟨hn, hbad, hgood⟩ := allocS_shape h.wf kind n
  unfold allocH
  generalize allocS s.A kind n = x at hs h64 hn hbad hgood ⊢
  obtain ⟨⟨a, e⟩, A'⟩ := x
  simp only at hs h64 hn hbad hgood ⊢
  unfold RAPost at hs
  simp only at hs
  by_cases e0 : e = 0
  · subst e0
    simp only [if_true]
    obtain ⟨m, rfl, hm, ho⟩ := hgood rfl
    have hfew := h.few
    have key : ∀ w1 f', RAr w1 R.ab R.sb R.cb R.tb R.wb A' f' → Stp [R.cb, R.tb, R.wb] [R.cb, R.tb, R.wb] w w1 →
        (w1.cell? ⟨R.hb, 1, none⟩ = some (.slice (some ⟨R.kb, 0, none⟩) (32 * s.A.n) (32 * s.A.n)) ∧ (∃ x, w1.cell? ⟨R.kb, m, none⟩ = some x) ∧ w1.frozen? ⟨R.kb, m, none⟩ = false) ∧
        RefAt (w1.setCell ⟨R.kb, m, none⟩ (iv 0)) R { s with A := A', m := updM s.m m 0 } ∧ Stp R.own R.own w (w1.setCell ⟨R.kb, m, none⟩ (iv 0)) := fun w1 f' h1 h2 => by
      have hh := RLay.head_nodup h.nodup
      simp only [List.nodup_cons, List.mem_cons, List.not_mem_nil, or_false, not_or] at hh
      obtain ⟨⟨_, _, a1, a2, a3, n1⟩, ⟨_, b1, b2, b3, n2⟩, ⟨_, _, _, n3⟩, ⟨_, _, n4⟩, ⟨_, n5⟩, n6, _⟩ := hh
      obtain ⟨g, hg, hc⟩ := h.cols
      have qg := hg.keep (h2.block _ hg.lt (by simp; exact ⟨fun e => n4 e.symm, fun e => n5 e.symm, fun e => n6 e.symm⟩))
      have qt := h.top.keep (h2.block _ h.top.lt (by simp [a1, a2, a3]))
      exact ⟨⟨qt.at 1 rfl, ⟨_, by rw [qg.cell]; simp [hm]; rfl⟩, qg.free m⟩, h.allocTo h1 hn h2 hm ho h64 0, (h2.sub (by simp [RLay.own])).trans (Stp.set (by simp [RLay.own]) _ _)⟩
    have hm' : (m : Int) < 32 * s.A.n := by omega
    have KEY := Lib.hid key; have HS := Lib.hid hs
    by_cases hp : s.phase = 0
    · rw [if_pos hp]
      clear key hs h ha h64 hn hbad hgood ho
      go_enter Tryz.func109, Tryz.ntmps109
      go_wp2_with fail
      refine HS.out.mono ?_
      rintro e w1 ⟨rfl, ⟨f', k1⟩, k2⟩
      obtain ⟨⟨q1, ⟨x, q2⟩, q3⟩, h1, s1⟩ := KEY.out w1 f' k1 k2
      have c3 := h1.c3
      rw [hp] at c3
      have H1 := Lib.hid h1; have S1 := Lib.hid s1; have HP := Lib.hid hp
      clear k1 k2 h1 s1 KEY HS hp
      go_wp2
      go_ret2
      exact ⟨rfl, R, H1.out, rfl, rfl, S1.out⟩
    · rw [if_neg hp]
      have t1 : (s.phase != 0) = true := by simpa using hp
      clear key hs h ha h64 hbad hgood ho
      go_enter Tryz.func109, Tryz.ntmps109
      go_wp2_with fail
      refine HS.out.mono ?_
      rintro e w1 ⟨rfl, ⟨f', k1⟩, k2⟩
      obtain ⟨⟨q1, ⟨x, q2⟩, q3⟩, h1, s1⟩ := KEY.out w1 f' k1 k2
      have c3 := h1.c3
      have c1 : (w1.setCell ⟨R.kb, m, none⟩ (iv 0)).cell? ⟨R.hb, 1, none⟩ = some (.slice (some ⟨R.kb, 0, none⟩) (32 * s.A.n) (32 * s.A.n)) := by have := h1.c1; simp only [hn] at this; exact this
      have h2 := h1.setCol (show m < 32 * ({ s with A := A', m := updM s.m m 0 } : PH).A.n by simpa [hn] using hm) 2
      simp only [updM_twice] at h2
      have H2 := Lib.hid h2; have S1 := Lib.hid s1
      have fr : (w1.setCell ⟨R.kb, m, none⟩ (iv 0)).frozen? ⟨R.kb, m, none⟩ = false := by
        obtain ⟨g, hg, hc⟩ := h1.cols
        exact hg.free m
      simp only at c3
      clear k1 k2 h1 s1 KEY HS hp h2 hn
      go_wp2
      go_ret2
      exact ⟨rfl, R, H2.out, rfl, rfl, S1.out.trans (Stp.set (by simp [RLay.own]) _ _)⟩
  · simp only [e0, if_false]
    have t1 : (e != 0) = true := by simpa using e0
    obtain rfl := hbad e0
    have key : ∀ w1 f', RAr w1 R.ab R.sb R.cb R.tb R.wb s.A f' → Stp [R.cb, R.tb, R.wb] [R.cb, R.tb, R.wb] w w1 → RefAt w1 R s ∧ Stp R.own R.own w w1 := fun w1 f' h1 h2 =>
      ⟨h.arenaTo h1 rfl h2 (fun _ h => h) h64, h2.sub (by simp [RLay.own])⟩
    have KEY := Lib.hid key; have HS := Lib.hid hs
    clear key hs h ha h64 hn hbad hgood e0
    go_enter Tryz.func109, Tryz.ntmps109
    go_wp2_with fail
    refine HS.out.mono ?_
    rintro e' w1 ⟨rfl, ⟨f', k1⟩, k2⟩
    obtain ⟨h1, s1⟩ := KEY.out w1 f' k1 k2
    have H1 := Lib.hid h1; have S1 := Lib.hid s1
    clear k1 k2 h1 s1 KEY HS
    go_wp2
    go_ret2
    exact ⟨rfl, R, H1.out, rfl, rfl, S1.out⟩
end Go.Proofs.YtcnppdbgieaddaaGreat
