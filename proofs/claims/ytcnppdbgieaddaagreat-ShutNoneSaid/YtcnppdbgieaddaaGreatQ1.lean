/- The document's side: how great a thing is. The document's side: its spans, in memory; is a slot used. The document's side: a slot is given. -/
import Derived.Test.YtcnppdbgieaddaaGreatK1
import Derived.Test.YtcnppdbgieaddaaGreatK3
namespace Go.Proofs.YtcnppdbgieaddaaGreat
open Go.RowKit
set_option linter.unusedVariables false
set_option linter.unusedSimpArgs false

theorem rwords_c (c : Int) (w : World) : Calls Tryz.prog 168 #[iv c] w fun e w' => e = .returned (iv (wordsC c)) ∧ Below w.heap.size w w' := by
  by_cases h0 : c < 0
  · have hr : Hid (wordsC c = 0) := by unfold Hid wordsC; rw [if_neg (by omega), if_neg (by omega), if_neg (by omega), if_neg (by omega)]
    go_enter Tryz.func168, Tryz.ntmps168
    go_wp2
    go_ret
    exact ⟨ret_eq (by rw [hr.out]; rfl), Below.refl _ _⟩
  by_cases h3 : 3 < c
  · have hr : Hid (wordsC c = 0) := by unfold Hid wordsC; rw [if_neg (by omega), if_neg (by omega), if_neg (by omega), if_neg (by omega)]
    go_enter Tryz.func168, Tryz.ntmps168
    go_wp2
    go_ret
    exact ⟨ret_eq (by rw [hr.out]; rfl), Below.refl _ _⟩
  rcases (by omega : c = 0 ∨ c = 1 ∨ c = 2 ∨ c = 3) with rfl | rfl | rfl | rfl
  all_goals
    clear h0 h3
    go_enter Tryz.func168, Tryz.ntmps168
    go_wp2
    go_ret
    exact ⟨rfl, (Below.refl _ _).alloc (Nat.le_refl _) _⟩
theorem rslots_c (c : Int) (w : World) : Calls Tryz.prog 257 #[iv c] w fun e w' => e = .returned (iv (slotsC c)) ∧ Below w.heap.size w w' := by
  have hw := rwords_c c w
  by_cases h0 : c < 0
  · have hr : Hid (slotsC c = 0) := by unfold Hid slotsC; rw [if_neg (by omega), if_neg (by omega), if_neg (by omega), if_neg (by omega)]
    clear hw
    go_enter Tryz.func257, Tryz.ntmps257
    go_wp2
    go_ret
    exact ⟨ret_eq (by rw [hr.out]; rfl), Below.refl _ _⟩
  by_cases h3 : 3 < c
  · have hr : Hid (slotsC c = 0) := by unfold Hid slotsC; rw [if_neg (by omega), if_neg (by omega), if_neg (by omega), if_neg (by omega)]
    clear hw
    go_enter Tryz.func257, Tryz.ntmps257
    go_wp2
    go_ret
    exact ⟨ret_eq (by rw [hr.out]; rfl), Below.refl _ _⟩
  rcases (by omega : c = 0 ∨ c = 1 ∨ c = 2 ∨ c = 3) with rfl | rfl | rfl | rfl
  all_goals
    clear h0 h3
    simp only [wordsC] at hw
    have HW := Lib.hid hw; clear hw
    go_enter Tryz.func257, Tryz.ntmps257
    go_wp2_with (go_at_call 168; refine HW.out.mono ?_; rintro e w1 ⟨rfl, b1⟩)
    go_ret
    exact ⟨rfl, b1⟩

theorem rclass_c (n : Int) (w : World) : Calls Tryz.prog 167 #[iv n] w fun e w' => e = .returned (.tuple #[iv (classC n).1, .bool (classC n).2]) ∧ Below w.heap.size w w' := by
  by_cases h0 : n < 0
  · have hr : Hid (classC n = (0, false)) := by unfold Hid classC; rw [if_pos h0]
    have t1 : decide (n ≥ 0) = false := by simp; omega
    go_enter Tryz.func167, Tryz.ntmps167
    go_wp2_with fail
    go_loopw [4] (fun v4 wr => v4 = iv 0 ∧ wr = w) (fun _ _ => 0)
    case atStart => exact ⟨rfl, rfl⟩
    case round =>
      obtain ⟨rfl, rfl⟩ := hrel
      go_wp2
      go_ret2
      exact ⟨ret_eq (by rw [hr.out]; rfl), Below.refl _ _⟩
  have t1 : decide (n ≥ 0) = true := by simp; omega
  have hw := fun c w => rwords_c c w
  have HW := Lib.hid hw; clear hw
  go_enter Tryz.func167, Tryz.ntmps167
  go_wp2_with fail
  go_loopw [4] (fun v4 wr => ∃ p : Nat, p ≤ 4 ∧ v4 = iv p ∧ Below w.heap.size w wr ∧ (0 < p → 4 ≤ n) ∧ (1 < p → 8 ≤ n) ∧ (2 < p → 16 ≤ n) ∧ (3 < p → 32 ≤ n)) (fun v4 _ => 4 - (intOf v4).toNat)
  case atStart => exact ⟨0, by omega, rfl, Below.refl _ _, by omega, by omega, by omega, by omega⟩
  case round =>
    obtain ⟨p, hp, rfl, hb, q0, q1, q2, q3⟩ := hrel
    have hsz := hb.size
    have HB := Lib.hid hb; clear hb
    rcases (by omega : p = 0 ∨ p = 1 ∨ p = 2 ∨ p = 3 ∨ p = 4) with rfl | rfl | rfl | rfl | rfl
    · have S1 := Lib.hid (show Calls Tryz.prog 168 #[iv 0] wr fun e w' => e = .returned (iv 4) ∧ Below wr.heap.size wr w' from HW.out 0 wr)
      by_cases e : n < 4
      · have hr : Hid (classC n = (0, true)) := by unfold Hid classC; rw [if_neg (by omega), if_pos e]
        have t2 : decide (n < 4) = true := by simpa using e
        clear q0 q1 q2 q3 HW
        go_wp2_with fail
        refine S1.out.mono ?_
        rintro e w1 ⟨rfl, b1⟩
        have B1 := Lib.hid (HB.out.trans (b1.mono hsz)); clear b1
        go_wp2
        go_ret2
        exact ⟨ret_eq (by rw [hr.out]; rfl), B1.out⟩
      · have t2 : decide (n < 4) = false := by simpa using e
        have HQ := Lib.hid (show (0 < 0 + 1 → 4 ≤ n) ∧ (1 < 0 + 1 → 8 ≤ n) ∧ (2 < 0 + 1 → 16 ≤ n) ∧ (3 < 0 + 1 → 32 ≤ n) from ⟨by omega, by omega, by omega, by omega⟩)
        clear q0 q1 q2 q3 HW
        go_wp2_with fail
        refine S1.out.mono ?_
        rintro e w1 ⟨rfl, b1⟩
        have B1 := Lib.hid (HB.out.trans (b1.mono hsz)); clear b1
        go_wp2
        go_roundw
        case rel => exact ⟨0 + 1, by omega, rfl, B1.out, HQ.out⟩
        case measure => simp [intOf]
    · have S1 := Lib.hid (show Calls Tryz.prog 168 #[iv 1] wr fun e w' => e = .returned (iv 8) ∧ Below wr.heap.size wr w' from HW.out 1 wr)
      by_cases e : n < 8
      · have hr : Hid (classC n = (1, true)) := by unfold Hid classC; rw [if_neg (by omega), if_neg (by omega), if_pos e]
        have t2 : decide (n < 8) = true := by simpa using e
        clear q0 q1 q2 q3 HW
        go_wp2_with fail
        refine S1.out.mono ?_
        rintro e w1 ⟨rfl, b1⟩
        have B1 := Lib.hid (HB.out.trans (b1.mono hsz)); clear b1
        go_wp2
        go_ret2
        exact ⟨ret_eq (by rw [hr.out]; rfl), B1.out⟩
      · have t2 : decide (n < 8) = false := by simpa using e
        have HQ := Lib.hid (show (0 < 1 + 1 → 4 ≤ n) ∧ (1 < 1 + 1 → 8 ≤ n) ∧ (2 < 1 + 1 → 16 ≤ n) ∧ (3 < 1 + 1 → 32 ≤ n) from ⟨by omega, by omega, by omega, by omega⟩)
        clear q0 q1 q2 q3 HW
        go_wp2_with fail
        refine S1.out.mono ?_
        rintro e w1 ⟨rfl, b1⟩
        have B1 := Lib.hid (HB.out.trans (b1.mono hsz)); clear b1
        go_wp2
        go_roundw
        case rel => exact ⟨1 + 1, by omega, rfl, B1.out, HQ.out⟩
        case measure => simp [intOf]
    · have S1 := Lib.hid (show Calls Tryz.prog 168 #[iv 2] wr fun e w' => e = .returned (iv 16) ∧ Below wr.heap.size wr w' from HW.out 2 wr)
      by_cases e : n < 16
      · have hr : Hid (classC n = (2, true)) := by unfold Hid classC; rw [if_neg (by omega), if_neg (by omega), if_neg (by omega), if_pos e]
        have t2 : decide (n < 16) = true := by simpa using e
        clear q0 q1 q2 q3 HW
        go_wp2_with fail
        refine S1.out.mono ?_
        rintro e w1 ⟨rfl, b1⟩
        have B1 := Lib.hid (HB.out.trans (b1.mono hsz)); clear b1
        go_wp2
        go_ret2
        exact ⟨ret_eq (by rw [hr.out]; rfl), B1.out⟩
      · have t2 : decide (n < 16) = false := by simpa using e
        have HQ := Lib.hid (show (0 < 2 + 1 → 4 ≤ n) ∧ (1 < 2 + 1 → 8 ≤ n) ∧ (2 < 2 + 1 → 16 ≤ n) ∧ (3 < 2 + 1 → 32 ≤ n) from ⟨by omega, by omega, by omega, by omega⟩)
        clear q0 q1 q2 q3 HW
        go_wp2_with fail
        refine S1.out.mono ?_
        rintro e w1 ⟨rfl, b1⟩
        have B1 := Lib.hid (HB.out.trans (b1.mono hsz)); clear b1
        go_wp2
        go_roundw
        case rel => exact ⟨2 + 1, by omega, rfl, B1.out, HQ.out⟩
        case measure => simp [intOf]
    · have S1 := Lib.hid (show Calls Tryz.prog 168 #[iv 3] wr fun e w' => e = .returned (iv 32) ∧ Below wr.heap.size wr w' from HW.out 3 wr)
      by_cases e : n < 32
      · have hr : Hid (classC n = (3, true)) := by unfold Hid classC; rw [if_neg (by omega), if_neg (by omega), if_neg (by omega), if_neg (by omega), if_pos e]
        have t2 : decide (n < 32) = true := by simpa using e
        clear q0 q1 q2 q3 HW
        go_wp2_with fail
        refine S1.out.mono ?_
        rintro e w1 ⟨rfl, b1⟩
        have B1 := Lib.hid (HB.out.trans (b1.mono hsz)); clear b1
        go_wp2
        go_ret2
        exact ⟨ret_eq (by rw [hr.out]; rfl), B1.out⟩
      · have t2 : decide (n < 32) = false := by simpa using e
        have HQ := Lib.hid (show (0 < 3 + 1 → 4 ≤ n) ∧ (1 < 3 + 1 → 8 ≤ n) ∧ (2 < 3 + 1 → 16 ≤ n) ∧ (3 < 3 + 1 → 32 ≤ n) from ⟨by omega, by omega, by omega, by omega⟩)
        clear q0 q1 q2 q3 HW
        go_wp2_with fail
        refine S1.out.mono ?_
        rintro e w1 ⟨rfl, b1⟩
        have B1 := Lib.hid (HB.out.trans (b1.mono hsz)); clear b1
        go_wp2
        go_roundw
        case rel => exact ⟨3 + 1, by omega, rfl, B1.out, HQ.out⟩
        case measure => simp [intOf]
    · have hr : Hid (classC n = (0, false)) := by unfold Hid classC; rw [if_neg (by omega), if_neg (by omega), if_neg (by omega), if_neg (by omega), if_neg (by omega)]
      clear q0 q1 q2 q3 HW
      go_wp2
      go_ret2
      exact ⟨ret_eq (by rw [hr.out]; rfl), HB.out⟩
end Go.Proofs.YtcnppdbgieaddaaGreat

namespace Go.Proofs.YtcnppdbgieaddaaGreat
open Go.RowKit
set_option linter.unusedVariables false
set_option linter.unusedSimpArgs false

def usedA (A : AS) (i k : Nat) : Bool := decide (k < sN (A.cls i)) && (A.obj (i * 32 + k * wN (A.cls i))).isSome
/-- The document's spans: their classes, their slots. -/
structure RSp (w : World) (sb cb tb : Nat) (n : Nat) (cls : Nat → Int) (us : Nat → Nat → Bool) : Prop where
  head : ∃ c1 c2, Blk w sb [.slice (some ⟨cb, 0, none⟩) n c1, .slice (some ⟨tb, 0, none⟩) n c2] ∧ n ≤ c1 ∧ n ≤ c2
  cls : ∃ t, Blk w cb ((List.range n).map (fun i => iv (cls i)) ++ t)
  slots : ∃ t, Blk w tb ((List.range (8 * n)).map (fun j => .bool (us (j / 8) (j % 8))) ++ t)
  ne : sb ≠ cb ∧ sb ≠ tb ∧ cb ≠ tb
  few : n ≤ 128
variable {w w' : World} {sb cb tb n : Nat} {cls : Nat → Int} {us : Nat → Nat → Bool}
theorem RSp.lt (h : RSp w sb cb tb n cls us) : sb < w.heap.size ∧ cb < w.heap.size ∧ tb < w.heap.size := by
  obtain ⟨c1, c2, h1, _⟩ := h.head; obtain ⟨t, h2⟩ := h.cls; obtain ⟨t', h3⟩ := h.slots
  exact ⟨h1.lt, h2.lt, h3.lt⟩
theorem RSp.keep (h : RSp w sb cb tb n cls us) (hk : ∀ b, b = sb ∨ b = cb ∨ b = tb → w'.heap[b]? = w.heap[b]?) : RSp w' sb cb tb n cls us := by
  obtain ⟨c1, c2, h1, q⟩ := h.head; obtain ⟨t, h2⟩ := h.cls; obtain ⟨t', h3⟩ := h.slots
  exact ⟨⟨c1, c2, h1.keep (hk _ (.inl rfl)), q⟩, ⟨t, h2.keep (hk _ (.inr (.inl rfl)))⟩, ⟨t', h3.keep (hk _ (.inr (.inr rfl)))⟩, h.ne, h.few⟩
theorem RSp.below (h : RSp w sb cb tb n cls us) (hb : Below w.heap.size w w') : RSp w' sb cb tb n cls us := by
  obtain ⟨l1, l2, l3⟩ := h.lt
  exact h.keep fun b q => hb.block b (by rcases q with rfl | rfl | rfl <;> assumption)
theorem RSp.c (h : RSp w sb cb tb n cls us) : ∃ c1 c2, w.cell? ⟨sb, 0, none⟩ = some (.slice (some ⟨cb, 0, none⟩) n c1) ∧ w.cell? ⟨sb, 1, none⟩ = some (.slice (some ⟨tb, 0, none⟩) n c2) ∧ n ≤ c1 ∧ n ≤ c2 := by
  obtain ⟨c1, c2, h1, q⟩ := h.head
  exact ⟨c1, c2, by rw [h1.cell]; rfl, by rw [h1.cell]; rfl, q⟩
theorem RSp.clsAt (h : RSp w sb cb tb n cls us) {i : Nat} (hi : i < n) : w.cell? ⟨cb, i, none⟩ = some (iv (cls i)) := by
  obtain ⟨t, h2⟩ := h.cls
  rw [h2.cell, List.getElem?_append_left (by simpa using hi)]
  simp [hi]
theorem RSp.slotAt (h : RSp w sb cb tb n cls us) {i k : Nat} (hi : i < n) (hk : k < 8) : w.cell? ⟨tb, i * 8 + k, none⟩ = some (.bool (us i k)) := by
  obtain ⟨t, h2⟩ := h.slots
  rw [h2.cell, List.getElem?_append_left (by simp; omega)]
  simp only [List.getElem?_map]
  rw [List.getElem?_range (by omega)]
  simp only [Option.map_some]
  rw [show (i * 8 + k) / 8 = i from by omega, show (i * 8 + k) % 8 = k from by omega]

def updU (us : Nat → Nat → Bool) (i k : Nat) (b : Bool) : Nat → Nat → Bool := fun i' k' => if i' = i ∧ k' = k then b else us i' k'
theorem set_range_map {α : Type} (f : Nat → α) (n i : Nat) (x : α) (t : List α) (hi : i < n) : (((List.range n).map f) ++ t).set i x = ((List.range n).map (fun j => if j = i then x else f j)) ++ t := by
  rw [List.set_append_left _ _ (by simpa using hi)]
  congr 1
  apply List.ext_getElem
  · simp
  · intro j h1 h2
    simp only [List.length_set, List.length_map, List.length_range] at h1
    rw [List.getElem_set]
    by_cases e : i = j
    · subst e; simp
    · rw [if_neg e]; simp; intro q; exact absurd q.symm e
theorem RSp.congr (h : RSp w sb cb tb n cls us) {cls' : Nat → Int} {us' : Nat → Nat → Bool} (h1 : ∀ i, i < n → cls' i = cls i) (h2 : ∀ i k, i < n → k < 8 → us' i k = us i k) : RSp w sb cb tb n cls' us' := by
  refine ⟨h.head, ?_, ?_, h.ne, h.few⟩
  · obtain ⟨t, q⟩ := h.cls
    refine ⟨t, ?_⟩
    rw [show (List.range n).map (fun i => iv (cls' i)) = (List.range n).map (fun i => iv (cls i)) from List.map_congr_left fun i hi => by rw [h1 i (List.mem_range.1 hi)]]
    exact q
  · obtain ⟨t, q⟩ := h.slots
    refine ⟨t, ?_⟩
    rw [show (List.range (8 * n)).map (fun j => Value.bool (us' (j / 8) (j % 8))) = (List.range (8 * n)).map (fun j => Value.bool (us (j / 8) (j % 8))) from List.map_congr_left fun j hj => by
      have := List.mem_range.1 hj
      rw [h2 _ _ (by omega) (by omega)]]
    exact q
theorem RSp.setUsed (h : RSp w sb cb tb n cls us) {i k : Nat} (hi : i < n) (hk : k < 8) (b : Bool) : RSp (w.setCell ⟨tb, i * 8 + k, none⟩ (.bool b)) sb cb tb n cls (updU us i k b) := by
  obtain ⟨c1, c2, h1, q⟩ := h.head; obtain ⟨t, h2⟩ := h.cls; obtain ⟨t', h3⟩ := h.slots
  refine ⟨⟨c1, c2, h1.set_other h.ne.2.1 _ _, q⟩, ⟨t, h2.set_other h.ne.2.2 _ _⟩, ⟨t', ?_⟩, h.ne, h.few⟩
  have := h3.set (i * 8 + k) (.bool b)
  rw [set_range_map _ _ _ _ _ (by omega)] at this
  rw [show (List.range (8 * n)).map (fun j => Value.bool (updU us i k b (j / 8) (j % 8))) = (List.range (8 * n)).map (fun j => if j = i * 8 + k then Value.bool b else Value.bool (us (j / 8) (j % 8))) from List.map_congr_left fun j hj => by
    unfold updU
    by_cases e : j = i * 8 + k
    · rw [if_pos e, if_pos (by omega)]
    · rw [if_neg e, if_neg (by omega)]]
  exact this
theorem RSp.setCls (h : RSp w sb cb tb n cls us) {i : Nat} (hi : i < n) (c : Int) : RSp (w.setCell ⟨cb, i, none⟩ (iv c)) sb cb tb n (updN cls i c) us := by
  obtain ⟨c1, c2, h1, q⟩ := h.head; obtain ⟨t, h2⟩ := h.cls; obtain ⟨t', h3⟩ := h.slots
  refine ⟨⟨c1, c2, h1.set_other h.ne.1 _ _, q⟩, ⟨t, ?_⟩, ⟨t', h3.set_other (fun e => h.ne.2.2 e.symm) _ _⟩, h.ne, h.few⟩
  have := h2.set i (iv c)
  rw [set_range_map _ _ _ _ _ hi] at this
  rw [show (List.range n).map (fun j => iv (updN cls i c j)) = (List.range n).map (fun j => if j = i then iv c else iv (cls j)) from List.map_congr_left fun j hj => by
    unfold updN
    by_cases e : j = i
    · rw [if_pos e, if_pos e]
    · rw [if_neg e, if_neg e]]
  exact this
theorem RSp.freeC (h : RSp w sb cb tb n cls us) (i : Nat) : w.frozen? ⟨cb, i, none⟩ = false := by obtain ⟨t, h2⟩ := h.cls; exact h2.free i
theorem RSp.freeU (h : RSp w sb cb tb n cls us) (i : Nat) : w.frozen? ⟨tb, i, none⟩ = false := by obtain ⟨t, h2⟩ := h.slots; exact h2.free i

theorem rused_c (w : World) (h : RSp w sb cb tb n cls us) (i k : Nat) (hi : i < n) (hk : k < 8) : Calls Tryz.prog 241 #[.pointer (some ⟨sb, 0, none⟩), iv i, iv k] w fun e w' => e = .returned (.bool (us i k)) ∧ w = w' := by
  obtain ⟨c1, c2, k1, k2, k3, k4⟩ := h.c
  have k5 := h.slotAt hi hk
  have hn := h.few
  generalize us i k = b at k5 ⊢
  have i1 : (i : Int) < n := by omega
  have i2 : (k : Int) < 8 := by omega
  clear h
  go_enter Tryz.func241, Tryz.ntmps241
  go_wp2
  go_ret
  exact ⟨rfl, rfl⟩
end Go.Proofs.YtcnppdbgieaddaaGreat

namespace Go.Proofs.YtcnppdbgieaddaaGreat
open Go.RowKit
set_option linter.unusedVariables false
set_option linter.unusedSimpArgs false
variable {w w' : World} {sb cb tb n : Nat} {cls : Nat → Int} {us : Nat → Nat → Bool}

def rslotN (us : Nat → Nat → Bool) (i : Nat) : Nat → Nat → Option Nat
  | 0, _ => none
  | d + 1, s => if us i s = true then rslotN us i d (s + 1) else some s
def rfindN (cls : Nat → Int) (us : Nat → Nat → Bool) (c : Int) : Nat → Nat → Option (Nat × Nat)
  | 0, _ => none
  | d + 1, i => if cls i = c then (match rslotN us i (sN c) 0 with | some s => some (i, s) | none => rfindN cls us c d (i + 1)) else rfindN cls us c d (i + 1)
def rfreshN (cls : Nat → Int) : Nat → Nat → Option Nat
  | 0, _ => none
  | d + 1, i => if cls i < 0 then some i else rfreshN cls d (i + 1)
def rspot (n : Nat) (cls : Nat → Int) (us : Nat → Nat → Bool) (c : Int) : Option (Nat × Nat) :=
  match rfindN cls us c n 0 with
  | some q => some q
  | none => match rfreshN cls n 0 with
    | some i => some (i, 0)
    | none => none
def RAllocPost (sb cb tb n : Nat) (cls : Nat → Int) (us : Nat → Nat → Bool) (c : Int) (w : World) (r : Option (Nat × Nat)) (e : Ending) (w' : World) : Prop :=
  match r with
  | none => e = .returned (.tuple #[iv 0, iv 0, .bool false]) ∧ Below w.heap.size w w'
  | some (i, k) => e = .returned (.tuple #[iv i, iv k, .bool true]) ∧ i < n ∧ k < 8 ∧ RSp w' sb cb tb n (updN cls i c) (updU us i k true) ∧ Stp [cb, tb] [cb, tb] w w'
theorem updN_same (cls : Nat → Int) (i : Nat) (c : Int) (h : cls i = c) : ∀ j, updN cls i c j = cls j := by
  intro j; unfold updN; split
  · subst_vars; rfl
  · rfl

set_option maxRecDepth 100000 in
set_option maxHeartbeats 1000000 in
theorem ralloc_sp_c (w : World) (h : RSp w sb cb tb n cls us) (c : Int) (hc : c = 0 ∨ c = 1 ∨ c = 2 ∨ c = 3) : Calls Tryz.prog 239 #[.pointer (some ⟨sb, 0, none⟩), iv c] w (RAllocPost sb cb tb n cls us c w (rspot n cls us c)) := by
  have hs := rslots_c c w
  have hm : slotsC c = (sN c : Int) ∧ 1 ≤ sN c ∧ sN c ≤ 8 := by rcases hc with rfl | rfl | rfl | rfl <;> exact ⟨rfl, by decide, by decide⟩
  obtain ⟨m1, m2, m3⟩ := hm
  rw [m1] at hs
  have hn := h.few
  generalize hR : rspot n cls us c = R
  have HR := Lib.hid hR; have HS := Lib.hid hs; have H := Lib.hid h
  have t0 : ((sN c : Int) == 0) = false := by simp; omega
  clear hR hs h m1 hc
  generalize hmm : sN c = m at m2 m3 t0 HS
  have HMM := Lib.hid hmm; clear hmm
  go_enter Tryz.func239, Tryz.ntmps239
  go_wp2_with (go_at_call 257; refine HS.out.mono ?_; rintro e w1 ⟨rfl, b1⟩)
  have h1 := H.out.below b1
  have H1 := Lib.hid h1; have B1 := Lib.hid b1
  clear h1 b1 H HS
  go_loopw [8] (fun v8 wr => ∃ p : Nat, p ≤ n ∧ v8 = iv p ∧ (RSp wr sb cb tb n cls us ∧ Below w.heap.size w wr) ∧ rfindN cls us c (n - p) p = rfindN cls us c n 0) (fun v8 _ => n - (intOf v8).toNat)
  case atStart => exact ⟨0, Nat.zero_le _, rfl, ⟨H1.out, B1.out⟩, rfl⟩
  case round =>
    obtain ⟨p, hp, rfl, hh, hf⟩ := hrel
    clear H1 B1
    obtain ⟨c1, c2, k1, k2, k3, k4⟩ := hh.1.c
    by_cases hlt : p < n
    · have hlt' : (p : Int) < n := by omega
      rw [show n - p = (n - (p + 1)) + 1 from by omega] at hf
      simp only [rfindN] at hf
      have HH := Lib.hid hh
      by_cases hc' : cls p = c
      · rw [if_pos hc'] at hf
        rw [HMM.out] at hf
        have HF := Lib.hid hf
        have HC := Lib.hid hc'
        clear hf hh hc'
        go_wp2_with fail
        go_loopw [9] (fun v9 wr => ∃ k : Nat, k ≤ m ∧ v9 = iv k ∧ (RSp wr sb cb tb n cls us ∧ Below w.heap.size w wr) ∧ rslotN us p (m - k) k = rslotN us p m 0) (fun v9 _ => m - (intOf v9).toNat)
        case atStart => exact ⟨0, Nat.zero_le _, rfl, HH.out, rfl⟩
        case round =>
          obtain ⟨k, hk, rfl, hh, hs⟩ := hrel
          clear HH k1 k2 k3 k4
          obtain ⟨c1, c2, k1, k2, k3, k4⟩ := hh.1.c
          have k5 := hh.1.clsAt hlt
          rw [HC.out] at k5
          by_cases hkm : k < m
          · have hk8 : (k : Int) < 8 := by omega
            have hkm' : (k : Int) < m := by omega
            have k6 := hh.1.slotAt hlt (show k < 8 by omega)
            rw [show m - k = (m - (k + 1)) + 1 from by omega] at hs
            simp only [rslotN] at hs
            by_cases hu : us p k = true
            · rw [if_pos hu] at hs
              rw [hu] at k6
              have HH := Lib.hid hh; have HS := Lib.hid hs
              clear hh hs hu
              go_wp2
              go_roundw
              case rel => exact ⟨k + 1, by omega, by go_num, HH.out, HS.out⟩
              case measure => simp [intOf]; omega
            · rw [if_neg hu] at hs
              have hu' : us p k = false := by simpa using hu
              rw [hu'] at k6
              have k7 := hh.1.freeU (p * 8 + k)
              have hr : R = some (p, k) := by
                have := HF.out
                rw [← hs] at this
                rw [← HR.out, rspot, ← this]
              have hend : RAllocPost sb cb tb n cls us c w (some (p, k)) (.returned (.tuple #[iv p, iv k, .bool true])) (wr.setCell ⟨tb, p * 8 + k, none⟩ (.bool true)) := by
                refine ⟨rfl, hlt, by omega, ?_, (Stp.below hh.2).trans (Stp.set (by simp) _ _)⟩
                exact (hh.1.setUsed hlt (by omega) true).congr (fun i _ => updN_same cls p c HC.out i) (fun _ _ _ _ => rfl)
              have HE := Lib.hid hend; have HRR := Lib.hid hr
              clear hh hs hu hu' hr hend
              go_wp2
              go_ret3
              rw [HRR.out]
              exact HE.out
          · obtain rfl : k = m := by omega
            have hs' : rslotN us p k 0 = none := by rw [← hs, Nat.sub_self]; rfl
            have hf' := HF.out
            rw [hs'] at hf'
            have HH := Lib.hid hh; have HF2 := Lib.hid hf'
            clear hh hs hs' hf'
            go_wp2
            go_roundw
            case rel => exact ⟨p + 1, by omega, by go_num, HH.out, HF2.out⟩
            case measure => simp [intOf]; omega
      · rw [if_neg hc'] at hf
        have t1 : (cls p == c) = false := by simpa using hc'
        have HF := Lib.hid hf
        have T1 := Lib.hid t1
        clear hf hh hc' t1
        go_wp2_with fail
        go_loopw [9] (fun v9 wr => v9 = iv 0 ∧ (RSp wr sb cb tb n cls us ∧ Below w.heap.size w wr)) (fun v9 _ => 0)
        case atStart => exact ⟨rfl, HH.out⟩
        case round =>
          obtain ⟨rfl, hh⟩ := hrel
          clear HH k1 k2 k3 k4
          obtain ⟨c1, c2, k1, k2, k3, k4⟩ := hh.1.c
          have k5 := hh.1.clsAt hlt
          have t1 := T1.out
          generalize cls p = cp at k5 t1
          have m0 : (0 : Int) < m := by omega
          have HH := Lib.hid hh
          clear hh
          go_wp2
          go_roundw
          case rel => exact ⟨p + 1, by omega, by go_num, HH.out, HF.out⟩
          case measure => simp [intOf]; omega
    · obtain rfl : p = n := by omega
      rw [Nat.sub_self] at hf
      have HH := Lib.hid hh
      have HF := Lib.hid hf
      clear hh hf
      go_wp2_with fail
      go_loopw [10] (fun v10 wr => ∃ q : Nat, q ≤ p ∧ v10 = iv q ∧ (RSp wr sb cb tb p cls us ∧ Below w.heap.size w wr) ∧ rfreshN cls (p - q) q = rfreshN cls p 0) (fun v10 _ => p - (intOf v10).toNat)
      case atStart => exact ⟨0, Nat.zero_le _, rfl, HH.out, rfl⟩
      case round =>
        obtain ⟨q, hq, rfl, hh, hf⟩ := hrel
        clear HH k1 k2 k3 k4
        obtain ⟨c1, c2, k1, k2, k3, k4⟩ := hh.1.c
        by_cases hlt : q < p
        · have hlt' : (q : Int) < p := by omega
          have k5 := hh.1.clsAt hlt
          rw [show p - q = (p - (q + 1)) + 1 from by omega] at hf
          simp only [rfreshN] at hf
          by_cases hc' : cls q < 0
          · rw [if_pos hc'] at hf
            have t1 : decide (cls q < 0) = true := by simpa using hc'
            have hr : R = some (q, 0) := by
              have h1 := HF.out
              simp only [rfindN] at h1
              rw [← HR.out, rspot, ← h1]
              simp only
              rw [← hf]
            have f1 := hh.1.freeC q
            have f2 := hh.1.freeU (q * 8)
            have k6 := hh.1.slotAt hlt (show 0 < 8 by omega)
            rw [Nat.add_zero] at k6
            have hne := hh.1.ne
            obtain ⟨n1, n2, n3⟩ := hne
            have n4 := n3.symm
            have hend : RAllocPost sb cb tb p cls us c w (some (q, 0)) (.returned (.tuple #[iv q, iv 0, .bool true])) ((wr.setCell ⟨cb, q, none⟩ (iv c)).setCell ⟨tb, q * 8, none⟩ (.bool true)).drew := by
              refine ⟨rfl, hlt, by omega, ?_, (((Stp.below hh.2).trans (Stp.set (by simp) _ _)).trans (Stp.set (by simp) _ _)).trans (Stp.drew _ _)⟩
              exact ((hh.1.setCls hlt c).setUsed hlt (by omega : 0 < 8) true).keep fun _ _ => rfl
            have hend2 : RAllocPost sb cb tb p cls us c w (some (q, 0)) (.returned (.tuple #[iv q, iv 0, .bool true])) ((wr.setCell ⟨tb, q * 8, none⟩ (.bool true)).setCell ⟨cb, q, none⟩ (iv c)).drew := by
              refine ⟨rfl, hlt, by omega, ?_, (((Stp.below hh.2).trans (Stp.set (by simp) _ _)).trans (Stp.set (by simp) _ _)).trans (Stp.drew _ _)⟩
              exact ((hh.1.setUsed hlt (by omega : 0 < 8) true).setCls hlt c).keep fun _ _ => rfl
            have HE := Lib.hid hend; have HE2 := Lib.hid hend2; have HRR := Lib.hid hr
            generalize cls q = cq at k5 t1
            clear hh hf hc' hr hend hend2
            go_wp2_with fail
            go_region
            all_goals
              go_wp2
              go_ret3
              rw [HRR.out]
              first | exact HE.out | exact HE2.out
          · rw [if_neg hc'] at hf
            have t1 : decide (cls q < 0) = false := by simpa using hc'
            have HH := Lib.hid hh; have HF3 := Lib.hid hf
            generalize cls q = cq at k5 t1
            clear hh hf hc'
            go_wp2
            go_roundw
            case rel => exact ⟨q + 1, by omega, by go_num, HH.out, HF3.out⟩
            case measure => simp [intOf]; omega
        · obtain rfl : q = p := by omega
          have hr : R = none := by
            have h1 := HF.out
            simp only [rfindN] at h1
            rw [Nat.sub_self] at hf
            simp only [rfreshN] at hf
            rw [← HR.out, rspot, ← h1]
            simp only
            rw [← hf]
          have HH := Lib.hid hh.2; have HRR := Lib.hid hr
          clear hh hf hr
          go_wp2
          go_ret3
          rw [HRR.out]
          exact ⟨rfl, HH.out⟩
end Go.Proofs.YtcnppdbgieaddaaGreat
