/- Rows of slots: a slot is taken. Rows of slots: new ones. Things in words: the program's arena: what it reads. Things in words: the program's arena: a word is read, and turned. Things in words: the program's arena: an object is made. -/
import Derived.Test.YtcnppdbgieaddaaGreatK1
import Derived.Test.YtcnppdbgieaddaaGreatS0
namespace Go.Proofs.YtcnppdbgieaddaaGreat
open Go.RowKit
set_option linter.unusedVariables false

theorem repeat_dash (n : Nat) : Lib.repeatL [45] n = List.replicate n 45 := by
  induction n with
  | zero => rfl
  | succ n ih => simp [Lib.repeatL, ih, List.replicate_succ]
theorem repeat_c (n : Nat) (hn : n ≤ 8) (w : World) : Calls Tryz.prog 256 #[.string { data := #[45] }, iv n] w fun e w' => e = .returned (.string (markB (List.replicate n false))) ∧ Below w.heap.size w w' := by
  have hs : (ByteArray.mk #[45]).size = 1 := rfl
  refine (Tryz.strings_Repeat { data := #[45] } n w (by omega) (by rw [hs]; omega)).mono ?_
  rintro e w' ⟨rfl, h⟩
  refine ⟨ret_eq ?_, h⟩
  have : Lib.repeatL (ByteArray.mk #[45]).data.toList n = List.replicate n 45 := repeat_dash n
  rw [this]
  unfold markB markC
  simp

/-- The first row of class k with a slot that is free, and the slot; the first row without a class. -/
def findSlot (k : Int) : List Row → Nat → Option (Nat × Nat)
  | [], _ => none
  | r :: rs, i => match firstM false r.2 0 with
    | some s => if r.1 = k then some (i, s) else findSlot k rs (i + 1)
    | none => findSlot k rs (i + 1)
def findFresh : List Row → Nat → Option Nat
  | [], _ => none
  | r :: rs, i => if r.1 = -1 then some i else findFresh rs (i + 1)
def allocR (rs : List Row) (k : Int) : Option (Nat × Nat × List Row) :=
  if slotsC k = 0 then none else
  match findSlot k rs 0 with
  | some (i, s) => some (i, s, rs.set i (k, (((rs[i]?).map (·.2)).getD []).set s true))
  | none => match findFresh rs 0 with
    | some i => some (i, 0, rs.set i (k, (List.replicate (slotsC k).toNat false).set 0 true))
    | none => none

theorem firstM_spec {b : Bool} {m : List Bool} : ∀ {p s : Nat}, firstM b m p = some s → p ≤ s ∧ m[s - p]? = some b := by
  induction m with
  | nil => intro p s h; cases h
  | cons c l ih =>
    intro p s h
    simp only [firstM] at h
    split at h
    · rename_i e; cases h; exact ⟨Nat.le_refl _, by simp [e]⟩
    · obtain ⟨h1, h2⟩ := ih h
      refine ⟨by omega, ?_⟩
      rw [show s - p = (s - (p + 1)) + 1 from by omega]; simpa using h2
theorem firstA_some {b : Bool} {m : List Bool} {s : Nat} (h : firstM b m 0 = some s) : firstA b m = ((s : Int), true) ∧ s < m.length := by
  obtain ⟨_, h2⟩ := firstM_spec h
  exact ⟨by simp [firstA, h], (List.getElem?_eq_some_iff.1 h2).1⟩
theorem firstA_none {b : Bool} {m : List Bool} (h : firstM b m 0 = none) : firstA b m = (0, false) := by simp [firstA, h]
theorem slots_cases (k : Int) : slotsC k = 0 ∨ slotsC k = 1 ∨ slotsC k = 2 ∨ slotsC k = 4 ∨ slotsC k = 8 := by
  unfold slotsC
  by_cases h0 : k = 0
  · simp [h0]
  by_cases h1 : k = 1
  · simp [h1]
  by_cases h2 : k = 2
  · simp [h2]
  by_cases h3 : k = 3
  · simp [h3]
  simp [h0, h1, h2, h3]

def allocRes : Option (Nat × Nat × List Row) → Value
  | some (i, s, _) => .tuple #[iv i, iv s, .bool true]
  | none => .tuple #[iv 0, iv 0, .bool false]
def allocRows (rs : List Row) : Option (Nat × Nat × List Row) → List Row
  | some (_, _, rs') => rs'
  | none => rs
def freshI : Option Nat → Int
  | some i => i
  | none => -1

def AllocPost (sb rb : Nat) (rs : List Row) (k : Int) (w : World) (e : Ending) (w' : World) : Prop :=
  e = .returned (allocRes (allocR rs k)) ∧ SpansAt w' sb rb (allocRows rs (allocR rs k)) ∧ Stp [sb, rb] [sb, rb] w w'

theorem findSlot_step {k : Int} {rs : List Row} {p : Nat} {r : Row} (hr : rs[p]? = some r) (h : firstM false r.2 0 = none ∨ r.1 ≠ k) : findSlot k (rs.drop p) p = findSlot k (rs.drop (p + 1)) (p + 1) := by
  obtain ⟨hlt, he⟩ := List.getElem?_eq_some_iff.1 hr
  rw [drop_cons hlt, findSlot, he]
  rcases h with h | h
  · rw [h]
  · cases firstM false r.2 0 <;> simp [h]
theorem findSlot_hit {k : Int} {rs : List Row} {p : Nat} {r : Row} (hr : rs[p]? = some r) {s : Nat} (h : firstM false r.2 0 = some s) (hk : r.1 = k) : findSlot k (rs.drop p) p = some (p, s) := by
  obtain ⟨hlt, he⟩ := List.getElem?_eq_some_iff.1 hr
  rw [drop_cons hlt, findSlot, he, h]
  simp [hk]
theorem findFresh_step {rs : List Row} {p : Nat} {r : Row} (hr : rs[p]? = some r) (h : r.1 ≠ -1) : findFresh (rs.drop p) p = findFresh (rs.drop (p + 1)) (p + 1) := by
  obtain ⟨hlt, he⟩ := List.getElem?_eq_some_iff.1 hr
  rw [drop_cons hlt, findFresh, he, if_neg h]
theorem findFresh_hit {rs : List Row} {p : Nat} {r : Row} (hr : rs[p]? = some r) (h : r.1 = -1) : findFresh (rs.drop p) p = some p := by
  obtain ⟨hlt, he⟩ := List.getElem?_eq_some_iff.1 hr
  rw [drop_cons hlt, findFresh, he, if_pos h]
/-- What the loop knows at row p. -/
def ScanR (k : Int) (rs : List Row) (p : Nat) (fr : Option Nat) : Prop :=
  findSlot k rs 0 = findSlot k (rs.drop p) p ∧ findFresh rs 0 = (match fr with | some i => some i | none => findFresh (rs.drop p) p) ∧ (∀ i, fr = some i → ∃ r, rs[i]? = some r)
def nextFr (fr : Option Nat) (c : Int) (p : Nat) : Option Nat := match fr with | some i => some i | none => if c = -1 then some p else none
theorem freshId (fr : Option Nat) : (match fr with | some i => some i | none => none) = fr := by cases fr <;> rfl
theorem ScanR.next {k : Int} {rs : List Row} {p : Nat} {fr : Option Nat} (h : ScanR k rs p fr) {r : Row} (hr : rs[p]? = some r) (h1 : firstM false r.2 0 = none ∨ r.1 ≠ k) :
    ScanR k rs (p + 1) (nextFr fr r.1 p) := by
  obtain ⟨a, b, c⟩ := h
  unfold nextFr
  refine ⟨a.trans (findSlot_step hr h1), ?_, ?_⟩
  · cases fr with
    | some i => exact b
    | none =>
      by_cases e : r.1 = -1
      · rw [b]; simp only [if_pos e]; exact findFresh_hit hr e
      · rw [b]; simp only [if_neg e]; exact findFresh_step hr e
  · cases fr with
    | some i => exact c
    | none =>
      intro i hi
      by_cases e : r.1 = -1
      · simp only [if_pos e] at hi; cases hi; exact ⟨r, hr⟩
      · simp [if_neg e] at hi

set_option maxHeartbeats 4000000 in
theorem spans_alloc_c (sb rb : Nat) (rs : List Row) (w : World) (h : SpansAt w sb rb rs) (k : Int) :
    Calls Tryz.prog 238 #[.pointer (some ⟨sb, 0, none⟩), iv k] w (AllocPost sb rb rs k w) := by
  by_cases hz : slotsC k = 0
  · have hr : Hid (allocR rs k = none) := by simp only [Hid, allocR, hz, if_true]
    have hk := slots_c k
    rw [hz] at hk
    have HK := Lib.hid hk; clear hk hz
    go_enter Tryz.func238, Tryz.ntmps238
    go_wp2_with (go_at_call 253; refine (HK.out _).mono ?_; rintro e w1 ⟨rfl, b1⟩)
    go_ret3
    exact ⟨ret_eq (by rw [hr.out]; rfl), by rw [hr.out]; exact h.below b1, Stp.below b1⟩
  · have hz1 : (slotsC k == 0) = false := by simpa using hz
    have hz2 : 1 ≤ slotsC k ∧ slotsC k ≤ 8 := by rcases slots_cases k with e | e | e | e | e <;> omega
    have HA : Hid (allocR rs k = match findSlot k rs 0 with
      | some (i, s) => some (i, s, rs.set i (k, (((rs[i]?).map (·.2)).getD []).set s true))
      | none => match findFresh rs 0 with
        | some i => some (i, 0, rs.set i (k, (List.replicate (slotsC k).toNat false).set 0 true))
        | none => none) := by simp only [Hid, allocR]; rw [if_neg hz]
    obtain ⟨z1, z2⟩ := hz2
    have hfew := h.few
    clear hz
    go_enter Tryz.func238, Tryz.ntmps238
    go_wp2_with fail
    refine (slots_c k w).mono ?_
    rintro e w1 ⟨rfl, b1⟩
    have h1 := h.below b1
    obtain ⟨c, c0⟩ := h1.sl
    go_wp2_with fail
    go_loopw [8, 26] (fun v8 v26 wr => ∃ (p : Nat) (fr : Option Nat), p ≤ rs.length ∧ v26 = iv p ∧ v8 = iv (freshI fr) ∧ Below w1.heap.size w1 wr ∧ ScanR k rs p fr) (fun _ v26 _ => rs.length - (intOf v26).toNat)
    case atStart => exact ⟨0, none, Nat.zero_le _, rfl, rfl, Below.refl _ _, rfl, rfl, fun i h => by cases h⟩
    case round =>
      obtain ⟨p, fr, hp, rfl, rfl, hb, hs⟩ := hrel
      have hw := h1.below hb
      have HS := Lib.hid hs; clear hs c0
      by_cases hlt : p < rs.length
      · obtain ⟨r, hr⟩ : ∃ r, rs[p]? = some r := ⟨_, List.getElem?_eq_getElem hlt⟩
        have c1 := hw.cls hr
        have c2 := hw.mark hr
        have h8 := hw.small' hr
        have HW := Lib.hid hw; clear hw
        have HR := Lib.hid hr; clear hr
        have H2 := (HW.out.alloc' (.cells #[iv r.1, .string (markB r.2)] 305))
        have s2 : Below w1.heap.size w1 (wr.alloc (.cells #[iv r.1, .string (markB r.2)] 305)) := hb.alloc hb.size _
        have HH2 := Lib.hid H2; clear H2
        have HS2 := Lib.hid s2; clear s2
        have hsz := hb.size
        clear hb
        have key : ∀ (w2 : World), Below (wr.alloc (.cells #[iv r.1, .string (markB r.2)] 305)).heap.size (wr.alloc (.cells #[iv r.1, .string (markB r.2)] 305)) w2 →
            SpansAt w2 sb rb rs ∧ Below w1.heap.size w1 w2 ∧ w2.cell? ⟨wr.heap.size, 0, none⟩ = some (iv r.1) := by
          intro w2 b2
          exact ⟨HH2.out.below b2, HS2.out.trans (b2.mono (by simp; omega)), by rw [b2.cell (by simp)]; simp⟩
        have KEY := Lib.hid key; clear key
        cases e2 : firstM false r.2 0 with
        | some s =>
          obtain ⟨q1, q2⟩ := firstA_some e2
          have hfc := first_c r h8 false (wr.alloc (.cells #[iv r.1, .string (markB r.2)] 305))
          rw [q1] at hfc
          have HFC := Lib.hid hfc; clear hfc q1
          have E2 := Lib.hid e2; clear e2
          by_cases e1 : r.1 = k
          · have t1 : (r.1 == k) = true := by simpa using e1
            have E1 := Lib.hid e1; clear e1
            go_wp2_with fail
            refine HFC.out.mono ?_
            rintro e w2 ⟨rfl, b2⟩
            obtain ⟨g1, g2, g3⟩ := KEY.out w2 b2
            obtain ⟨c2, g4⟩ := g1.sl
            have g5 := g1.mark HR.out
            have g6 := g1.free
            clear b2
            have G1 := Lib.hid g1; clear g1
            have G2 := Lib.hid g2; clear g2
            clear KEY HH2 HS2 HFC
            go_wp2_with fail
            refine (turn_c rb (p * 2) r.2 s q2 h8 true w2 g5 (g6 _)).mono ?_
            rintro e w3 ⟨rfl, hw3⟩
            go_wp2
            go_ret3
            have hres : allocR rs k = some (p, s, rs.set p (r.1, r.2.set s true)) := by
              rw [HA.out, HS.out.1, findSlot_hit HR.out E2.out E1.out]
              simp [HR.out, E1.out]
            refine ⟨ret_eq (by rw [hres]; rfl), ?_, ?_⟩
            · rw [hres, ← hw3]
              exact G1.out.drew.setMark HR.out _ (by simpa using h8)
            · rw [← hw3]
              exact (((Stp.below b1).trans (Stp.below G2.out)).trans (Stp.drew _ _)).trans (Stp.set (by simp) _ _)
          · have t1 : (r.1 == k) = false := by simpa using e1
            have hnx := HS.out.next HR.out (.inr e1)
            have HN := Lib.hid hnx; clear hnx e1
            by_cases e3 : r.1 = -1
            · have t3 : (r.1 == -1) = true := by simpa using e3
              have E3 := Lib.hid e3; clear e3
              cases fr with
              | none =>
                have t4 : (freshI none == -1) = true := rfl
                go_wp2_with fail
                refine HFC.out.mono ?_
                rintro e w2 ⟨rfl, b2⟩
                obtain ⟨g1, g2, g3⟩ := KEY.out w2 b2
                clear b2 g1
                have G2 := Lib.hid g2; clear g2
                clear KEY HH2 HS2 HFC
                go_wp2
                go_roundw
                case rel => exact ⟨p + 1, some p, by omega, by go_num, rfl, G2.out, by have := HN.out; simp only [nextFr, if_pos E3.out] at this; exact this⟩
                case measure => simp [intOf]; omega
              | some i =>
                have t4 : (freshI (some i) == -1) = false := by simp [freshI]
                go_wp2_with fail
                refine HFC.out.mono ?_
                rintro e w2 ⟨rfl, b2⟩
                obtain ⟨g1, g2, g3⟩ := KEY.out w2 b2
                clear b2 g1
                have G2 := Lib.hid g2; clear g2
                clear KEY HH2 HS2 HFC
                go_wp2
                go_roundw
                case rel => exact ⟨p + 1, some i, by omega, by go_num, rfl, G2.out, by have := HN.out; simp only [nextFr] at this; exact this⟩
                case measure => simp [intOf]; omega
            · have t3 : (r.1 == -1) = false := by simpa using e3
              have E3 := Lib.hid e3; clear e3
              go_wp2_with fail
              refine HFC.out.mono ?_
              rintro e w2 ⟨rfl, b2⟩
              obtain ⟨g1, g2, g3⟩ := KEY.out w2 b2
              clear b2 g1
              have G2 := Lib.hid g2; clear g2
              clear KEY HH2 HS2 HFC
              go_wp2
              go_roundw
              case rel => exact ⟨p + 1, fr, by omega, by go_num, rfl, G2.out, by have := HN.out; simp only [nextFr, if_neg E3.out, freshId] at this; exact this⟩
              case measure => simp [intOf]; omega
        | none =>
          have q1 := firstA_none e2
          have hfc := first_c r h8 false (wr.alloc (.cells #[iv r.1, .string (markB r.2)] 305))
          rw [q1] at hfc
          have HFC := Lib.hid hfc; clear hfc q1
          have HN := Lib.hid (HS.out.next HR.out (.inl e2))
          clear e2
          by_cases e1 : r.1 = k
          · have t1 : (r.1 == k) = true := by simpa using e1
            clear e1
            by_cases e3 : r.1 = -1
            · have t3 : (r.1 == -1) = true := by simpa using e3
              have E3 := Lib.hid e3; clear e3
              cases fr with
              | none =>
                have t4 : (freshI none == -1) = true := rfl
                go_wp2_with fail
                refine HFC.out.mono ?_
                rintro e w2 ⟨rfl, b2⟩
                obtain ⟨g1, g2, g3⟩ := KEY.out w2 b2
                clear b2 g1
                have G2 := Lib.hid g2; clear g2
                clear KEY HH2 HS2 HFC
                go_wp2
                go_roundw
                case rel => exact ⟨p + 1, some p, by omega, by go_num, rfl, G2.out, by have := HN.out; simp only [nextFr, if_pos E3.out] at this; exact this⟩
                case measure => simp [intOf]; omega
              | some i =>
                have t4 : (freshI (some i) == -1) = false := by simp [freshI]
                go_wp2_with fail
                refine HFC.out.mono ?_
                rintro e w2 ⟨rfl, b2⟩
                obtain ⟨g1, g2, g3⟩ := KEY.out w2 b2
                clear b2 g1
                have G2 := Lib.hid g2; clear g2
                clear KEY HH2 HS2 HFC
                go_wp2
                go_roundw
                case rel => exact ⟨p + 1, some i, by omega, by go_num, rfl, G2.out, by have := HN.out; simp only [nextFr] at this; exact this⟩
                case measure => simp [intOf]; omega
            · have t3 : (r.1 == -1) = false := by simpa using e3
              have E3 := Lib.hid e3; clear e3
              go_wp2_with fail
              refine HFC.out.mono ?_
              rintro e w2 ⟨rfl, b2⟩
              obtain ⟨g1, g2, g3⟩ := KEY.out w2 b2
              clear b2 g1
              have G2 := Lib.hid g2; clear g2
              clear KEY HH2 HS2 HFC
              go_wp2
              go_roundw
              case rel => exact ⟨p + 1, fr, by omega, by go_num, rfl, G2.out, by have := HN.out; simp only [nextFr, if_neg E3.out, freshId] at this; exact this⟩
              case measure => simp [intOf]; omega
          · have t1 : (r.1 == k) = false := by simpa using e1
            clear e1
            by_cases e3 : r.1 = -1
            · have t3 : (r.1 == -1) = true := by simpa using e3
              have E3 := Lib.hid e3; clear e3
              cases fr with
              | none =>
                have t4 : (freshI none == -1) = true := rfl
                go_wp2_with fail
                refine HFC.out.mono ?_
                rintro e w2 ⟨rfl, b2⟩
                obtain ⟨g1, g2, g3⟩ := KEY.out w2 b2
                clear b2 g1
                have G2 := Lib.hid g2; clear g2
                clear KEY HH2 HS2 HFC
                go_wp2
                go_roundw
                case rel => exact ⟨p + 1, some p, by omega, by go_num, rfl, G2.out, by have := HN.out; simp only [nextFr, if_pos E3.out] at this; exact this⟩
                case measure => simp [intOf]; omega
              | some i =>
                have t4 : (freshI (some i) == -1) = false := by simp [freshI]
                go_wp2_with fail
                refine HFC.out.mono ?_
                rintro e w2 ⟨rfl, b2⟩
                obtain ⟨g1, g2, g3⟩ := KEY.out w2 b2
                clear b2 g1
                have G2 := Lib.hid g2; clear g2
                clear KEY HH2 HS2 HFC
                go_wp2
                go_roundw
                case rel => exact ⟨p + 1, some i, by omega, by go_num, rfl, G2.out, by have := HN.out; simp only [nextFr] at this; exact this⟩
                case measure => simp [intOf]; omega
            · have t3 : (r.1 == -1) = false := by simpa using e3
              have E3 := Lib.hid e3; clear e3
              go_wp2_with fail
              refine HFC.out.mono ?_
              rintro e w2 ⟨rfl, b2⟩
              obtain ⟨g1, g2, g3⟩ := KEY.out w2 b2
              clear b2 g1
              have G2 := Lib.hid g2; clear g2
              clear KEY HH2 HS2 HFC
              go_wp2
              go_roundw
              case rel => exact ⟨p + 1, fr, by omega, by go_num, rfl, G2.out, by have := HN.out; simp only [nextFr, if_neg E3.out, freshId] at this; exact this⟩
              case measure => simp [intOf]; omega
      · obtain rfl : p = rs.length := by omega
        obtain ⟨a1, a2, a3⟩ := HS.out
        rw [List.drop_length] at a1 a2
        simp only [findSlot] at a1
        cases fr with
        | none =>
          simp only [findFresh] at a2
          have hres : Hid (allocR rs k = none) := by rw [Hid, HA.out, a1, a2]
          have t4 : (freshI none == -1) = true := rfl
          have HW := Lib.hid hw; clear hw
          have HB := Lib.hid hb; clear hb a1 a2 a3
          go_wp2
          go_ret3
          exact ⟨ret_eq (by rw [hres.out]; rfl), by rw [hres.out]; exact HW.out, (Stp.below b1).trans (Stp.below HB.out)⟩
        | some i =>
          simp only at a2
          have hres : Hid (allocR rs k = some (i, 0, rs.set i (k, (List.replicate (slotsC k).toNat false).set 0 true))) := by rw [Hid, HA.out, a1, a2]
          have t4 : (freshI (some i) == -1) = false := by simp [freshI]
          obtain ⟨r, hr⟩ := a3 i rfl
          have hi : i < rs.length := (List.getElem?_eq_some_iff.1 hr).1
          have c1 := hw.cls hr
          have c2 := hw.mark hr
          obtain ⟨c3, c4⟩ := hw.sl
          have c5 := hw.free
          have HW := Lib.hid hw; clear hw
          have HB := Lib.hid hb; clear hb a1 a2 a3
          have HR := Lib.hid hr; clear hr
          have hrep := repeat_c (slotsC k).toNat (by omega)
          rw [Int.toNat_of_nonneg (by omega)] at hrep
          have HREP := Lib.hid hrep; clear hrep
          simp only [freshI] at t4 ⊢
          go_wp2_with fail
          have c6 := c5 (i * 2)
          have c7 := c5 (i * 2 + 1)
          clear c5
          go_region_with (go_at_call 256; refine (HREP.out _).mono ?_; rintro e w' ⟨rfl, hb⟩; have c8 := cell_later hb c1; have c9 := cell_later hb c2; have f8 := frozen_later hb c1 c6; have f9 := frozen_later hb c2 c7; have c10 := cell_later hb c4)
          all_goals
            have d1 : SpansAt w' sb rb rs := HW.out.below (undrew hb)
            have d2 : Stp [sb, rb] [sb, rb] w w' := ((Stp.below b1).trans (Stp.below HB.out)).trans (Stp.below (undrew hb))
            have d3 : SpansAt ((w'.setCell ⟨rb, i * 2, none⟩ (iv k)).setCell ⟨rb, i * 2 + 1, none⟩ (.string (markB (List.replicate (slotsC k).toNat false)))) sb rb (rs.set i (k, List.replicate (slotsC k).toNat false)) := d1.setRow HR.out k _ (by simp; omega)
            have d4 : Stp [sb, rb] [sb, rb] w ((w'.setCell ⟨rb, i * 2, none⟩ (iv k)).setCell ⟨rb, i * 2 + 1, none⟩ (.string (markB (List.replicate (slotsC k).toNat false)))) := (d2.trans (Stp.set (by simp) _ _)).trans (Stp.set (by simp) _ _)
            clear d1 d2 c8 c9 f8 f9 c10 hb
            generalize (w'.setCell ⟨rb, i * 2, none⟩ (iv k)).setCell ⟨rb, i * 2 + 1, none⟩ (.string (markB (List.replicate (slotsC k).toNat false))) = W3 at d3 d4 ⊢
            have hr3 : (rs.set i (k, List.replicate (slotsC k).toNat false))[i]? = some (k, List.replicate (slotsC k).toNat false) := by simp [hi]
            have m3 := d3.mark hr3
            have f3 := d3.free (i * 2 + 1)
            obtain ⟨c8, c9⟩ := d3.sl
            rw [List.length_set] at c9
            have D3 := Lib.hid d3; clear d3
            have D4 := Lib.hid d4; clear d4
            have HR3 := Lib.hid hr3; clear hr3 c1 c2 c6 c7
            go_wp2_with fail
            have ht := turn_c rb (i * 2) (List.replicate (slotsC k).toNat false) 0 (by simp; omega) (by simp; omega) true W3 m3 f3
            rw [show ((0 : Nat) : Int) = 0 from rfl] at ht
            refine ht.mono ?_
            rintro e w4 ⟨rfl, hw4⟩
            go_wp2
            go_ret3
            refine ⟨ret_eq (by rw [hres.out]; rfl), ?_, ?_⟩
            · rw [hres.out, ← hw4]
              have := D3.out.drew.setMark HR3.out ((List.replicate (slotsC k).toNat false).set 0 true) (by simp; omega)
              rw [List.set_set] at this
              exact this
            · rw [← hw4]
              exact (D4.out.trans (Stp.drew _ _)).trans (Stp.set (by simp) _ _)
end Go.Proofs.YtcnppdbgieaddaaGreat

namespace Go.Proofs.YtcnppdbgieaddaaGreat
open Go.RowKit
set_option linter.unusedVariables false

theorem rowInfo : (Tryz.prog.info? 305).map (fun i => (i.zero, i.size, i.bytes)) = some (some (.agg #[.int .i64 0, .string ByteArray.empty]), 2, 24) := by kernel_rfl
theorem cell_pair_new (w : World) (a b : Value) (t : TypeId) : ∀ j u, [a, b][j]? = some u → (w.alloc (.cells #[a, b] t)).cell? ((⟨w.heap.size, 0, none⟩ : Addr).add j) = some u := cell_two_new w a b t

abbrev freshRow : Row := (-1, [])
theorem rowsV_snoc (rs : List Row) (r : Row) : rowsV (rs ++ [r]) = rowsV rs ++ [iv r.1, .string (markB r.2)] := by
  induction rs with
  | nil => rfl
  | cons a rs ih => simp [rowsV, ih]

set_option maxRecDepth 100000 in
theorem spans_new_c (n : Nat) (h1 : 2 ≤ n) (h2 : n ≤ 128) (w : World) :
    Calls Tryz.prog 236 #[iv n] w fun e w' => ∃ sb rb, e = .returned (.tuple #[.pointer (some ⟨sb, 0, none⟩), iv 0]) ∧ SpansAt w' sb rb (List.replicate n freshRow) ∧ w.heap.size ≤ sb ∧ w.heap.size ≤ rb ∧ Below w.heap.size w w' := by
  go_enter Tryz.func236, Tryz.ntmps236
  go_wp2_with fail
  go_loopw [14] (fun v14 wr => ∃ (p : Nat) (v : Value), p ≤ n ∧ v14 = iv p ∧ Blk wr w.heap.size [v] ∧ wr.ownsRow (w.heap.size + 1) 305 2 v p (rowsV (List.replicate p freshRow)) ∧ Below w.heap.size w wr) (fun v14 _ => n - (intOf v14).toNat)
  case atStart =>
    exact ⟨0, _, Nat.zero_le _, rfl, Blk.new w [.slice none 0 0] _, World.ownsRow_nil _ _ _ _, (Below.refl _ _).alloc (Nat.le_refl _) _⟩
  case round =>
    obtain ⟨p, v, hp, rfl, hb, hown, hbe⟩ := hrel
    have c0 := hb.cell 0
    simp only [List.getElem?_cons_zero] at c0
    have f0 := hb.free 0
    have hlt0 := hb.lt
    by_cases hlt : p < n
    · have HB := Lib.hid hb; clear hb
      have HBE := Lib.hid hbe; clear hbe
      have HO := Lib.hid hown; clear hown
      obtain ⟨i0, hi, hz0, hz1, hz2⟩ := info_parts rowInfo
      have HI := Lib.hid hi; have HZ0 := Lib.hid hz0; have HZ1 := Lib.hid hz1; have HZ2 := Lib.hid hz2
      clear hi hz0 hz1 hz2
      go_wp2_with (at_builtin; refine wpList_append_own _ rfl _ _ 306 rfl (w.heap.size + 1) 305 i0 (.agg #[.int .i64 0, .string ByteArray.empty]) 2 24 Tryz.underlying306 HI.out HZ0.out HZ1.out HZ2.out rfl (by decide) v p _ rfl (HO.out.alloc _) ⟨wr.heap.size, 0, none⟩ 1 1 [iv (-1), .string (markB [])] rfl rfl (cell_two_new _ _ _ _) ?c2 ?c3 ?c4 ?c5 ?next)
      case c2 => intro u hu; simp at hu; rcases hu with rfl | rfl <;> rfl
      case c3 => unfold maxLen; omega
      case c4 => omega
      case c5 => simp; omega
      case next =>
        intro v' w2 hown2 hg _
        obtain ⟨o', c', hv'⟩ := own_form hown2
        subst hv'
        have hne : some w.heap.size ≠ v.ownBlock := fun e => by have := HO.out.lt _ e.symm; omega
        have hb2 : Blk w2 w.heap.size [v] := (HB.out.alloc _).keep (hg.block _ (by simp; omega) hne)
        have hbe2 : Below w.heap.size w w2 := (HBE.out.alloc (by omega) _).grown hg (by simp; omega) (fun k hk => by have := HO.out.lt k hk; omega)
        have hs2 : wr.heap.size + 1 ≤ w2.heap.size := by have := hg.size; simpa using this
        have c0 := hb2.cell 0
        simp only [List.getElem?_cons_zero] at c0
        have f0 := hb2.free 0
        have HB2 := Lib.hid hb2; clear hb2 hg hne
        have HBE2 := Lib.hid hbe2; clear hbe2
        have HO2 := Lib.hid hown2; clear hown2
        clear HB HO HBE
        go_wp2
        go_roundw
        case rel =>
          refine ⟨p + 1, _, by omega, by go_num, HB2.out.set 0 _, ?_, HBE2.out.setCell (Nat.le_refl _) _⟩
          rw [List.replicate_succ', rowsV_snoc]
          exact ownsRow_setCell_below HO2.out (Nat.lt_succ_self _) _
        case measure => simp [intOf]; omega
    · obtain rfl : p = n := by omega
      have HB := Lib.hid hb; clear hb
      have HBE := Lib.hid hbe; clear hbe
      have HO := Lib.hid hown; clear hown
      go_wp2
      go_ret2
      obtain ⟨_, hv | ⟨g, cap, cur, hv, hg, hh, hc1, hc2, hc3, hc4⟩⟩ := HO.out
      · omega
      · refine ⟨w.heap.size, g, rfl, ⟨⟨cap, ?_, ?_⟩, ⟨cur.toList.drop (p * 2), 305, ?_⟩, by omega, by simp; omega, ?_⟩, Nat.le_refl _, by omega, HBE.out⟩
        · rw [List.length_replicate, ← hv]; exact HB.out
        · rw [List.length_replicate]; exact hc1
        · rw [← hc4, List.take_append_drop]; exact hh
        · intro r hr
          rw [List.eq_of_mem_replicate hr]; simp
end Go.Proofs.YtcnppdbgieaddaaGreat

namespace Go.Proofs.YtcnppdbgieaddaaGreat
open Go.RowKit
set_option linter.unusedVariables false

/-- What stands at a place: nothing, a header, a word. -/
inductive Cl where
  | nil
  | head (k n : Int)
  | word (v : Int)
def Cl.val : Cl → Value
  | .nil => .nilIface
  | .head k n => .iface 255 (.agg #[iv k, iv n])
  | .word v => .iface 263 (iv v)

/-- The arena at block ab: spans at sb (rows in rb), places in block lb. -/
structure ArenaAt (w : World) (ab sb rb lb : Nat) (rs : List Row) (f : Nat → Cl) : Prop where
  top : Blk w ab [.pointer (some ⟨sb, 0, none⟩), .slice (some ⟨lb, 0, none⟩) (32 * rs.length) (32 * rs.length)]
  spans : SpansAt w sb rb rs
  cells : Blk w lb ((List.range (32 * rs.length)).map fun i => (f i).val)
  ne : ab ≠ sb ∧ ab ≠ rb ∧ ab ≠ lb ∧ lb ≠ sb ∧ lb ≠ rb

variable {w w' : World} {ab sb rb lb : Nat} {rs : List Row} {f : Nat → Cl}
theorem ArenaAt.lt (h : ArenaAt w ab sb rb lb rs f) : ab < w.heap.size ∧ sb < w.heap.size ∧ rb < w.heap.size ∧ lb < w.heap.size := ⟨h.top.lt, h.spans.lt.1, h.spans.lt.2, h.cells.lt⟩
theorem ArenaAt.keep (h : ArenaAt w ab sb rb lb rs f) (h1 : ∀ b, b = ab ∨ b = sb ∨ b = rb ∨ b = lb → w'.heap[b]? = w.heap[b]?) : ArenaAt w' ab sb rb lb rs f :=
  ⟨h.top.keep (h1 _ (.inl rfl)), h.spans.keep (h1 _ (.inr (.inl rfl))) (h1 _ (.inr (.inr (.inl rfl)))), h.cells.keep (h1 _ (.inr (.inr (.inr rfl)))), h.ne⟩
theorem ArenaAt.below (h : ArenaAt w ab sb rb lb rs f) (hb : Below w.heap.size w w') : ArenaAt w' ab sb rb lb rs f := by
  obtain ⟨h1, h2, h3, h4⟩ := h.lt
  exact h.keep fun b e => hb.block b (by rcases e with rfl | rfl | rfl | rfl <;> assumption)
theorem ArenaAt.few (h : ArenaAt w ab sb rb lb rs f) : rs.length ≤ 128 := h.spans.few
theorem ArenaAt.c0 (h : ArenaAt w ab sb rb lb rs f) : w.cell? ⟨ab, 0, none⟩ = some (.pointer (some ⟨sb, 0, none⟩)) := by rw [h.top.cell]; rfl
theorem ArenaAt.c1 (h : ArenaAt w ab sb rb lb rs f) : w.cell? ⟨ab, 1, none⟩ = some (.slice (some ⟨lb, 0, none⟩) (32 * rs.length) (32 * rs.length)) := by rw [h.top.cell]; rfl
theorem ArenaAt.at_ (h : ArenaAt w ab sb rb lb rs f) {i : Nat} (hi : i < 32 * rs.length) : w.cell? ⟨lb, i, none⟩ = some (f i).val := by
  rw [h.cells.cell]; simp [hi]
theorem ArenaAt.free (h : ArenaAt w ab sb rb lb rs f) (i : Nat) : w.frozen? ⟨lb, i, none⟩ = false := h.cells.free i

/-- The header at a place. -/
def headA (N : Nat) (f : Nat → Cl) (a : Int) : (Int × Int) × Bool :=
  if a < 0 then ((0, 0), false) else if (N : Int) ≤ a then ((0, 0), false) else match f a.toNat with
  | .head k n => ((k, n), true)
  | _ => ((0, 0), false)
abbrev headV (x : (Int × Int) × Bool) : Value := .tuple #[.agg #[iv x.1.1, iv x.1.2], .bool x.2]

theorem head_c (w : World) (h : ArenaAt w ab sb rb lb rs f) (a : Int) :
    Calls Tryz.prog 207 #[.pointer (some ⟨ab, 0, none⟩), iv a] w fun e w' => e = .returned (headV (headA (32 * rs.length) f a)) ∧ Below w.heap.size w w' := by
  have c1 := h.c1
  have hlt := h.lt
  obtain ⟨hl1, hl2, hl3, hl4⟩ := hlt
  have hN := h.few
  by_cases ha : a < 0
  · have hr : Hid (headA (32 * rs.length) f a = ((0, 0), false)) := by simp [Hid, headA, ha]
    clear h
    go_enter Tryz.func207, Tryz.ntmps207
    go_wp2
    exact bodyPost_ret (v := headV ((0, 0), false)) (by simp [results, Tryz.results207, go_sem]) rfl ⟨ret_eq (by rw [hr.out]), (Below.refl _ _).alloc (Nat.le_refl _) _⟩
  obtain ⟨k, rfl⟩ := Int.eq_ofNat_of_zero_le (by omega : 0 ≤ a)
  by_cases hk : 32 * rs.length ≤ k
  · have hr : Hid (headA (32 * rs.length) f k = ((0, 0), false)) := by simp only [Hid, headA]; rw [if_neg ha, if_pos (by omega)]
    clear h
    go_enter Tryz.func207, Tryz.ntmps207
    go_wp2
    exact bodyPost_ret (v := headV ((0, 0), false)) (by simp [results, Tryz.results207, go_sem]) rfl ⟨ret_eq (by rw [hr.out]), (Below.refl _ _).alloc (Nat.le_refl _) _⟩
  have hk' : k < 32 * rs.length := by omega
  have c2 := h.at_ hk'
  have hr0 : headA (32 * rs.length) f k = match f k with | .head k n => ((k, n), true) | _ => ((0, 0), false) := by simp only [headA]; rw [if_neg ha, if_neg (by omega)]; rfl
  clear h ha
  cases e : f k with
  | nil =>
    have hr : Hid (headA (32 * rs.length) f k = ((0, 0), false)) := by rw [Hid, hr0, e]
    rw [e] at c2
    simp only [Cl.val] at c2
    clear hr0 e
    go_enter Tryz.func207, Tryz.ntmps207
    go_wp2
    exact bodyPost_ret (v := headV ((0, 0), false)) (by simp [results, Tryz.results207, go_sem]) rfl ⟨ret_eq (by rw [hr.out]), ((Below.refl _ _).alloc (Nat.le_refl _) _).alloc (by simp) _⟩
  | head k' n =>
    have hr : Hid (headA (32 * rs.length) f k = ((k', n), true)) := by rw [Hid, hr0, e]
    rw [e] at c2
    simp only [Cl.val] at c2
    clear hr0 e
    go_enter Tryz.func207, Tryz.ntmps207
    go_wp2
    exact bodyPost_ret (v := headV ((k', n), true)) (by simp [results, Tryz.results207, go_sem]) rfl ⟨ret_eq (by rw [hr.out]), ((Below.refl _ _).alloc (Nat.le_refl _) _).alloc (by simp) _⟩
  | word v =>
    have hr : Hid (headA (32 * rs.length) f k = ((0, 0), false)) := by rw [Hid, hr0, e]
    rw [e] at c2
    simp only [Cl.val] at c2
    clear hr0 e
    go_enter Tryz.func207, Tryz.ntmps207
    go_wp2
    exact bodyPost_ret (v := headV ((0, 0), false)) (by simp [results, Tryz.results207, go_sem]) rfl ⟨ret_eq (by rw [hr.out]), ((Below.refl _ _).alloc (Nat.le_refl _) _).alloc (by simp) _⟩

theorem kind_c (w : World) (h : ArenaAt w ab sb rb lb rs f) (a : Int) :
    Calls Tryz.prog 123 #[.pointer (some ⟨ab, 0, none⟩), iv a] w fun e w' => e = .returned (iv (headA (32 * rs.length) f a).1.1) ∧ Below w.heap.size w w' := by
  have hc := head_c w h a
  generalize headA (32 * rs.length) f a = x at hc ⊢
  obtain ⟨⟨k, n⟩, b⟩ := x
  have HC := Lib.hid hc; clear hc h
  go_enter Tryz.func123, Tryz.ntmps123
  go_wp2_with (go_at_call 207; refine HC.out.mono ?_; rintro e w1 ⟨rfl, b1⟩)
  go_ret
  exact ⟨rfl, b1.alloc b1.size _⟩
theorem len_c (w : World) (h : ArenaAt w ab sb rb lb rs f) (a : Int) :
    Calls Tryz.prog 129 #[.pointer (some ⟨ab, 0, none⟩), iv a] w fun e w' => e = .returned (iv (headA (32 * rs.length) f a).1.2) ∧ Below w.heap.size w w' := by
  have hc := head_c w h a
  generalize headA (32 * rs.length) f a = x at hc ⊢
  obtain ⟨⟨k, n⟩, b⟩ := x
  have HC := Lib.hid hc; clear hc h
  go_enter Tryz.func129, Tryz.ntmps129
  go_wp2_with (go_at_call 207; refine HC.out.mono ?_; rintro e w1 ⟨rfl, b1⟩)
  go_ret
  exact ⟨rfl, b1.alloc b1.size _⟩

/-- Where a word of an object stands. -/
def placeA (x : (Int × Int) × Bool) (a i : Int) : Int × Int :=
  if x.2 = false then (0, 8) else if i < 0 then (0, 1) else if x.1.2 ≤ i then (0, 1) else (a + 1 + i, 0)

theorem place_c (w : World) (h : ArenaAt w ab sb rb lb rs f) (a i : Int) (hi : I64 i) (hn : ∀ x, headA (32 * rs.length) f a = x → x.2 = true → x.1.2 ≤ 32 ∧ 0 ≤ a ∧ a < 4096) :
    Calls Tryz.prog 214 #[.pointer (some ⟨ab, 0, none⟩), iv a, iv i] w fun e w' =>
      e = .returned (.tuple #[iv (placeA (headA (32 * rs.length) f a) a i).1, iv (placeA (headA (32 * rs.length) f a) a i).2]) ∧ Below w.heap.size w w' := by
  have hc := head_c w h a
  generalize headA (32 * rs.length) f a = x at hc hn ⊢
  obtain ⟨⟨k, n⟩, b⟩ := x
  have hn' := hn _ rfl
  obtain ⟨hi1, hi2⟩ := hi
  simp only at hn'
  have HC := Lib.hid hc; clear hc h hn
  cases b with
  | false =>
    have hr : Hid (placeA ((k, n), false) a i = (0, 8)) := by simp [Hid, placeA]
    clear hn'
    go_enter Tryz.func214, Tryz.ntmps214
    go_wp2_with (go_at_call 207; refine HC.out.mono ?_; rintro e w1 ⟨rfl, b1⟩)
    go_ret2
    exact ⟨ret_eq (by rw [hr.out]; rfl), b1.alloc b1.size _⟩
  | true =>
    obtain ⟨hn1, hn2, hn3⟩ := hn' rfl
    clear hn'
    by_cases h1 : i < 0
    · have hr : Hid (placeA ((k, n), true) a i = (0, 1)) := by simp [Hid, placeA, h1]
      go_enter Tryz.func214, Tryz.ntmps214
      go_wp2_with (go_at_call 207; refine HC.out.mono ?_; rintro e w1 ⟨rfl, b1⟩)
      go_ret2
      exact ⟨ret_eq (by rw [hr.out]; rfl), b1.alloc b1.size _⟩
    · by_cases h2 : n ≤ i
      · have hr : Hid (placeA ((k, n), true) a i = (0, 1)) := by simp only [Hid, placeA]; rw [if_neg (by simp), if_neg h1, if_pos h2]
        go_enter Tryz.func214, Tryz.ntmps214
        go_wp2_with (go_at_call 207; refine HC.out.mono ?_; rintro e w1 ⟨rfl, b1⟩)
        go_ret2
        exact ⟨ret_eq (by rw [hr.out]; rfl), b1.alloc b1.size _⟩
      · have hr : Hid (placeA ((k, n), true) a i = (a + 1 + i, 0)) := by simp only [Hid, placeA]; rw [if_neg (by simp), if_neg h1, if_neg h2]
        have h3 : i < 32 := by omega
        go_enter Tryz.func214, Tryz.ntmps214
        go_wp2_with (go_at_call 207; refine HC.out.mono ?_; rintro e w1 ⟨rfl, b1⟩)
        go_ret2
        exact ⟨ret_eq (by rw [hr.out]; rfl), b1.alloc b1.size _⟩
end Go.Proofs.YtcnppdbgieaddaaGreat

namespace Go.Proofs.YtcnppdbgieaddaaGreat
open Go.RowKit
set_option linter.unusedVariables false
variable {w w' : World} {ab sb rb lb : Nat} {rs : List Row} {f : Nat → Cl}

/-- Each header has its words behind it. -/
def WfC (N : Nat) (f : Nat → Cl) : Prop := ∀ a k n, a < N → f a = .head k n → (0 ≤ n ∧ n < 32 ∧ (a : Int) + n < N) ∧ ∀ i : Nat, (i : Int) < n → ∃ v, f (a + 1 + i) = .word v
theorem headA_yes {N : Nat} {f : Nat → Cl} {a : Int} (h : (headA N f a).2 = true) : ∃ m k n, a = (m : Nat) ∧ m < N ∧ f m = .head k n ∧ headA N f a = ((k, n), true) := by
  unfold headA at h ⊢
  by_cases h1 : a < 0
  · simp [h1] at h
  by_cases h2 : (N : Int) ≤ a
  · simp [h1, h2] at h
  rw [if_neg h1, if_neg h2] at h ⊢
  obtain ⟨m, rfl⟩ := Int.eq_ofNat_of_zero_le (by omega : 0 ≤ a)
  simp only [Int.toNat_natCast] at h ⊢
  cases e : f m with
  | head k n => exact ⟨m, k, n, rfl, by omega, e, rfl⟩
  | nil => rw [e] at h; cases h
  | word v => rw [e] at h; cases h
theorem WfC.bound {N : Nat} (hN : N ≤ 4096) (h : WfC N f) (a : Int) : ∀ x, headA N f a = x → x.2 = true → x.1.2 ≤ 32 ∧ 0 ≤ a ∧ a < 4096 := by
  intro x hx hb
  subst hx
  obtain ⟨m, k, n, rfl, hm, hf, he⟩ := headA_yes hb
  have := (h m k n hm hf).1
  rw [he]
  exact ⟨by simp only; omega, by omega, by omega⟩

def wordC : Cl → Int
  | .word v => v
  | _ => 0
def loadA (N : Nat) (f : Nat → Cl) (a i : Int) : Int × Int :=
  match placeA (headA N f a) a i with
  | (p, e) => if e = 0 then (wordC (f p.toNat), 0) else (0, e)

theorem placeA_ok {x : (Int × Int) × Bool} {a i : Int} (h : (placeA x a i).2 = 0) : x.2 = true ∧ 0 ≤ i ∧ i < x.1.2 ∧ (placeA x a i).1 = a + 1 + i := by
  unfold placeA at h ⊢
  by_cases h1 : x.2 = false
  · simp [h1] at h
  by_cases h2 : i < 0
  · simp [h1, h2] at h
  by_cases h3 : x.1.2 ≤ i
  · simp [h1, h2, h3] at h
  rw [if_neg h1, if_neg h2, if_neg h3]
  exact ⟨by simpa using h1, by omega, by omega, rfl⟩
theorem place_in {N : Nat} (hw : WfC N f) {a i : Int} (h : (placeA (headA N f a) a i).2 = 0) : ∃ p : Nat, (placeA (headA N f a) a i).1 = p ∧ p < N := by
  obtain ⟨h1, h2, h3, h4⟩ := placeA_ok h
  obtain ⟨m, k, n, rfl, hm, hf, he⟩ := headA_yes h1
  have := (hw m k n hm hf).1
  rw [he] at h3
  simp only at h3
  exact ⟨m + 1 + i.toNat, by rw [h4]; omega, by omega⟩

theorem load_c (w : World) (h : ArenaAt w ab sb rb lb rs f) (hw : WfC (32 * rs.length) f) (a i : Int) (hi : I64 i) :
    Calls Tryz.prog 215 #[.pointer (some ⟨ab, 0, none⟩), iv a, iv i] w fun e w' =>
      e = .returned (.tuple #[iv (loadA (32 * rs.length) f a i).1, iv (loadA (32 * rs.length) f a i).2]) ∧ Below w.heap.size w w' := by
  have hN := h.few
  have hc := place_c w h a i hi (hw.bound (by omega) a)
  by_cases e0 : (placeA (headA (32 * rs.length) f a) a i).2 = 0
  · obtain ⟨p, hp, hpN⟩ := place_in hw e0
    rw [hp, e0] at hc
    have hr : Hid (loadA (32 * rs.length) f a i = (wordC (f p), 0)) := by
      unfold Hid loadA
      rw [show placeA (headA (32 * rs.length) f a) a i = ((p : Int), 0) from Prod.ext hp e0]
      simp
    have key : ∀ w1, Below w.heap.size w w1 → w1.cell? ⟨ab, 1, none⟩ = some (.slice (some ⟨lb, 0, none⟩) (32 * rs.length) (32 * rs.length)) ∧ w1.cell? ⟨lb, p, none⟩ = some (f p).val :=
      fun w1 hb => ⟨(h.below hb).c1, (h.below hb).at_ hpN⟩
    have KEY := Lib.hid key; clear key
    have HC := Lib.hid hc; clear hc hp e0 h hw hi
    cases e : f p with
    | nil =>
      rw [e] at hr KEY
      simp only [Cl.val, wordC] at hr KEY
      clear e
      go_enter Tryz.func215, Tryz.ntmps215
      go_wp2_with (go_at_call 214; refine HC.out.mono ?_; rintro e w1 ⟨rfl, b1⟩; obtain ⟨k1, k2⟩ := KEY.out w1 b1)
      go_ret2
      exact ⟨ret_eq (by rw [hr.out]; rfl), b1⟩
    | head k n =>
      rw [e] at hr KEY
      simp only [Cl.val, wordC] at hr KEY
      clear e
      go_enter Tryz.func215, Tryz.ntmps215
      go_wp2_with (go_at_call 214; refine HC.out.mono ?_; rintro e w1 ⟨rfl, b1⟩; obtain ⟨k1, k2⟩ := KEY.out w1 b1)
      go_ret2
      exact ⟨ret_eq (by rw [hr.out]; rfl), b1⟩
    | word v =>
      rw [e] at hr KEY
      simp only [Cl.val, wordC] at hr KEY
      clear e
      go_enter Tryz.func215, Tryz.ntmps215
      go_wp2_with (go_at_call 214; refine HC.out.mono ?_; rintro e w1 ⟨rfl, b1⟩; obtain ⟨k1, k2⟩ := KEY.out w1 b1)
      go_ret2
      exact ⟨ret_eq (by rw [hr.out]; rfl), b1⟩
  · have hr : Hid (loadA (32 * rs.length) f a i = (0, (placeA (headA (32 * rs.length) f a) a i).2)) := by
      unfold Hid loadA
      simp only [if_neg e0]
    have t1 : ((placeA (headA (32 * rs.length) f a) a i).2 != 0) = true := by simpa using e0
    generalize placeA (headA (32 * rs.length) f a) a i = x at hc hr t1
    obtain ⟨p, e⟩ := x
    simp only at hc hr t1
    have HC := Lib.hid hc; clear hc e0 h hw
    go_enter Tryz.func215, Tryz.ntmps215
    go_wp2_with (go_at_call 214; refine HC.out.mono ?_; rintro e w1 ⟨rfl, b1⟩)
    go_ret2
    exact ⟨ret_eq (by rw [hr.out]; rfl), b1⟩

def updC (f : Nat → Cl) (p : Nat) (c : Cl) : Nat → Cl := fun j => if j = p then c else f j
theorem range_map_set {α : Type} (g : Nat → α) (N p : Nat) (v : α) : ((List.range N).map g).set p v = (List.range N).map fun j => if j = p then v else g j := by
  apply List.ext_getElem
  · simp
  · intro i h1 h2
    rw [List.getElem_set]
    simp only [List.getElem_map, List.getElem_range]
    by_cases e : p = i
    · simp [e]
    · rw [if_neg e, if_neg (fun x => e x.symm)]
theorem ArenaAt.set (h : ArenaAt w ab sb rb lb rs f) (p : Nat) (c : Cl) : ArenaAt (w.setCell ⟨lb, p, none⟩ c.val) ab sb rb lb rs (updC f p c) := by
  obtain ⟨n1, n2, n3, n4, n5⟩ := h.ne
  refine ⟨h.top.set_other n3 _ _, h.spans.keep (Below.heap_setCell _ _ _ _ (fun e => n4 e.symm)) (Below.heap_setCell _ _ _ _ (fun e => n5 e.symm)), ?_, h.ne⟩
  have := h.cells.set p c.val
  rw [range_map_set] at this
  have e : (fun j => if j = p then c.val else (f j).val) = fun j => (updC f p c j).val := by
    funext j; unfold updC; split <;> rfl
  rw [e] at this
  exact this
def storeA (N : Nat) (f : Nat → Cl) (a i v : Int) : (Nat → Cl) × Int :=
  match placeA (headA N f a) a i with
  | (p, e) => if e = 0 then (updC f p.toNat (.word v), 0) else (f, e)

theorem WfC.store {N : Nat} (hw : WfC N f) {a i : Int} (h : (placeA (headA N f a) a i).2 = 0) (v : Int) : WfC N (updC f (placeA (headA N f a) a i).1.toNat (.word v)) := by
  obtain ⟨h1, h2, h3, h4⟩ := placeA_ok h
  obtain ⟨m, k, n, rfl, hm, hf, he⟩ := headA_yes h1
  rw [he] at h3
  simp only at h3
  rw [h4]
  obtain ⟨i, rfl⟩ := Int.eq_ofNat_of_zero_le h2
  have ep : ((m : Int) + 1 + (i : Int)).toNat = m + 1 + i := by omega
  rw [ep]
  obtain ⟨u, hu⟩ := (hw m k n hm hf).2 i h3
  intro a' k' n' ha' hf'
  unfold updC at hf' ⊢
  by_cases e : a' = m + 1 + i
  · rw [if_pos e] at hf'; cases hf'
  · rw [if_neg e] at hf'
    obtain ⟨q1, q2⟩ := hw a' k' n' ha' hf'
    refine ⟨q1, fun j hj => ?_⟩
    by_cases e2 : a' + 1 + j = m + 1 + i
    · exact ⟨v, by simp [e2]⟩
    · obtain ⟨u', hu'⟩ := q2 j hj
      exact ⟨u', by simp [e2, hu']⟩
theorem storeA_wf {N : Nat} (hw : WfC N f) (a i v : Int) : WfC N (storeA N f a i v).1 := by
  unfold storeA
  by_cases e : (placeA (headA N f a) a i).2 = 0
  · have := hw.store e v
    generalize placeA (headA N f a) a i = x at e this ⊢
    obtain ⟨p, q⟩ := x
    simp only at e this ⊢
    rw [if_pos e]; exact this
  · generalize placeA (headA N f a) a i = x at e ⊢
    obtain ⟨p, q⟩ := x
    simp only at e ⊢
    rw [if_neg e]; exact hw

theorem store_c (w : World) (h : ArenaAt w ab sb rb lb rs f) (hw : WfC (32 * rs.length) f) (a i v : Int) (hi : I64 i) :
    Calls Tryz.prog 140 #[.pointer (some ⟨ab, 0, none⟩), iv a, iv i, iv v] w fun e w' =>
      e = .returned (iv (storeA (32 * rs.length) f a i v).2) ∧ ArenaAt w' ab sb rb lb rs (storeA (32 * rs.length) f a i v).1 ∧ Stp [lb] [lb] w w' := by
  have hN := h.few
  have hc := place_c w h a i hi (hw.bound (by omega) a)
  by_cases e0 : (placeA (headA (32 * rs.length) f a) a i).2 = 0
  · obtain ⟨p, hp, hpN⟩ := place_in hw e0
    rw [hp, e0] at hc
    have hr : Hid (storeA (32 * rs.length) f a i v = (updC f p (.word v), 0)) := by
      unfold Hid storeA
      rw [show placeA (headA (32 * rs.length) f a) a i = ((p : Int), 0) from Prod.ext hp e0]
      simp
    have key : ∀ w1, Below w.heap.size w w1 → ArenaAt w1 ab sb rb lb rs f ∧ w1.cell? ⟨ab, 1, none⟩ = some (.slice (some ⟨lb, 0, none⟩) (32 * rs.length) (32 * rs.length)) ∧ w1.cell? ⟨lb, p, none⟩ = some (f p).val ∧ w1.frozen? ⟨lb, p, none⟩ = false :=
      fun w1 hb => ⟨h.below hb, (h.below hb).c1, (h.below hb).at_ hpN, (h.below hb).free _⟩
    have KEY := Lib.hid key; clear key
    have HC := Lib.hid hc; clear hc hp e0 h hw hi
    go_enter Tryz.func140, Tryz.ntmps140
    go_wp2_with fail
    refine HC.out.mono ?_
    rintro e w1 ⟨rfl, b1⟩
    obtain ⟨k0, k1, k2, k3⟩ := KEY.out w1 b1
    have K0 := Lib.hid k0; clear k0
    go_wp2
    go_ret
    exact ⟨ret_eq (by rw [hr.out]; rfl), by rw [hr.out]; exact K0.out.set p (.word v), (Stp.below b1).trans (Stp.set (by simp) _ _)⟩
  · have hr : Hid (storeA (32 * rs.length) f a i v = (f, (placeA (headA (32 * rs.length) f a) a i).2)) := by
      unfold Hid storeA
      simp only [if_neg e0]
    have t1 : ((placeA (headA (32 * rs.length) f a) a i).2 == 0) = false := by simpa using e0
    generalize placeA (headA (32 * rs.length) f a) a i = x at hc hr t1
    obtain ⟨p, e⟩ := x
    simp only at hc hr t1
    have HC := Lib.hid hc; clear hc e0 hw
    go_enter Tryz.func140, Tryz.ntmps140
    go_wp2_with (go_at_call 214; refine HC.out.mono ?_; rintro e w1 ⟨rfl, b1⟩)
    go_ret
    exact ⟨ret_eq (by rw [hr.out]; rfl), by rw [hr.out]; exact h.below b1, Stp.below b1⟩
end Go.Proofs.YtcnppdbgieaddaaGreat

namespace Go.Proofs.YtcnppdbgieaddaaGreat
open Go.RowKit
set_option linter.unusedVariables false
variable {w w' : World} {ab sb rb lb : Nat} {rs rs' : List Row} {f : Nat → Cl}

/-- Rows as they should be. -/
def WfR (rs : List Row) : Prop := ∀ r ∈ rs, r.2.length = (slotsC r.1).toNat

theorem classC_cases {n : Int} (h : (classC n).2 = true) : 0 ≤ n ∧ ((classC n = (0, true) ∧ n < 4) ∨ (classC n = (1, true) ∧ 4 ≤ n ∧ n < 8) ∨ (classC n = (2, true) ∧ 8 ≤ n ∧ n < 16) ∨ (classC n = (3, true) ∧ 16 ≤ n ∧ n < 32)) := by
  unfold classC at h ⊢
  by_cases h0 : n < 0
  · simp [h0] at h
  by_cases h1 : n < 4
  · simp [h0, h1]; omega
  by_cases h2 : n < 8
  · simp [h0, h1, h2]; omega
  by_cases h3 : n < 16
  · simp [h0, h1, h2, h3]; omega
  by_cases h4 : n < 32
  · simp [h0, h1, h2, h3, h4]; omega
  simp [h0, h1, h2, h3, h4] at h

theorem findSlot_spec {k : Int} {rs : List Row} : ∀ {p i s : Nat}, findSlot k rs p = some (i, s) → p ≤ i ∧ ∃ r, rs[i - p]? = some r ∧ r.1 = k ∧ r.2[s]? = some false := by
  induction rs with
  | nil => intro p i s h; cases h
  | cons r rs ih =>
    intro p i s h
    simp only [findSlot] at h
    cases e : firstM false r.2 0 with
    | none =>
      rw [e] at h
      obtain ⟨h1, x, h2⟩ := ih h
      exact ⟨by omega, x, by rw [show i - p = (i - (p + 1)) + 1 from by omega]; simpa using h2⟩
    | some t =>
      rw [e] at h
      simp only at h
      by_cases hk : r.1 = k
      · rw [if_pos hk] at h
        cases h
        obtain ⟨_, h2⟩ := firstM_spec e
        exact ⟨Nat.le_refl _, r, by simp, hk, by simpa using h2⟩
      · rw [if_neg hk] at h
        obtain ⟨h1, x, h2⟩ := ih h
        exact ⟨by omega, x, by rw [show i - p = (i - (p + 1)) + 1 from by omega]; simpa using h2⟩
theorem findFresh_spec {rs : List Row} : ∀ {p i : Nat}, findFresh rs p = some i → p ≤ i ∧ ∃ r, rs[i - p]? = some r ∧ r.1 = -1 := by
  induction rs with
  | nil => intro p i h; cases h
  | cons r rs ih =>
    intro p i h
    simp only [findFresh] at h
    by_cases hk : r.1 = -1
    · rw [if_pos hk] at h
      cases h
      exact ⟨Nat.le_refl _, r, by simp, hk⟩
    · rw [if_neg hk] at h
      obtain ⟨h1, x, h2⟩ := ih h
      exact ⟨by omega, x, by rw [show i - p = (i - (p + 1)) + 1 from by omega]; simpa using h2⟩
theorem getElem?_lt {α : Type} {l : List α} {i : Nat} {x : α} (h : l[i]? = some x) : i < l.length := (List.getElem?_eq_some_iff.1 h).1

theorem allocR_spec (hw : WfR rs) {k : Int} {i s : Nat} (h : allocR rs k = some (i, s, rs')) : i < rs.length ∧ s < (slotsC k).toNat ∧ rs'.length = rs.length ∧ WfR rs' := by
  unfold allocR at h
  by_cases hz : slotsC k = 0
  · rw [if_pos hz] at h; cases h
  rw [if_neg hz] at h
  cases e : findSlot k rs 0 with
  | some q =>
    obtain ⟨i', s'⟩ := q
    rw [e] at h
    simp only [Option.some.injEq, Prod.mk.injEq] at h
    obtain ⟨rfl, rfl, rfl⟩ := h
    obtain ⟨_, r, hr, hk, hs⟩ := findSlot_spec e
    simp only [Nat.sub_zero] at hr
    have hl := hw r (List.mem_of_getElem? hr)
    refine ⟨getElem?_lt hr, by rw [← hk, ← hl]; exact getElem?_lt hs, by simp, ?_⟩
    intro x hx
    rcases List.mem_or_eq_of_mem_set hx with hx | rfl
    · exact hw x hx
    · simp only [hr, Option.map_some, Option.getD_some, List.length_set]
      rw [hl, hk]
  | none =>
    rw [e] at h
    simp only at h
    cases e2 : findFresh rs 0 with
    | none => rw [e2] at h; cases h
    | some i' =>
      rw [e2] at h
      simp only [Option.some.injEq, Prod.mk.injEq] at h
      obtain ⟨rfl, rfl, rfl⟩ := h
      obtain ⟨_, r, hr, _⟩ := findFresh_spec e2
      simp only [Nat.sub_zero] at hr
      refine ⟨getElem?_lt hr, ?_, by simp, ?_⟩
      · rcases slots_cases k with h | h | h | h | h <;> omega
      · intro x hx
        rcases List.mem_or_eq_of_mem_set hx with hx | rfl
        · exact hw x hx
        · simp

def clearC (f : Nat → Cl) (a p : Nat) : Nat → Cl := fun j => if a + 1 ≤ j ∧ j < a + 1 + p then .word 0 else f j
theorem clearC_zero (f : Nat → Cl) (a : Nat) : clearC f a 0 = f := by funext j; unfold clearC; rw [if_neg (by omega)]
theorem clearC_succ (f : Nat → Cl) (a p : Nat) : updC (clearC f a p) (a + 1 + p) (.word 0) = clearC f a (p + 1) := by
  funext j; unfold updC clearC
  by_cases h : j = a + 1 + p
  · rw [if_pos h, if_pos (by omega)]
  · rw [if_neg h]
    by_cases h2 : a + 1 ≤ j ∧ j < a + 1 + p
    · rw [if_pos h2, if_pos (by omega)]
    · rw [if_neg h2, if_neg (by omega)]

/-- An object is made: where, and how it went; what the spans and the places are then. -/
def allocA (rs : List Row) (f : Nat → Cl) (kind n : Int) : (Int × Int) × List Row × (Nat → Cl) :=
  if kind < 1 ∨ 6 < kind ∨ (classC n).2 = false then ((0, 1), rs, f) else
  match allocR rs (classC n).1 with
  | none => ((0, 9), rs, f)
  | some (i, s, rs') => (((i * 32 + s * (wordsC (classC n).1).toNat : Nat), 0), rs', clearC (updC f (i * 32 + s * (wordsC (classC n).1).toNat) (.head kind n)) (i * 32 + s * (wordsC (classC n).1).toNat) n.toNat)

theorem ArenaAt.spansTo (h : ArenaAt w ab sb rb lb rs f) (hs : SpansAt w' sb rb rs') (hl : rs'.length = rs.length) (st : Stp [sb, rb] [sb, rb] w w') : ArenaAt w' ab sb rb lb rs' f := by
  obtain ⟨n1, n2, n3, n4, n5⟩ := h.ne
  obtain ⟨l1, l2, l3, l4⟩ := h.lt
  refine ⟨?_, hs, ?_, h.ne⟩
  · rw [hl]; exact h.top.keep (st.block _ l1 (by simp [n1, n2]))
  · rw [hl]; exact h.cells.keep (st.block _ l4 (by simp [n4, n5]))

def AllocAPost (ab sb rb lb : Nat) (x : (Int × Int) × List Row × (Nat → Cl)) (w : World) (e : Ending) (w' : World) : Prop :=
  e = .returned (.tuple #[iv x.1.1, iv x.1.2]) ∧ ArenaAt w' ab sb rb lb x.2.1 x.2.2 ∧ Stp [sb, rb, lb] [sb, rb, lb] w w'

theorem class_facts {n : Nat} (h : (classC n).2 = true) : ∃ (c : Int) (W : Nat), classC n = (c, true) ∧ wordsC c = W ∧ n < W ∧ (slotsC c).toNat * W = 32 ∧ W ≤ 32 := by
  obtain ⟨_, ⟨h1, h2⟩ | ⟨h1, h2, h3⟩ | ⟨h1, h2, h3⟩ | ⟨h1, h2, h3⟩⟩ := classC_cases h
  · exact ⟨0, 4, h1, rfl, by omega, rfl, by omega⟩
  · exact ⟨1, 8, h1, rfl, by omega, rfl, by omega⟩
  · exact ⟨2, 16, h1, rfl, by omega, rfl, by omega⟩
  · exact ⟨3, 32, h1, rfl, by omega, rfl, by omega⟩
theorem slot_fits {s S W : Nat} (h1 : s < S) (h2 : S * W = 32) : s * W + W ≤ 32 := by
  have : (s + 1) * W ≤ S * W := Nat.mul_le_mul_right _ h1
  rw [Nat.add_mul] at this; omega

theorem arena_alloc_c (w : World) (h : ArenaAt w ab sb rb lb rs f) (hw : WfR rs) (kind n : Int) :
    Calls Tryz.prog 199 #[.pointer (some ⟨ab, 0, none⟩), iv kind, iv n] w (AllocAPost ab sb rb lb (allocA rs f kind n) w) := by
  have hN := h.few
  by_cases h1 : kind < 1 ∨ 6 < kind ∨ (classC n).2 = false
  · have hr : Hid (allocA rs f kind n = ((0, 1), rs, f)) := by unfold Hid allocA; rw [if_pos h1]
    have hcl := Lib.hid (class_c n)
    have hend : ∀ w1, Below w.heap.size w w1 → AllocAPost ab sb rb lb (allocA rs f kind n) w (.returned (.tuple #[iv 0, iv 1])) w1 := by
      intro w1 hb; rw [hr.out]; exact ⟨rfl, h.below hb, Stp.below hb⟩
    have HE := Lib.hid hend; clear hend h hr
    by_cases g1 : kind < 1
    · clear h1
      go_enter Tryz.func199, Tryz.ntmps199
      go_wp2_with (go_at_call 230; refine (hcl.out _).mono ?_; rintro e w1 ⟨rfl, b1⟩)
      go_ret2
      exact HE.out _ b1
    by_cases g2 : 6 < kind
    · clear h1
      go_enter Tryz.func199, Tryz.ntmps199
      go_wp2_with (go_at_call 230; refine (hcl.out _).mono ?_; rintro e w1 ⟨rfl, b1⟩)
      go_ret2
      exact HE.out _ b1
    have g3 : (classC n).2 = false := by rcases h1 with h | h | h <;> first | exact h | exact absurd h g1 | exact absurd h g2
    clear h1
    have hcl2 := hcl.out
    rw [g3] at hcl2
    have HCL := Lib.hid hcl2; clear hcl2 hcl g3
    go_enter Tryz.func199, Tryz.ntmps199
    go_wp2_with (go_at_call 230; refine (HCL.out _).mono ?_; rintro e w1 ⟨rfl, b1⟩)
    go_ret2
    exact HE.out _ b1
  · have g1 : ¬ kind < 1 := fun e => h1 (.inl e)
    have g2 : ¬ 6 < kind := fun e => h1 (.inr (.inl e))
    have g3 : (classC n).2 = true := by
      cases e : (classC n).2 with
      | true => rfl
      | false => exact absurd (.inr (.inr e)) h1
    obtain ⟨n0, _⟩ := classC_cases g3
    obtain ⟨n, rfl⟩ := Int.eq_ofNat_of_zero_le n0
    obtain ⟨c, W, hc, hW, hnW, hSW, hW32⟩ := class_facts g3
    have hcl := class_c n
    rw [hc] at hcl
    have HCL := Lib.hid hcl; clear hcl g3
    have hwc := words_c c
    rw [hW] at hwc
    have HWC := Lib.hid hwc; clear hwc
    have hA : allocA rs f kind n = match allocR rs c with
        | none => ((0, 9), rs, f)
        | some (i, s, rs') => (((i * 32 + s * W : Nat), 0), rs', clearC (updC f (i * 32 + s * W) (.head kind n)) (i * 32 + s * W) n) := by
      unfold allocA
      rw [if_neg h1, hc]
      simp only [hW, Int.toNat_natCast]
    have hsa := fun (w1 : World) (hb : Below w.heap.size w w1) => spans_alloc_c sb rb rs w1 (h.below hb).spans c
    unfold AllocPost at hsa
    clear h1
    cases e : allocR rs c with
    | none =>
      rw [e] at hA
      simp only at hA
      simp only [e, allocRes, allocRows] at hsa
      have HSA := Lib.hid hsa; clear hsa
      have HA := Lib.hid hA; clear hA
      have hk := fun (w1 : World) (hb : Below w.heap.size w w1) => (h.below hb).c0
      have HK := Lib.hid hk; clear hk hc hW e
      go_enter Tryz.func199, Tryz.ntmps199
      go_wp2_with fail
      refine (HCL.out _).mono ?_
      rintro e w1 ⟨rfl, b1⟩
      have k0 := HK.out w1 b1
      go_wp2_with fail
      refine (HSA.out w1 b1).mono ?_
      rintro e w2 ⟨rfl, s2, st2⟩
      go_wp2
      go_ret2
      unfold AllocAPost
      rw [HA.out]
      refine ⟨rfl, (h.below b1).spansTo s2 rfl st2, ?_⟩
      exact (Stp.below b1).trans (st2.sub (by simp))
    | some q =>
      obtain ⟨i, s, rs'⟩ := q
      obtain ⟨hi, hs, hl, hwf⟩ := allocR_spec hw e
      have hq := slot_fits hs hSW
      rw [e] at hA
      simp only at hA
      simp only [e, allocRes, allocRows] at hsa
      have HSA := Lib.hid hsa; clear hsa
      have HA := Lib.hid hA; clear hA
      have hk := fun (w1 : World) (hb : Below w.heap.size w w1) => (h.below hb).c0
      have HK := Lib.hid hk; clear hk hc hW e hSW
      have hq2 : (s : Int) * (W : Int) = ((s * W : Nat) : Int) := by simp
      generalize s * W = q at hq hq2 HA
      go_enter Tryz.func199, Tryz.ntmps199
      go_wp2_with fail
      refine (HCL.out _).mono ?_
      rintro e w1 ⟨rfl, b1⟩
      have k0 := HK.out w1 b1
      go_wp2_with fail
      refine (HSA.out w1 b1).mono ?_
      rintro e w2 ⟨rfl, s2, st2⟩
      have A2 := (h.below b1).spansTo s2 hl st2
      have T2 := (Stp.below b1 (S := [sb, rb, lb])).trans (st2.sub (by simp))
      clear s2 st2 b1 k0 h
      go_wp2_with fail
      refine (HWC.out w2).mono ?_
      rintro e w3 ⟨rfl, b3⟩
      have A3 := A2.below b3
      have T3 := T2.trans (Stp.below b3)
      clear b3 A2 T2
      have k1 := A3.c1
      have k2 := A3.at_ (i := i * 32 + q) (by omega)
      have k3 := A3.free (i * 32 + q)
      rw [hl] at k1
      have HA3 := Lib.hid A3; clear A3
      have HT3 := Lib.hid T3; clear T3
      go_wp2_with fail
      have A4 := HA3.out.set (i * 32 + q) (.head kind n)
      have T4 := HT3.out.trans (Stp.set (b := lb) (by simp) (i * 32 + q) (Cl.head kind n).val)
      clear k1 k2 k3 HA3 HT3
      have hlt : i * 32 + q + n + 1 ≤ 32 * rs.length := by omega
      go_loopw [64] (fun v64 wr => ∃ p : Nat, p ≤ n ∧ v64 = iv p ∧ ArenaAt wr ab sb rb lb rs' (clearC (updC f (i * 32 + q) (.head kind n)) (i * 32 + q) p) ∧ Stp [sb, rb, lb] [sb, rb, lb] w wr) (fun v64 _ => n - (intOf v64).toNat)
      case atStart => exact ⟨0, Nat.zero_le _, rfl, by rw [clearC_zero]; exact A4, T4⟩
      case round =>
        obtain ⟨p, hp, rfl, Ap, Tp⟩ := hrel
        clear A4 T4
        by_cases hpn : p < n
        · have k1 := Ap.c1
          have k2 := Ap.at_ (i := i * 32 + q + 1 + p) (by omega)
          have k3 := Ap.free (i * 32 + q + 1 + p)
          rw [hl] at k1
          have HAp := Lib.hid Ap; clear Ap
          have HTp := Lib.hid Tp; clear Tp
          go_wp2
          go_roundw
          case rel => exact ⟨p + 1, by omega, by go_num, by rw [← clearC_succ]; exact HAp.out.set _ (.word 0), HTp.out.trans (Stp.set (by simp) _ _)⟩
          case measure => simp [intOf]; omega
        · obtain rfl : p = n := by omega
          have HAp := Lib.hid Ap; clear Ap
          have HTp := Lib.hid Tp; clear Tp
          go_wp2
          go_ret2
          unfold AllocAPost
          rw [HA.out]
          exact ⟨ret_eq (by simp), HAp.out, HTp.out⟩
end Go.Proofs.YtcnppdbgieaddaaGreat
