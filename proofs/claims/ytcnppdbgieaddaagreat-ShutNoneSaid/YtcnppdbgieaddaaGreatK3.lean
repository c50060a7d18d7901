/- Objects: what an arena says, plainly; how the program's rows and places say it. No Go in it but the names of the rows. Objects: a word is turned, an object is made: plainly, and as the program's rows and places say it. Objects: an object is made, plainly, and as the program's rows and places say it. The program's arena in memory, by what it says plainly. A map from numbers to numbers, in memory. What is still to be looked at: the program's grey list, in memory. -/
import Derived.Test.YtcnppdbgieaddaaGreatK2
import Derived.Test.YtcnppdbgieaddaaGreatK1
namespace Go.Proofs.YtcnppdbgieaddaaGreat
set_option linter.unusedVariables false

/-- An arena, plainly: how many spans; each span's class; the objects: kind and words. -/
structure AS where
  n : Nat
  cls : Nat → Int
  obj : Nat → Option (Int × List Int)
/-- The words of a slot of a class, as a number. -/
def wN (c : Int) : Nat := (wordsC c).toNat
def sN (c : Int) : Nat := (slotsC c).toNat
structure WfAS (A : AS) : Prop where
  cls : ∀ i, i < A.n → A.cls i = -1 ∨ A.cls i = 0 ∨ A.cls i = 1 ∨ A.cls i = 2 ∨ A.cls i = 3
  obj : ∀ a k ws, A.obj a = some (k, ws) → a < 32 * A.n ∧ A.cls (a / 32) ≠ -1 ∧ a % 32 % wN (A.cls (a / 32)) = 0 ∧ ws.length < wN (A.cls (a / 32)) ∧ 1 ≤ k ∧ k ≤ 6
/-- The rows and the places say just that. -/
structure RepA (rs : List Row) (f : Nat → Cl) (A : AS) : Prop where
  wf : WfAS A
  len : rs.length = A.n
  cls : ∀ (i : Nat) (r : Row), rs[i]? = some r → r.1 = A.cls i
  size : ∀ (i : Nat) (r : Row), rs[i]? = some r → r.2.length = sN r.1
  mark : ∀ (i : Nat) (r : Row) (s : Nat) (b : Bool), rs[i]? = some r → r.2[s]? = some b → b = (A.obj (i * 32 + s * wN r.1)).isSome
  yes : ∀ (a : Nat) (k : Int) (ws : List Int), A.obj a = some (k, ws) → f a = .head k ws.length ∧ ∀ (i : Nat) (v : Int), ws[i]? = some v → f (a + 1 + i) = .word v
  no : ∀ (a : Nat) (k n : Int), a < 32 * A.n → f a = .head k n → (A.obj a).isSome = true

def objA (A : AS) (a : Int) : Option (Int × List Int) := if a < 0 then none else A.obj a.toNat
def kindA (A : AS) (a : Int) : Int := match objA A a with | some (k, _) => k | none => 0
def lenA (A : AS) (a : Int) : Int := match objA A a with | some (_, ws) => ws.length | none => 0
variable {rs : List Row} {f : Nat → Cl} {A : AS}

theorem RepA.head (h : RepA rs f A) (a : Int) : headA (32 * rs.length) f a = match objA A a with | some (k, ws) => ((k, (ws.length : Int)), true) | none => ((0, 0), false) := by
  unfold headA objA
  by_cases h1 : a < 0
  · rw [if_pos h1, if_pos h1]
  rw [if_neg h1, if_neg h1]
  obtain ⟨m, rfl⟩ := Int.eq_ofNat_of_zero_le (by omega : 0 ≤ a)
  simp only [Int.toNat_natCast]
  rw [h.len]
  cases e : A.obj m with
  | some o =>
    obtain ⟨k, ws⟩ := o
    have := (h.wf.obj m k ws e).1
    rw [if_neg (by omega), (h.yes m k ws e).1]
  | none =>
    by_cases h2 : ((32 * A.n : Nat) : Int) ≤ m
    · rw [if_pos h2]
    rw [if_neg h2]
    cases e2 : f m with
    | head k n =>
      have := h.no m k n (by omega) e2
      rw [e] at this; cases this
    | nil => rfl
    | word v => rfl
theorem RepA.kind (h : RepA rs f A) (a : Int) : (headA (32 * rs.length) f a).1.1 = kindA A a := by
  rw [h.head]; unfold kindA; cases objA A a <;> rfl
theorem RepA.lenE (h : RepA rs f A) (a : Int) : (headA (32 * rs.length) f a).1.2 = lenA A a := by
  rw [h.head]; unfold lenA; cases objA A a <;> rfl

theorem wN_pos {c : Int} (h : c = 0 ∨ c = 1 ∨ c = 2 ∨ c = 3) : (wN c = 4 ∧ sN c = 8) ∨ (wN c = 8 ∧ sN c = 4) ∨ (wN c = 16 ∧ sN c = 2) ∨ (wN c = 32 ∧ sN c = 1) := by
  rcases h with rfl | rfl | rfl | rfl
  · exact .inl ⟨rfl, rfl⟩
  · exact .inr (.inl ⟨rfl, rfl⟩)
  · exact .inr (.inr (.inl ⟨rfl, rfl⟩))
  · exact .inr (.inr (.inr ⟨rfl, rfl⟩))
/-- Where an object's slot lies. -/
theorem WfAS.slot (h : WfAS A) {a : Nat} {k : Int} {ws : List Int} (e : A.obj a = some (k, ws)) :
    ∃ s, a = a / 32 * 32 + s * wN (A.cls (a / 32)) ∧ s < sN (A.cls (a / 32)) ∧ a / 32 < A.n ∧ ws.length < wN (A.cls (a / 32)) ∧ s * wN (A.cls (a / 32)) + wN (A.cls (a / 32)) ≤ 32 := by
  obtain ⟨h1, h2, h3, h4, _⟩ := h.obj a k ws e
  have hi : a / 32 < A.n := by omega
  have hc := (h.cls _ hi).resolve_left h2
  refine ⟨a % 32 / wN (A.cls (a / 32)), ?_⟩
  rcases wN_pos hc with ⟨e1, e2⟩ | ⟨e1, e2⟩ | ⟨e1, e2⟩ | ⟨e1, e2⟩ <;> rw [e1] at h3 h4 ⊢ <;> rw [e2] <;> omega
theorem RepA.wfc (h : RepA rs f A) : WfC (32 * rs.length) f := by
  intro a k n ha hf
  rw [h.len] at ha ⊢
  obtain ⟨⟨k', ws⟩, e⟩ := Option.isSome_iff_exists.1 (h.no a k n ha hf)
  obtain ⟨h1, h2⟩ := h.yes a k' ws e
  rw [hf] at h1
  cases h1
  obtain ⟨s, q1, q2, q3, q4, q5⟩ := h.wf.slot e
  refine ⟨⟨by omega, by omega, by omega⟩, fun i hi => ?_⟩
  exact ⟨ws[i]'(by omega), h2 i _ (List.getElem?_eq_getElem _)⟩
theorem RepA.wfr (h : RepA rs f A) : WfR rs := by
  intro r hr
  obtain ⟨i, hi⟩ := List.getElem?_of_mem hr
  exact h.size i r hi

/-- A word is read. -/
def loadS (A : AS) (a i : Int) : Int × Int :=
  match objA A a with
  | none => (0, 8)
  | some (_, ws) => if i < 0 then (0, 1) else match ws[i.toNat]? with | some v => (v, 0) | none => (0, 1)
theorem RepA.load (h : RepA rs f A) (a i : Int) : loadA (32 * rs.length) f a i = loadS A a i := by
  unfold loadA loadS
  rw [h.head]
  cases e : objA A a with
  | none => simp [placeA]
  | some o =>
    obtain ⟨k, ws⟩ := o
    unfold placeA
    simp only [Bool.true_eq_false, if_false]
    by_cases h1 : i < 0
    · simp [h1]
    rw [if_neg h1, if_neg h1]
    obtain ⟨j, rfl⟩ := Int.eq_ofNat_of_zero_le (by omega : 0 ≤ i)
    simp only [Int.toNat_natCast]
    by_cases h2 : (ws.length : Int) ≤ j
    · rw [if_pos h2, List.getElem?_eq_none (by omega)]; simp
    rw [if_neg h2]
    have hj : j < ws.length := by omega
    rw [List.getElem?_eq_getElem hj]
    simp only [if_true]
    unfold objA at e
    by_cases h3 : a < 0
    · rw [if_pos h3] at e; cases e
    rw [if_neg h3] at e
    have e2 := (h.yes _ _ _ e).2 j _ (List.getElem?_eq_getElem hj)
    rw [show (a + 1 + (j : Int)).toNat = a.toNat + 1 + j from by omega, e2]
    rfl
end Go.Proofs.YtcnppdbgieaddaaGreat

namespace Go.Proofs.YtcnppdbgieaddaaGreat
set_option linter.unusedVariables false
variable {rs rs' : List Row} {f : Nat → Cl} {A : AS}

def updO (o : Nat → Option (Int × List Int)) (a : Nat) (x : Option (Int × List Int)) : Nat → Option (Int × List Int) := fun b => if b = a then x else o b
def updN (c : Nat → Int) (i : Nat) (x : Int) : Nat → Int := fun j => if j = i then x else c j

def storeS (A : AS) (a i v : Int) : AS × Int :=
  match objA A a with
  | none => (A, 8)
  | some (k, ws) => if i < 0 then (A, 1) else if (ws.length : Int) ≤ i then (A, 1) else ({ A with obj := updO A.obj a.toNat (some (k, ws.set i.toNat v)) }, 0)

theorem WfAS.upd (h : WfAS A) {a : Nat} {k : Int} {ws ws' : List Int} (e : A.obj a = some (k, ws)) (hl : ws'.length = ws.length) : WfAS { A with obj := updO A.obj a (some (k, ws')) } := by
  refine ⟨h.cls, fun b k' us hb => ?_⟩
  simp only [updO] at hb
  by_cases e2 : b = a
  · rw [if_pos e2] at hb
    cases hb
    subst e2
    obtain ⟨h1, h2, h3, h4, h5⟩ := h.obj _ _ _ e
    exact ⟨h1, h2, h3, by rw [hl]; exact h4, h5⟩
  · rw [if_neg e2] at hb
    exact h.obj b k' us hb

/-- Two objects lie apart. -/
theorem WfAS.apart (h : WfAS A) {a b : Nat} {k k' : Int} {ws us : List Int} (e1 : A.obj a = some (k, ws)) (e2 : A.obj b = some (k', us)) (hne : a ≠ b) {i j : Nat} (hi : i ≤ ws.length) (hj : j ≤ us.length) : a + i ≠ b + j := by
  obtain ⟨s, p1, p2, p3, p4, p5⟩ := h.slot e1
  obtain ⟨t, q1, q2, q3, q4, q5⟩ := h.slot e2
  intro heq
  have hd : a / 32 = b / 32 := by omega
  rw [hd] at p1 p2 p4 p5
  have hc := (h.cls _ q3).resolve_left (by have := (h.obj _ _ _ e2).2.1; exact this)
  rcases wN_pos hc with ⟨w1, w2⟩ | ⟨w1, w2⟩ | ⟨w1, w2⟩ | ⟨w1, w2⟩ <;> rw [w1] at p1 p4 p5 q1 q4 q5 <;> omega

theorem RepA.store (h : RepA rs f A) (a i v : Int) : (storeA (32 * rs.length) f a i v).2 = (storeS A a i v).2 ∧ RepA rs (storeA (32 * rs.length) f a i v).1 (storeS A a i v).1 := by
  unfold storeA storeS
  rw [h.head]
  cases e : objA A a with
  | none => simp only [placeA, if_true]; exact ⟨by simp, by simpa using h⟩
  | some o =>
    obtain ⟨k, ws⟩ := o
    unfold placeA
    simp only [Bool.true_eq_false, if_false]
    by_cases h1 : i < 0
    · simp only [if_pos h1]; exact ⟨by simp, by simpa using h⟩
    simp only [if_neg h1]
    by_cases h2 : (ws.length : Int) ≤ i
    · simp only [if_pos h2]; exact ⟨by simp, by simpa using h⟩
    simp only [if_neg h2, if_true]
    refine ⟨trivial, ?_⟩
    unfold objA at e
    by_cases h3 : a < 0
    · rw [if_pos h3] at e; cases e
    rw [if_neg h3] at e
    obtain ⟨m, rfl⟩ := Int.eq_ofNat_of_zero_le (by omega : 0 ≤ a)
    obtain ⟨j, rfl⟩ := Int.eq_ofNat_of_zero_le (by omega : 0 ≤ i)
    simp only [Int.toNat_natCast] at e ⊢
    have hj : j < ws.length := by omega
    rw [show ((m : Int) + 1 + (j : Int)).toNat = m + 1 + j from by omega]
    have hm := h.wf.obj m k ws e
    obtain ⟨y1, y2⟩ := h.yes m k ws e
    refine ⟨h.wf.upd e (by simp), h.len, h.cls, h.size, ?_, ?_, ?_⟩
    · intro i r s b hr hb
      rw [h.mark i r s b hr hb]
      simp only [updO]
      by_cases e2 : i * 32 + s * wN r.1 = m
      · rw [if_pos e2, e2, e]; rfl
      · rw [if_neg e2]
    · intro b k' us hb
      simp only [updO] at hb
      by_cases e2 : b = m
      · rw [if_pos e2] at hb
        cases hb
        subst e2
        refine ⟨?_, fun t x ht => ?_⟩
        · rw [updC, if_neg (by omega), y1, List.length_set]
        · rw [List.getElem?_set] at ht
          by_cases e3 : j = t
          · subst e3
            rw [if_pos rfl] at ht
            simp only [hj, if_true] at ht
            cases ht
            rw [updC, if_pos rfl]
          · rw [if_neg e3] at ht
            rw [updC, if_neg (by omega)]
            exact y2 t x ht
      · rw [if_neg e2] at hb
        obtain ⟨z1, z2⟩ := h.yes b k' us hb
        have ap : ∀ t, t ≤ us.length → m + (j + 1) ≠ b + t := fun t ht => h.wf.apart e hb (fun x => e2 x.symm) (by omega) ht
        refine ⟨?_, fun t x ht => ?_⟩
        · rw [updC, if_neg (by have := ap 0 (by omega); omega)]; exact z1
        · have ht' := getElem?_lt ht
          rw [updC, if_neg (by have := ap (t + 1) (by omega); omega)]; exact z2 t x ht
    · intro b k' n hb hf
      rw [updC] at hf
      by_cases e2 : b = m + 1 + j
      · rw [if_pos e2] at hf; cases hf
      · rw [if_neg e2] at hf
        have := h.no b k' n hb hf
        simp only [updO]
        by_cases e3 : b = m
        · rw [if_pos e3]; rfl
        · rw [if_neg e3]; exact this

/-! ### An object is made -/
def slotN (A : AS) (c : Int) (i : Nat) : Nat → Nat → Option Nat
  | 0, _ => none
  | d + 1, s => if (A.obj (i * 32 + s * wN c)).isSome then slotN A c i d (s + 1) else some s
def findN (A : AS) (c : Int) : Nat → Nat → Option (Nat × Nat)
  | 0, _ => none
  | d + 1, i => if A.cls i = c then (match slotN A c i (sN c) 0 with | some s => some (i, s) | none => findN A c d (i + 1)) else findN A c d (i + 1)
def freshN (A : AS) : Nat → Nat → Option Nat
  | 0, _ => none
  | d + 1, i => if A.cls i = -1 then some i else freshN A d (i + 1)
/-- Where a thing of a class comes to lie. -/
def spotA (A : AS) (c : Int) : Option (Nat × Nat) :=
  match findN A c A.n 0 with
  | some q => some q
  | none => match freshN A A.n 0 with
    | some i => some (i, 0)
    | none => none
def allocS (A : AS) (kind n : Int) : (Int × Int) × AS :=
  if kind < 1 ∨ 6 < kind ∨ (classC n).2 = false then ((0, 1), A) else
  match spotA A (classC n).1 with
  | none => ((0, 9), A)
  | some (i, s) => (((i * 32 + s * wN (classC n).1 : Nat), 0),
      { A with cls := updN A.cls i (classC n).1, obj := updO A.obj (i * 32 + s * wN (classC n).1) (some (kind, List.replicate n.toNat 0)) })

theorem firstM_slot {c : Int} {i : Nat} : ∀ (m : List Bool) (p : Nat), (∀ (s : Nat) (b : Bool), m[s]? = some b → b = (A.obj (i * 32 + (p + s) * wN c)).isSome) → firstM false m p = slotN A c i m.length p
  | [], p, h => rfl
  | b :: m, p, h => by
    have h0 := h 0 b rfl
    simp only [firstM, List.length_cons, slotN]
    simp only [Nat.add_zero] at h0
    rw [← h0]
    cases b with
    | true =>
      simp only [Bool.true_eq_false, if_false, if_true]
      exact firstM_slot m (p + 1) fun s b hb => by
        have := h (s + 1) b (by simpa using hb)
        rw [show p + (s + 1) = p + 1 + s from by omega] at this; exact this
    | false => simp
theorem findSlot_N {c : Int} (h : RepA rs f A) : ∀ (d p : Nat), p + d = rs.length → findSlot c (rs.drop p) p = findN A c d p
  | 0, p, hp => by rw [List.drop_eq_nil_of_le (by omega)]; rfl
  | d + 1, p, hp => by
    obtain ⟨r, hr⟩ : ∃ r, rs[p]? = some r := ⟨_, List.getElem?_eq_getElem (by omega)⟩
    have ih := findSlot_N (c := c) h d (p + 1) (by omega)
    obtain ⟨hlt, he⟩ := List.getElem?_eq_some_iff.1 hr
    rw [drop_cons hlt, he]
    simp only [findSlot, findN]
    rw [← h.cls p r hr]
    by_cases hc : r.1 = c
    · rw [if_pos hc]
      have hs : firstM false r.2 0 = slotN A c p (sN c) 0 := by
        rw [← hc, ← h.size p r hr]
        exact firstM_slot r.2 0 fun s b hb => by rw [Nat.zero_add]; exact h.mark p r s b hr hb
      rw [hs]
      cases slotN A c p (sN c) 0 with
      | some s => simp only [if_pos hc]
      | none => exact ih
    · rw [if_neg hc]
      cases firstM false r.2 0 with
      | some s => simp only [if_neg hc]; exact ih
      | none => exact ih
theorem findFresh_N (h : RepA rs f A) : ∀ (d p : Nat), p + d = rs.length → findFresh (rs.drop p) p = freshN A d p
  | 0, p, hp => by rw [List.drop_eq_nil_of_le (by omega)]; rfl
  | d + 1, p, hp => by
    obtain ⟨r, hr⟩ : ∃ r, rs[p]? = some r := ⟨_, List.getElem?_eq_getElem (by omega)⟩
    have ih := findFresh_N h d (p + 1) (by omega)
    obtain ⟨hlt, he⟩ := List.getElem?_eq_some_iff.1 hr
    rw [drop_cons hlt, he]
    simp only [findFresh, freshN]
    rw [← h.cls p r hr, ih]
end Go.Proofs.YtcnppdbgieaddaaGreat

namespace Go.Proofs.YtcnppdbgieaddaaGreat
set_option linter.unusedVariables false
variable {rs rs' : List Row} {f : Nat → Cl} {A : AS}

theorem slotN_spec {c : Int} {i : Nat} : ∀ (d p s : Nat), slotN A c i d p = some s → p ≤ s ∧ s < p + d ∧ A.obj (i * 32 + s * wN c) = none
  | 0, p, s, h => by cases h
  | d + 1, p, s, h => by
    simp only [slotN] at h
    by_cases e : (A.obj (i * 32 + p * wN c)).isSome = true
    · rw [if_pos e] at h
      obtain ⟨h1, h2, h3⟩ := slotN_spec d (p + 1) s h
      exact ⟨by omega, by omega, h3⟩
    · rw [if_neg e] at h
      cases h
      exact ⟨Nat.le_refl _, by omega, by simpa using e⟩
theorem findN_spec {c : Int} : ∀ (d p i s : Nat), findN A c d p = some (i, s) → p ≤ i ∧ i < p + d ∧ A.cls i = c ∧ s < sN c ∧ A.obj (i * 32 + s * wN c) = none
  | 0, p, i, s, h => by cases h
  | d + 1, p, i, s, h => by
    simp only [findN] at h
    by_cases hc : A.cls p = c
    · rw [if_pos hc] at h
      cases e : slotN A c p (sN c) 0 with
      | some t =>
        rw [e] at h
        cases h
        obtain ⟨_, h2, h3⟩ := slotN_spec _ _ _ e
        exact ⟨Nat.le_refl _, by omega, hc, by omega, h3⟩
      | none =>
        rw [e] at h
        obtain ⟨h1, h2, h3⟩ := findN_spec d (p + 1) i s h
        exact ⟨by omega, by omega, h3⟩
    · rw [if_neg hc] at h
      obtain ⟨h1, h2, h3⟩ := findN_spec d (p + 1) i s h
      exact ⟨by omega, by omega, h3⟩
theorem freshN_spec : ∀ (d p i : Nat), freshN A d p = some i → p ≤ i ∧ i < p + d ∧ A.cls i = -1
  | 0, p, i, h => by cases h
  | d + 1, p, i, h => by
    simp only [freshN] at h
    by_cases hc : A.cls p = -1
    · rw [if_pos hc] at h; cases h; exact ⟨Nat.le_refl _, by omega, hc⟩
    · rw [if_neg hc] at h
      obtain ⟨h1, h2, h3⟩ := freshN_spec d (p + 1) i h
      exact ⟨by omega, by omega, h3⟩
/-- A spot that is free: of its class, or in a span without one. -/
theorem spotA_spec {c : Int} (hc : c = 0 ∨ c = 1 ∨ c = 2 ∨ c = 3) {i s : Nat} (h : spotA A c = some (i, s)) :
    i < A.n ∧ s < sN c ∧ ((A.cls i = c ∧ A.obj (i * 32 + s * wN c) = none) ∨ (A.cls i = -1 ∧ s = 0)) := by
  unfold spotA at h
  cases e : findN A c A.n 0 with
  | some q =>
    obtain ⟨i', s'⟩ := q
    rw [e] at h
    cases h
    obtain ⟨_, h2, h3, h4, h5⟩ := findN_spec _ _ _ _ e
    exact ⟨by omega, h4, .inl ⟨h3, h5⟩⟩
  | none =>
    rw [e] at h
    simp only at h
    cases e2 : freshN A A.n 0 with
    | none => rw [e2] at h; cases h
    | some i' =>
      rw [e2] at h
      cases h
      obtain ⟨_, h2, h3⟩ := freshN_spec _ _ _ e2
      exact ⟨by omega, by rcases wN_pos hc with ⟨_, w⟩ | ⟨_, w⟩ | ⟨_, w⟩ | ⟨_, w⟩ <;> omega, .inr ⟨h3, rfl⟩⟩

/-- The arena with an object more. -/
def addA (A : AS) (c : Int) (i s : Nat) (k : Int) (ws : List Int) : AS :=
  { A with cls := updN A.cls i c, obj := updO A.obj (i * 32 + s * wN c) (some (k, ws)) }

theorem spot_at {c : Int} (hc : c = 0 ∨ c = 1 ∨ c = 2 ∨ c = 3) {i s : Nat} (hs : s < sN c) : (i * 32 + s * wN c) / 32 = i ∧ (i * 32 + s * wN c) % 32 % wN c = 0 ∧ s * wN c + wN c ≤ 32 := by
  rcases wN_pos hc with ⟨w1, w2⟩ | ⟨w1, w2⟩ | ⟨w1, w2⟩ | ⟨w1, w2⟩ <;> rw [w1] <;> omega

theorem WfAS.add (h : WfAS A) {c : Int} (hc : c = 0 ∨ c = 1 ∨ c = 2 ∨ c = 3) {i s : Nat} (hi : i < A.n) (hs : s < sN c)
    (ho : (A.cls i = c ∧ A.obj (i * 32 + s * wN c) = none) ∨ (A.cls i = -1 ∧ s = 0)) {k : Int} {ws : List Int} (hk : 1 ≤ k ∧ k ≤ 6) (hw : ws.length < wN c) : WfAS (addA A c i s k ws) := by
  obtain ⟨p1, p2, p3⟩ := spot_at hc hs (i := i)
  have hcls : ∀ j, A.cls j ≠ -1 → (addA A c i s k ws).cls j = A.cls j := by
    intro j hj
    simp only [addA, updN]
    by_cases e : j = i
    · rw [if_pos e]; subst e
      rcases ho with h | h
      · exact h.1.symm
      · exact absurd h.1 hj
    · rw [if_neg e]
  refine ⟨fun j hj => ?_, fun a k' us ha => ?_⟩
  · simp only [addA, updN]
    by_cases e : j = i
    · rw [if_pos e]; exact .inr hc
    · rw [if_neg e]; exact h.cls j hj
  · simp only [addA, updO] at ha
    by_cases e : a = i * 32 + s * wN c
    · rw [if_pos e] at ha
      cases ha
      have e2 : (addA A c i s k ws).cls (a / 32) = c := by rw [e, p1]; simp [addA, updN]
      rw [e2, e]
      refine ⟨?_, by omega, p2, hw, hk.1, hk.2⟩
      show i * 32 + s * wN c < 32 * A.n
      have : 0 < wN c := by rcases wN_pos hc with ⟨w1, w2⟩ | ⟨w1, w2⟩ | ⟨w1, w2⟩ | ⟨w1, w2⟩ <;> omega
      omega
    · rw [if_neg e] at ha
      obtain ⟨q1, q2, q3⟩ := h.obj a k' us ha
      rw [hcls _ q2]
      exact ⟨q1, q2, q3⟩

theorem add_get {c : Int} {i s : Nat} {k : Int} {ws : List Int} (b : Nat) : (addA A c i s k ws).obj b = if b = i * 32 + s * wN c then some (k, ws) else A.obj b := rfl

theorem RepA.add (h : RepA rs f A) {c : Int} (hc : c = 0 ∨ c = 1 ∨ c = 2 ∨ c = 3) {i s n : Nat} (hi : i < A.n) (hs : s < sN c)
    (ho : (A.cls i = c ∧ A.obj (i * 32 + s * wN c) = none) ∨ (A.cls i = -1 ∧ s = 0)) {k : Int} (hk : 1 ≤ k ∧ k ≤ 6) (hn : n < wN c) {m : List Bool} (hm : m.length = sN c)
    (hmk : ∀ (t : Nat) (b : Bool), m[t]? = some b → b = ((addA A c i s k (List.replicate n 0)).obj (i * 32 + t * wN c)).isSome) :
    RepA (rs.set i (c, m)) (clearC (updC f (i * 32 + s * wN c) (.head k n)) (i * 32 + s * wN c) n) (addA A c i s k (List.replicate n 0)) := by
  obtain ⟨p1, p2, p3⟩ := spot_at hc hs (i := i)
  have hwf := h.wf.add hc hi hs ho hk (ws := List.replicate n 0) (by simpa using hn)
  have hnew : (addA A c i s k (List.replicate n 0)).obj (i * 32 + s * wN c) = some (k, List.replicate n 0) := by rw [add_get, if_pos rfl]
  have hold : ∀ b k' us, A.obj b = some (k', us) → b ≠ i * 32 + s * wN c → (addA A c i s k (List.replicate n 0)).obj b = some (k', us) := fun b k' us hb e => by rw [add_get, if_neg e]; exact hb
  have hne : ∀ b k' us, A.obj b = some (k', us) → b ≠ i * 32 + s * wN c := by
    intro b k' us hb e
    subst e
    rcases ho with ho | ho
    · rw [ho.2] at hb; cases hb
    · have := (h.wf.obj _ _ _ hb).2.1
      rw [p1] at this; exact this ho.1
  -- what an old object has lies apart from the new one
  have hap : ∀ b k' us t, A.obj b = some (k', us) → t ≤ us.length → ¬ (i * 32 + s * wN c ≤ b + t ∧ b + t < i * 32 + s * wN c + 1 + n) := by
    intro b k' us t hb ht hin
    have := hwf.apart hnew (hold b k' us hb (hne b k' us hb)) (fun e => hne b k' us hb e.symm) (i := b + t - (i * 32 + s * wN c)) (j := t) (by simp; omega) ht
    omega
  refine ⟨hwf, by rw [List.length_set]; exact h.len, ?_, ?_, ?_, ?_, ?_⟩
  · intro j r hr
    rw [List.getElem?_set] at hr
    simp only [addA, updN]
    by_cases e : i = j
    · rw [if_pos e] at hr
      split at hr
      · cases hr; rw [if_pos e.symm]
      · cases hr
    · rw [if_neg e] at hr
      rw [if_neg (fun x => e x.symm)]; exact h.cls j r hr
  · intro j r hr
    rw [List.getElem?_set] at hr
    by_cases e : i = j
    · rw [if_pos e] at hr
      split at hr
      · cases hr; exact hm
      · cases hr
    · rw [if_neg e] at hr; exact h.size j r hr
  · intro j r t b hr hb
    rw [List.getElem?_set] at hr
    by_cases e : i = j
    · rw [if_pos e] at hr
      split at hr
      · cases hr; subst e; exact hmk t b hb
      · cases hr
    · rw [if_neg e] at hr
      rw [h.mark j r t b hr hb, add_get, if_neg]
      intro e2
      have hsz := h.size j r hr
      have ht := getElem?_lt hb
      have hjl : j < A.n := by rw [← h.len]; exact getElem?_lt hr
      have hcj := h.wf.cls j hjl
      rw [← h.cls j r hr] at hcj
      rcases hcj with hcj | hcj
      · rw [hsz, hcj] at ht; exact absurd ht (by simp [sN, slotsC])
      · have := (spot_at hcj (i := j) (s := t) (by omega)).1
        rw [e2, p1] at this
        exact e this
  · intro b k' us hb
    by_cases e : b = i * 32 + s * wN c
    · subst e
      rw [hnew] at hb
      cases hb
      refine ⟨?_, fun t x ht => ?_⟩
      · unfold clearC updC; rw [if_neg (by omega), if_pos rfl]; simp
      · have ht' := getElem?_lt ht
        simp at ht'
        rw [List.getElem?_replicate, if_pos ht'] at ht
        cases ht
        unfold clearC; rw [if_pos (by omega)]
    · rw [add_get, if_neg e] at hb
      obtain ⟨z1, z2⟩ := h.yes b k' us hb
      refine ⟨?_, fun t x ht => ?_⟩
      · have := hap b k' us 0 hb (by omega)
        unfold clearC updC; rw [if_neg (by omega), if_neg (by omega)]; exact z1
      · have ht' := getElem?_lt ht
        have := hap b k' us (t + 1) hb (by omega)
        unfold clearC updC; rw [if_neg (by omega), if_neg (by omega)]; exact z2 t x ht
  · intro b k' n' hb hf
    unfold clearC updC at hf
    by_cases e1 : i * 32 + s * wN c + 1 ≤ b ∧ b < i * 32 + s * wN c + 1 + n
    · rw [if_pos e1] at hf; cases hf
    rw [if_neg e1] at hf
    by_cases e2 : b = i * 32 + s * wN c
    · rw [add_get, if_pos e2]; rfl
    · rw [if_neg e2] at hf
      rw [add_get, if_neg e2]; exact h.no b k' n' hb hf

theorem classC_in {n : Int} (h : (classC n).2 = true) : ((classC n).1 = 0 ∨ (classC n).1 = 1 ∨ (classC n).1 = 2 ∨ (classC n).1 = 3) ∧ 0 ≤ n ∧ n.toNat < wN (classC n).1 := by
  obtain ⟨h0, ⟨h1, h2⟩ | ⟨h1, h2, h3⟩ | ⟨h1, h2, h3⟩ | ⟨h1, h2, h3⟩⟩ := classC_cases h <;> rw [h1]
  · exact ⟨.inl rfl, h0, by show n.toNat < 4; omega⟩
  · exact ⟨.inr (.inl rfl), h0, by show n.toNat < 8; omega⟩
  · exact ⟨.inr (.inr (.inl rfl)), h0, by show n.toNat < 16; omega⟩
  · exact ⟨.inr (.inr (.inr rfl)), h0, by show n.toNat < 32; omega⟩

theorem allocR_spot (h : RepA rs f A) {c : Int} (hc : c = 0 ∨ c = 1 ∨ c = 2 ∨ c = 3) :
    (allocR rs c = none ∧ spotA A c = none) ∨ (∃ i s m, allocR rs c = some (i, s, rs.set i (c, m)) ∧ spotA A c = some (i, s) ∧ m.length = sN c ∧
      ∀ (k : Int) (ws : List Int) (t : Nat) (b : Bool), m[t]? = some b → b = ((addA A c i s k ws).obj (i * 32 + t * wN c)).isSome) := by
  have hz : ¬ slotsC c = 0 := by rcases hc with rfl | rfl | rfl | rfl <;> decide
  have e1 := findSlot_N (c := c) h rs.length 0 (by omega)
  have e2 := findFresh_N h rs.length 0 (by omega)
  simp only [List.drop_zero] at e1 e2
  rw [h.len] at e1 e2
  unfold allocR spotA
  rw [if_neg hz, e1, e2]
  cases q1 : findN A c A.n 0 with
  | some q =>
    obtain ⟨i, s⟩ := q
    right
    obtain ⟨_, g2, g3, g4, g5⟩ := findN_spec _ _ _ _ q1
    obtain ⟨r, hr⟩ : ∃ r, rs[i]? = some r := ⟨_, List.getElem?_eq_getElem (by rw [h.len]; omega)⟩
    have hrc := (h.cls i r hr).trans g3
    refine ⟨i, s, _, rfl, rfl, ?_, ?_⟩
    · rw [hr]; simp only [Option.map_some, Option.getD_some, List.length_set]; rw [h.size i r hr, hrc]
    · intro k ws t b hb
      rw [hr] at hb
      simp only [Option.map_some, Option.getD_some] at hb
      rw [List.getElem?_set] at hb
      rw [add_get]
      by_cases e : s = t
      · rw [if_pos e] at hb
        split at hb
        · cases hb; rw [if_pos (by rw [e])]; rfl
        · cases hb
      · rw [if_neg e] at hb
        rw [if_neg, h.mark i r t b hr hb, hrc]
        intro e3
        have ht := getElem?_lt hb
        rw [h.size i r hr, hrc] at ht
        rcases wN_pos hc with ⟨w1, w2⟩ | ⟨w1, w2⟩ | ⟨w1, w2⟩ | ⟨w1, w2⟩ <;> rw [w1] at e3 <;> omega
  | none =>
    cases q2 : freshN A A.n 0 with
    | none => left; exact ⟨rfl, rfl⟩
    | some i =>
      right
      obtain ⟨_, g2, g3⟩ := freshN_spec _ _ _ q2
      refine ⟨i, 0, _, rfl, rfl, by simp [sN], ?_⟩
      intro k ws t b hb
      rw [List.getElem?_set] at hb
      rw [add_get]
      by_cases e : 0 = t
      · rw [if_pos e] at hb
        split at hb
        · cases hb; rw [if_pos (by rw [← e])]; rfl
        · cases hb
      · rw [if_neg e] at hb
        have ht := getElem?_lt hb
        rw [List.length_replicate] at ht
        rw [List.getElem?_replicate, if_pos ht] at hb
        cases hb
        have hts : t < sN c := ht
        have hp := spot_at hc hts (i := i)
        rw [if_neg]
        · cases q : A.obj (i * 32 + t * wN c) with
          | none => rfl
          | some o =>
            obtain ⟨k', us⟩ := o
            have := (h.wf.obj _ _ _ q).2.1
            rw [hp.1] at this; exact absurd g3 this
        · intro e3
          rcases wN_pos hc with ⟨w1, w2⟩ | ⟨w1, w2⟩ | ⟨w1, w2⟩ | ⟨w1, w2⟩ <;> rw [w1] at e3 <;> omega

theorem RepA.alloc (h : RepA rs f A) (kind n : Int) : (allocA rs f kind n).1 = (allocS A kind n).1 ∧ RepA (allocA rs f kind n).2.1 (allocA rs f kind n).2.2 (allocS A kind n).2 := by
  unfold allocA allocS
  by_cases h1 : kind < 1 ∨ 6 < kind ∨ (classC n).2 = false
  · rw [if_pos h1, if_pos h1]; exact ⟨rfl, h⟩
  rw [if_neg h1, if_neg h1]
  have g3 : (classC n).2 = true := by
    cases e : (classC n).2 with
    | true => rfl
    | false => exact absurd (.inr (.inr e)) h1
  obtain ⟨hc, n0, hn⟩ := classC_in g3
  rcases allocR_spot h hc with ⟨e1, e2⟩ | ⟨i, s, m, e1, e2, hm, hmk⟩
  · rw [e1, e2]; exact ⟨rfl, h⟩
  · rw [e1, e2]
    obtain ⟨q1, q2, q3⟩ := spotA_spec hc e2
    refine ⟨rfl, ?_⟩
    have := h.add hc q1 q2 q3 (k := kind) (n := n.toNat) ⟨by omega, by omega⟩ hn hm (hmk kind _)
    rw [Int.toNat_of_nonneg n0] at this
    exact this

/-- All words are ints of Go's. -/
def AS.I64 (A : AS) : Prop := ∀ a k ws, A.obj a = some (k, ws) → ∀ x ∈ ws, Go.Proofs.YtcnppdbgieaddaaGreat.I64 x
theorem storeS_i64 (h : A.I64) (a i v : Int) (hv : Go.Proofs.YtcnppdbgieaddaaGreat.I64 v) : (storeS A a i v).1.I64 := by
  unfold storeS
  cases e : objA A a with
  | none => exact h
  | some o =>
    obtain ⟨k, ws⟩ := o
    simp only
    by_cases h1 : i < 0
    · rw [if_pos h1]; exact h
    rw [if_neg h1]
    by_cases h2 : (ws.length : Int) ≤ i
    · rw [if_pos h2]; exact h
    rw [if_neg h2]
    intro b k' us hb x hx
    simp only [updO] at hb
    by_cases e2 : b = a.toNat
    · rw [if_pos e2] at hb
      cases hb
      rcases List.mem_or_eq_of_mem_set hx with hx | rfl
      · unfold objA at e
        by_cases h3 : a < 0
        · rw [if_pos h3] at e; cases e
        · rw [if_neg h3] at e; exact h _ _ _ e x hx
      · exact hv
    · rw [if_neg e2] at hb; exact h b k' us hb x hx
theorem allocS_i64 (h : A.I64) (kind n : Int) : (allocS A kind n).2.I64 := by
  unfold allocS
  by_cases h1 : kind < 1 ∨ 6 < kind ∨ (classC n).2 = false
  · rw [if_pos h1]; exact h
  rw [if_neg h1]
  cases spotA A (classC n).1 with
  | none => exact h
  | some q =>
    intro b k' us hb x hx
    simp only [updO] at hb
    by_cases e2 : b = q.1 * 32 + q.2 * wN (classC n).1
    · rw [if_pos e2] at hb
      cases hb
      rw [List.eq_of_mem_replicate hx]
      exact ⟨by decide, by decide⟩
    · rw [if_neg e2] at hb; exact h b k' us hb x hx
theorem AS.I64.at_ (h : A.I64) {a : Int} {k : Int} {ws : List Int} (e : objA A a = some (k, ws)) : ∀ x ∈ ws, Go.Proofs.YtcnppdbgieaddaaGreat.I64 x := by
  unfold objA at e
  by_cases h3 : a < 0
  · rw [if_pos h3] at e; cases e
  · rw [if_neg h3] at e; exact h _ _ _ e
end Go.Proofs.YtcnppdbgieaddaaGreat

namespace Go.Proofs.YtcnppdbgieaddaaGreat
open Go.RowKit
set_option linter.unusedVariables false

/-- The arena at block ab says A. -/
def ArenaA (w : World) (ab sb rb lb : Nat) (A : AS) : Prop := ∃ rs f, ArenaAt w ab sb rb lb rs f ∧ RepA rs f A
variable {w w' : World} {ab sb rb lb : Nat} {A : AS}
theorem ArenaA.lt (h : ArenaA w ab sb rb lb A) : ab < w.heap.size ∧ sb < w.heap.size ∧ rb < w.heap.size ∧ lb < w.heap.size := by
  obtain ⟨rs, f, h, _⟩ := h; exact h.lt
theorem ArenaA.keep (h : ArenaA w ab sb rb lb A) (h1 : ∀ b, b = ab ∨ b = sb ∨ b = rb ∨ b = lb → w'.heap[b]? = w.heap[b]?) : ArenaA w' ab sb rb lb A := by
  obtain ⟨rs, f, h, r⟩ := h; exact ⟨rs, f, h.keep h1, r⟩
theorem ArenaA.below (h : ArenaA w ab sb rb lb A) (hb : Below w.heap.size w w') : ArenaA w' ab sb rb lb A := by
  obtain ⟨rs, f, h, r⟩ := h; exact ⟨rs, f, h.below hb, r⟩
theorem ArenaA.wf (h : ArenaA w ab sb rb lb A) : WfAS A := by obtain ⟨rs, f, h, r⟩ := h; exact r.wf
theorem ArenaA.few (h : ArenaA w ab sb rb lb A) : A.n ≤ 128 := by obtain ⟨rs, f, h, r⟩ := h; rw [← r.len]; exact h.few

theorem akind_c (w : World) (h : ArenaA w ab sb rb lb A) (a : Int) : Calls Tryz.prog 123 #[.pointer (some ⟨ab, 0, none⟩), iv a] w fun e w' => e = .returned (iv (kindA A a)) ∧ Below w.heap.size w w' := by
  obtain ⟨rs, f, h, r⟩ := h; rw [← r.kind]; exact kind_c w h a
theorem alen_c (w : World) (h : ArenaA w ab sb rb lb A) (a : Int) : Calls Tryz.prog 129 #[.pointer (some ⟨ab, 0, none⟩), iv a] w fun e w' => e = .returned (iv (lenA A a)) ∧ Below w.heap.size w w' := by
  obtain ⟨rs, f, h, r⟩ := h; rw [← r.lenE]; exact len_c w h a
theorem aload_c (w : World) (h : ArenaA w ab sb rb lb A) (a i : Int) (hi : I64 i) : Calls Tryz.prog 215 #[.pointer (some ⟨ab, 0, none⟩), iv a, iv i] w fun e w' =>
    e = .returned (.tuple #[iv (loadS A a i).1, iv (loadS A a i).2]) ∧ Below w.heap.size w w' := by
  obtain ⟨rs, f, h, r⟩ := h; rw [← r.load]; exact load_c w h r.wfc a i hi
theorem astore_c (w : World) (h : ArenaA w ab sb rb lb A) (a i v : Int) (hi : I64 i) : Calls Tryz.prog 140 #[.pointer (some ⟨ab, 0, none⟩), iv a, iv i, iv v] w fun e w' =>
    e = .returned (iv (storeS A a i v).2) ∧ ArenaA w' ab sb rb lb (storeS A a i v).1 ∧ Stp [lb] [lb] w w' := by
  obtain ⟨rs, f, h, r⟩ := h
  obtain ⟨r1, r2⟩ := r.store a i v
  refine (store_c w h r.wfc a i v hi).mono ?_
  rintro e w1 ⟨rfl, h1, s1⟩
  exact ⟨by rw [r1], ⟨_, _, h1, r2⟩, s1⟩
theorem aalloc_c (w : World) (h : ArenaA w ab sb rb lb A) (kind n : Int) : Calls Tryz.prog 199 #[.pointer (some ⟨ab, 0, none⟩), iv kind, iv n] w fun e w' =>
    e = .returned (.tuple #[iv (allocS A kind n).1.1, iv (allocS A kind n).1.2]) ∧ ArenaA w' ab sb rb lb (allocS A kind n).2 ∧ Stp [sb, rb, lb] [sb, rb, lb] w w' := by
  obtain ⟨rs, f, h, r⟩ := h
  obtain ⟨r1, r2⟩ := r.alloc kind n
  refine (arena_alloc_c w h r.wfr kind n).mono ?_
  unfold AllocAPost
  rintro e w1 ⟨rfl, h1, s1⟩
  exact ⟨by rw [r1], ⟨_, _, h1, r2⟩, s1⟩
end Go.Proofs.YtcnppdbgieaddaaGreat

namespace Go.Proofs.YtcnppdbgieaddaaGreat
open Go.RowKit
set_option linter.unusedVariables false

def putObj (w : World) (r : Nat) (o : Obj) : World := { w with heap := w.heap.setIfInBounds r o }
theorem putObj_same {w : World} {r : Nat} {o : Obj} (h : r < w.heap.size) : (putObj w r o).heap[r]? = some o := by simp [putObj, h]
theorem putObj_other {w : World} {r b : Nat} {o : Obj} (h : b ≠ r) : (putObj w r o).heap[b]? = w.heap[b]? := by
  simp only [putObj]; rw [Array.getElem?_setIfInBounds_ne (by omega)]
@[simp] theorem putObj_size (w : World) (r : Nat) (o : Obj) : (putObj w r o).heap.size = w.heap.size := by simp [putObj]
theorem Stp.put {S : List Nat} {w : World} {b : Nat} (hb : b ∈ S) (o : Obj) : Stp S S w (putObj w b o) :=
  ⟨rfl, rfl, rfl, by simp, fun c _ hn => putObj_other (fun e => hn (e ▸ hb)), fun _ h => .inl h⟩

abbrev ent (k v : Int) (b : Nat) : MapEntry := { key := .int .i64 k, val := .int .i64 v, born := b }
/-- What the entries say. -/
def lookL : List (Int × Int × Nat) → Int → Int
  | [], _ => 0
  | (k, v, _) :: l, x => if k = x then v else lookL l x
def hasL : List (Int × Int × Nat) → Int → Bool
  | [], _ => false
  | (k, _, _) :: l, x => if k = x then true else hasL l x
def putL : List (Int × Int × Nat) → Int → Int → List (Int × Int × Nat)
  | [], _, _ => []
  | (k, v, b) :: l, x, y => if k = x then (k, y, b) :: l else (k, v, b) :: putL l x y
def dropL : List (Int × Int × Nat) → Int → List (Int × Int × Nat)
  | [], _ => []
  | (k, v, b) :: l, x => if k = x then l else (k, v, b) :: dropL l x
def entsL (l : List (Int × Int × Nat)) : Array MapEntry := (l.map fun e => ent e.1 e.2.1 e.2.2).toArray
def idxL : List (Int × Int × Nat) → Int → Nat → Option Nat
  | [], _, _ => none
  | (k, _, _) :: l, x, i => if k = x then some i else idxL l x (i + 1)

section
variable {P : Program}
theorem findNow_ents (x : Int) : ∀ (l : List (Int × Int × Nat)) (i : Nat), Instr.findNow (.int .i64) (.int .i64 x) (l.map fun e => ent e.1 e.2.1 e.2.2) i = some ((idxL l x i).map fun j => (j, .int .i64 (lookL l x)))
  | [], i => rfl
  | (k, v, b) :: l, i => by
    simp only [List.map_cons, Instr.findNow, Instr.sameNow, idxL, lookL, if_true]
    by_cases h : k = x
    · subst h; simp
    · have h' : ¬ x = k := fun e => h e.symm
      have : (x == k) = false := by simpa using h'
      rw [this]
      simp only [if_neg h]
      exact findNow_ents x l (i + 1)
theorem idxL_none (x : Int) : ∀ (l : List (Int × Int × Nat)) (i : Nat), idxL l x i = none → lookL l x = 0 ∧ hasL l x = false
  | [], i, _ => ⟨rfl, rfl⟩
  | (k, v, b) :: l, i, h => by
    simp only [idxL] at h
    by_cases e : k = x
    · rw [if_pos e] at h; cases h
    · rw [if_neg e] at h
      simp only [lookL, hasL, if_neg e]
      exact idxL_none x l (i + 1) h
theorem idxL_some (x : Int) : ∀ (l : List (Int × Int × Nat)) (i j : Nat), idxL l x i = some j → hasL l x = true ∧ i ≤ j ∧ ∃ b v, l[j - i]? = some (x, v, b) ∧ (∀ y, l.set (j - i) (x, y, b) = putL l x y) ∧ l.eraseIdx (j - i) = dropL l x
  | [], i, j, h => by cases h
  | (k, v, b) :: l, i, j, h => by
    simp only [idxL] at h
    by_cases e : k = x
    · rw [if_pos e] at h; cases h
      subst e
      simp only [hasL, putL, dropL, if_true, Nat.sub_self]
      exact ⟨trivial, Nat.le_refl _, b, v, rfl, fun y => rfl, rfl⟩
    · rw [if_neg e] at h
      obtain ⟨h1, h2, b', v', h3, h4, h5⟩ := idxL_some x l (i + 1) j h
      simp only [hasL, putL, dropL, if_neg e]
      have e1 : j - i = (j - (i + 1)) + 1 := by omega
      rw [e1]
      exact ⟨h1, by omega, b', v', by simpa using h3, fun y => by rw [List.set_cons_succ, h4], by rw [List.eraseIdx_cons_succ, h5]⟩
theorem run_findKey_ents {t : TypeId} (ht : P.underlying t = some (.int .i64)) (x : Int) (l : List (Int × Int × Nat)) (w : World) :
    (Instr.findKey t (.int .i64 x) (entsL l).toList).run P w = .ok ((idxL l x 0).map fun j => (j, .int .i64 (lookL l x))) w := by
  unfold Instr.findKey entsL
  simp only [Sem.run_bind, run_underlying ht, Result.andThen_ok, findNow_ents]
  rfl
theorem run_checkKey_int {t : TypeId} (ht : P.underlying t = some (.int .i64)) (e : Bool) (x : Int) (w : World) : (Instr.checkKey e 10000 t (.int .i64 x)).run P w = .ok () w := by
  show (Instr.checkKey e (9999 + 1) t (.int .i64 x)).run P w = .ok () w
  unfold Instr.checkKey
  simp only [Sem.run_bind, run_underlying ht, Result.andThen_ok]
  rfl
theorem run_lookup_ents {T t : TypeId} (hT : P.underlying T = some (.map t t)) (ht : P.underlying t = some (.int .i64)) (hz : ∀ w, (zeroValue t).run P w = .ok (.int .i64 0) w)
    (r : Nat) (x : Int) (l : List (Int × Int × Nat)) (c : Nat) (w : World) (hr : w.heap[r]? = some (.map (entsL l) c)) :
    (Instr.lookup T (.map (some r)) (.int .i64 x) false).run P w = .ok (.int .i64 (lookL l x)) w := by
  unfold Instr.lookup
  simp only [Sem.run_bind, run_underlying hT, Result.andThen_ok, getObj, Sem.run, hr, run_checkKey_int ht]
  cases e : idxL l x 0 with
  | none =>
    simp
    rw [run_findKey_ents ht, e]
    simp [hz, (idxL_none x l 0 e).1]
  | some j =>
    simp
    rw [run_findKey_ents ht, e]
    simp
theorem sameBits_refl_int (k : Int) : Instr.sameBits 10000 (.int .i64 k) (.int .i64 k) = true := by simp [Instr.sameBits]
theorem ents_get {l : List (Int × Int × Nat)} {j : Nat} {x v : Int} {b : Nat} (h : l[j]? = some (x, v, b)) : (entsL l)[j]? = some (ent x v b) := by
  simp [entsL, h]
theorem ents_modify {l : List (Int × Int × Nat)} {j : Nat} {x v : Int} {b : Nat} (h : l[j]? = some (x, v, b)) (y : Int) :
    (entsL l).modify j (fun e => { e with key := .int .i64 x, val := .int .i64 y }) = entsL (l.set j (x, y, b)) := by
  apply Array.ext'
  have hj := (List.getElem?_eq_some_iff.1 h)
  obtain ⟨hj, he⟩ := hj
  simp only [entsL, Array.toList_modify, List.map_set]
  apply List.ext_getElem
  · simp
  · intro i h1 h2
    rw [List.getElem_modify, List.getElem_set]
    by_cases e : j = i
    · subst e; simp [he]
    · simp [e]
theorem eraseIdx_map' {α β : Type} (g : α → β) : ∀ (l : List α) (j : Nat), (l.map g).eraseIdx j = (l.eraseIdx j).map g
  | [], _ => rfl
  | _ :: _, 0 => rfl
  | a :: l, j + 1 => by simp only [List.map_cons, List.eraseIdx_cons_succ, eraseIdx_map' g l j]
theorem ents_erase {l : List (Int × Int × Nat)} {j : Nat} (hj : j < l.length) : (entsL l).eraseIdxIfInBounds j = entsL (l.eraseIdx j) := by
  unfold Array.eraseIdxIfInBounds
  rw [dif_pos (by simpa [entsL] using hj)]
  apply Array.ext'
  simp [entsL, eraseIdx_map']
theorem run_update_ents {T t : TypeId} (hT : P.underlying T = some (.map t t)) (ht : P.underlying t = some (.int .i64))
    (r : Nat) (x y : Int) (l : List (Int × Int × Nat)) (c : Nat) (w : World) (hr : w.heap[r]? = some (.map (entsL l) c)) :
    (Instr.mapUpdate T (.map (some r)) (.int .i64 x) (.int .i64 y)).run P w =
      .ok () (putObj w r (if hasL l x then .map (entsL (putL l x y)) c else .map (entsL (l ++ [(x, y, c)])) (c + 1))) := by
  unfold Instr.mapUpdate
  simp only [Sem.run_bind, run_underlying hT, Result.andThen_ok, getObj, Sem.run, hr, run_checkKey_int ht]
  cases e : idxL l x 0 with
  | none =>
    rw [(idxL_none x l 0 e).2]
    simp
    rw [run_findKey_ents ht, e]
    simp [setObj, Sem.run, hr, putObj, entsL]
  | some j =>
    obtain ⟨h1, _, b, v, h3, h4, _⟩ := idxL_some x l 0 j e
    rw [h1]
    simp only [Nat.sub_zero] at h3 h4
    simp
    rw [run_findKey_ents ht, e]
    simp [Instr.keyThatStays, ents_get h3, sameBits_refl_int, setObj, Sem.run, hr, putObj, ents_modify h3, h4]
theorem run_delete_ents {T t : TypeId} (hT : P.underlying T = some (.map t t)) (ht : P.underlying t = some (.int .i64))
    (r : Nat) (x : Int) (l : List (Int × Int × Nat)) (c : Nat) (ty K : TypeId) (w : World) (hr : w.heap[r]? = some (.map (entsL l) c)) :
    (Builtin.delete_ #[T, K] ty #[.map (some r), .int .i64 x]).run P w = .ok (.tuple #[]) (putObj w r (.map (entsL (dropL l x)) c)) := by
  unfold Builtin.delete_
  simp
  simp only [Sem.run_bind, run_underlying hT, Result.andThen_ok, getObj, Sem.run, hr, run_checkKey_int ht]
  cases e : idxL l x 0 with
  | none =>
    have : dropL l x = l := by
      have h2 := (idxL_none x l 0 e).2
      clear e hr
      induction l with
      | nil => rfl
      | cons a l ih =>
        obtain ⟨k, v, b⟩ := a
        simp only [hasL] at h2
        by_cases hk : k = x
        · rw [if_pos hk] at h2; cases h2
        · rw [if_neg hk] at h2; simp only [dropL, if_neg hk, ih h2]
    rw [this]
    rw [run_findKey_ents ht, e]
    simp [setObj, Sem.run, hr, putObj]
  | some j =>
    obtain ⟨h1, _, b, v, h3, _, h5⟩ := idxL_some x l 0 j e
    simp only [Nat.sub_zero] at h3 h5
    rw [run_findKey_ents ht, e]
    simp [setObj, Sem.run, hr, putObj, ents_erase (List.getElem?_eq_some_iff.1 h3).1, h5]
end
end Go.Proofs.YtcnppdbgieaddaaGreat

namespace Go.Proofs.YtcnppdbgieaddaaGreat
open Go.RowKit
set_option linter.unusedVariables false

/-- So many signs. -/
def oS (n : Nat) : ByteArray := ⟨(List.replicate n 111).toArray⟩
theorem oS_size (n : Nat) : (oS n).size = n := by simp [oS, ByteArray.size]
theorem oS_get (n p : Nat) (h : p < (oS n).size) : (oS n)[p]'h = 111 := by
  show (oS n).data[p]'h = _
  simp [oS]
theorem oS_snoc (n : Nat) : oS n ++ { data := #[111] } = oS (n + 1) := by
  unfold oS
  rw [List.replicate_succ']
  exact ByteArray.mk_append_mk _ [111]
theorem oS_take (n k : Nat) (h : k ≤ n) : (oS n).extract 0 k = oS k := by
  apply ByteArray.ext
  rw [ByteArray.data_extract]
  show (List.replicate n 111).toArray.extract 0 k = (List.replicate k 111).toArray
  rw [List.extract_toArray]
  simp [List.extract, Nat.min_eq_left h]

theorem next_o (w : World) (n p : Nat) (h : p < n) (ty : TypeId) :
    (Instr.next (.pointer (some ⟨w.heap.size, 0, none⟩)) true ty).run Tryz.prog (w.iter (oS n) p) = .ok (.tuple #[.bool true, .int .i64 p, .int .i32 111]) (w.iter (oS n) (p + 1)) := by
  have hs : p < (oS n).size := by rw [oS_size]; exact h
  have := run_next_ascii (P := Tryz.prog) w (oS n) p ty hs (by rw [oS_get]; decide)
  rw [this, oS_get]; rfl
theorem next_o_end (w : World) (n : Nat) (ty : TypeId) :
    (Instr.next (.pointer (some ⟨w.heap.size, 0, none⟩)) true ty).run Tryz.prog (w.iter (oS n) n) = .ok (.tuple #[.bool false]) (w.iter (oS n) n) :=
  run_next_end w (oS n) n ty (by rw [oS_size]; omega)

abbrev intsV (l : List Int) : List Value := l.map iv

/-- The list at block gb: places l; was one refused? Its slice is v. -/
structure GreyAt (w : World) (gb : Nat) (v : Value) (l : List Int) (over : Bool) : Prop where
  top : Blk w gb [v, .string (oS l.length), .bool over]
  row : w.ownsRow 0 3 1 v l.length (intsV l)
  ne : v.ownBlock ≠ some gb
  few : l.length ≤ 8
variable {w w' : World} {gb : Nat} {v : Value} {l : List Int} {over : Bool}
/-- The blocks that it has. -/
def greyOwn (gb : Nat) (v : Value) : List Nat := gb :: v.ownBlock.toList
theorem GreyAt.lt (h : GreyAt w gb v l over) : ∀ b ∈ greyOwn gb v, b < w.heap.size := by
  intro b hb
  simp only [greyOwn, List.mem_cons] at hb
  rcases hb with rfl | hb
  · exact h.top.lt
  · exact (h.row.lt b (by simpa using hb)).2
theorem ownsRow_keep {w w' : World} {base : Nat} {e : TypeId} {size : Nat} {v : Value} {n : Nat} {xs : List Value} (h : w.ownsRow base e size v n xs) (hk : ∀ b, v.ownBlock = some b → w'.heap[b]? = w.heap[b]?) : w'.ownsRow base e size v n xs := by
  obtain ⟨h1, h2⟩ := h
  refine ⟨h1, ?_⟩
  rcases h2 with h2 | ⟨g, cap, cur, rfl, hg, hh, r⟩
  · exact .inl h2
  · exact .inr ⟨g, cap, cur, rfl, hg, by rw [hk g rfl]; exact hh, r⟩
theorem GreyAt.keep (h : GreyAt w gb v l over) (hk : ∀ b ∈ greyOwn gb v, w'.heap[b]? = w.heap[b]?) : GreyAt w' gb v l over :=
  ⟨h.top.keep (hk gb (by simp [greyOwn])), ownsRow_keep h.row fun b hb => hk b (by simp [greyOwn, hb]), h.ne, h.few⟩
theorem GreyAt.below (h : GreyAt w gb v l over) (hb : Below w.heap.size w w') : GreyAt w' gb v l over := h.keep fun b hm => hb.block b (h.lt b hm)

theorem grey_new_c (w : World) : Calls Tryz.prog 117 #[] w fun e w' => e = .returned (.pointer (some ⟨w.heap.size, 0, none⟩)) ∧ GreyAt w' w.heap.size (.slice none 0 0) [] false ∧ w.alloc (.cells #[.slice none 0 0, .string (oS 0), .bool false] 245) = w' := by
  go_enter Tryz.func117, Tryz.ntmps117
  go_wp2
  go_ret
  exact ⟨rfl, ⟨Blk.new w [.slice none 0 0, .string (oS 0), .bool false] _, World.ownsRow_nil _ _ _ _, by simp [Value.ownBlock], by simp⟩, rfl⟩

theorem grey_len_c (w : World) (h : GreyAt w gb v l over) : Calls Tryz.prog 240 #[.pointer (some ⟨gb, 0, none⟩)] w fun e w' => e = .returned (iv l.length) ∧ Below w.heap.size w w' := by
  have c1 := h.top.cell 1
  simp only [List.getElem?_cons_succ, List.getElem?_cons_zero] at c1
  have hf := h.few
  have hlt := h.top.lt
  clear h
  go_enter Tryz.func240, Tryz.ntmps240
  go_wp2_with fail
  go_loopw [3] (fun v3 wr => ∃ p, p ≤ l.length ∧ wr = w.iter (oS l.length) p ∧ v3 = iv p) (fun _ wr => l.length - wr.iterPos w.heap.size)
  case atStart => exact ⟨0, Nat.zero_le _, rfl, rfl⟩
  case round =>
    obtain ⟨p, hp, rfl, rfl⟩ := hrel
    by_cases hlt : p < l.length
    · have hn := next_o w l.length p hlt
      go_wp2
      go_roundw
      case rel => exact ⟨p + 1, by omega, rfl, by go_num⟩
      case measure => simp; omega
    · obtain rfl : p = l.length := by omega
      have hn := next_o_end w l.length
      go_wp2
      go_ret
      exact ⟨rfl, (Below.refl _ _).alloc (Nat.le_refl _) _⟩

theorem intInfo : (Tryz.prog.info? 3).map (fun i => (i.zero, i.size, i.bytes)) = some (some (.int .i64 0), 1, 8) := by kernel_rfl

def pushG (l : List Int) (over : Bool) (a : Int) : List Int × Bool × Bool := if 8 ≤ l.length then (l, true, false) else (l ++ [a], over, true)

def PushPost (gb : Nat) (v : Value) (x : List Int × Bool × Bool) (w : World) (e : Ending) (w' : World) : Prop :=
  e = .returned (.bool x.2.2) ∧ ∃ v', GreyAt w' gb v' x.1 x.2.1 ∧ Stp (greyOwn gb v) (greyOwn gb v') w w'

set_option maxRecDepth 100000 in
theorem grey_push_c (w : World) (h : GreyAt w gb v l over) (a : Int) : Calls Tryz.prog 202 #[.pointer (some ⟨gb, 0, none⟩), iv a] w (PushPost gb v (pushG l over a) w) := by
  have hlen := Lib.hid (grey_len_c w h)
  by_cases hl : 8 ≤ l.length
  · have hr : Hid (pushG l over a = (l, true, false)) := by simp [Hid, pushG, hl]
    have key : ∀ w1, Below w.heap.size w w1 → GreyAt w1 gb v l over ∧ w1.cell? ⟨gb, 2, none⟩ = some (.bool over) ∧ w1.frozen? ⟨gb, 2, none⟩ = false := fun w1 hb =>
      ⟨h.below hb, by rw [(h.below hb).top.cell]; rfl, (h.below hb).top.free _⟩
    have KEY := Lib.hid key; clear key h
    go_enter Tryz.func202, Tryz.ntmps202
    go_wp2_with fail
    refine hlen.out.mono ?_
    rintro e w1 ⟨rfl, b1⟩
    obtain ⟨k0, k1, k2⟩ := KEY.out w1 b1
    have K0 := Lib.hid k0; clear k0
    go_wp2
    go_ret
    unfold PushPost
    rw [hr.out]
    refine ⟨rfl, v, ⟨K0.out.top.set 2 _, ownsRow_setCell_other K0.out.row K0.out.ne _, K0.out.ne, K0.out.few⟩, (Stp.below b1).trans (Stp.set (by simp [greyOwn]) _ _)⟩
  · have hr : Hid (pushG l over a = (l ++ [a], over, true)) := by simp [Hid, pushG, hl]
    have hl' : l.length < 8 := by omega
    have key : ∀ w1, Below w.heap.size w w1 → GreyAt w1 gb v l over ∧ w1.cell? ⟨gb, 0, none⟩ = some v := fun w1 hb =>
      ⟨h.below hb, by rw [(h.below hb).top.cell]; rfl⟩
    have KEY := Lib.hid key; clear key h
    go_enter Tryz.func202, Tryz.ntmps202
    go_wp2_with fail
    refine hlen.out.mono ?_
    rintro e w1 ⟨rfl, b1⟩
    obtain ⟨k0, k1⟩ := KEY.out w1 b1
    have hlt := k0.lt
    have K0 := Lib.hid k0; clear k0
    have hgb := hlt gb (by simp [greyOwn])
    clear hlt
    go_wp2_with (at_builtin; refine wpList_append2 rfl _ _ 25 rfl 0 3 (.int .i64 0) 1 8 Tryz.underlying25 intInfo rfl (by decide) v l.length _ rfl (K0.out.row.alloc _) ⟨w1.heap.size, 0, none⟩ 1 1 [iv a] rfl rfl (cell_one_new _ _ _) ?c2 ?c3 ?c4 ?c5 ?next)
    case c2 => intro u hu; simp at hu; subst hu; rfl
    case c3 => unfold maxLen; omega
    case c4 => omega
    case c5 => simp
    case next =>
      intro v' w2 hown2 hg halt
      obtain ⟨o', c', hv'⟩ := own_form hown2
      subst hv'
      have hne : some gb ≠ v.ownBlock := fun e => K0.out.ne e.symm
      have hb2 : Blk w2 gb [v, .string (oS l.length), .bool over] := (K0.out.top.alloc _).keep (hg.block _ (by simp; omega) hne)
      have hs2 : w1.heap.size + 1 ≤ w2.heap.size := by have := hg.size; simpa using this
      have hne2 : (Value.slice o' (l.length + 1) c').ownBlock ≠ some gb := by
        rcases halt with h | h
        · rw [h]; exact K0.out.ne
        · rw [h]; simp; omega
      have st2 : Stp (greyOwn gb v) (greyOwn gb (.slice o' (l.length + 1) c')) w w2 := by
        refine (Stp.below b1).trans ⟨hg.os, hg.tape, hg.output, by omega, fun b hb hn => ?_, fun b hb => ?_⟩
        · refine (hg.block b (by simp; omega) (fun e => hn (by simp [greyOwn, ← e]))).trans (Below.heap_alloc _ _ _ hb)
        · simp only [greyOwn, List.mem_cons] at hb ⊢
          rcases hb with rfl | hb
          · exact .inl (.inl rfl)
          · rcases halt with h | h
            · exact .inl (.inr (by rw [← h]; exact hb))
            · rw [h] at hb; simp at hb; exact .inr (by omega)
      have row2 : w2.ownsRow 0 3 1 (.slice o' (l.length + 1) c') (l ++ [a]).length (intsV (l ++ [a])) := by
        simpa [intsV] using hown2
      have k3 : w2.cell? ⟨gb, 0, none⟩ = some v := by rw [hb2.cell]; rfl
      have k4 : w2.frozen? ⟨gb, 0, none⟩ = false := hb2.free _
      have k5 : w2.cell? ⟨gb, 1, none⟩ = some (.string (oS l.length)) := by rw [hb2.cell]; rfl
      have k6 : w2.frozen? ⟨gb, 1, none⟩ = false := hb2.free _
      have k7 : (oS l.length).size ≤ 8 := by rw [oS_size]; omega
      have H1 := Lib.hid hb2; have H2 := Lib.hid hne2; have H3 := Lib.hid st2; have H4 := Lib.hid row2; have H5 := Lib.hid (oS_snoc l.length)
      clear hb2 hne2 st2 row2 hown2 hg halt hne KEY k1 hs2
      go_wp2
      go_ret
      unfold PushPost
      rw [hr.out]
      refine ⟨rfl, _, ⟨?_, ownsRow_setCell_other (ownsRow_setCell_other H4.out H2.out _) H2.out _, H2.out, by simp; omega⟩, (H3.out.trans (Stp.set (by simp [greyOwn]) _ _)).trans (Stp.set (by simp [greyOwn]) _ _)⟩
      have := ((H1.out.set 0 (.slice o' (l.length + 1) c')).set 1 (.string (oS l.length ++ { data := #[111] })))
      rw [H5.out] at this
      rw [H5.out]
      simpa using this
end Go.Proofs.YtcnppdbgieaddaaGreat
