/- The program's heap, in memory: what it reads; a white object is made grey; a word is turned. The program's heap: a white object is made grey; a word is read, and turned. The program's heap: a word is read, and turned. The program's heap: an object is made; a cycle begins. The program's heap: a new one. -/
import Derived.Test.YtcnppdbgieaddaaGreatK3
import Derived.Test.YtcnppdbgieaddaaGreatK2
namespace Go.Proofs.YtcnppdbgieaddaaGreat
open Go.RowKit
set_option linter.unusedVariables false

/-! ### The map, by what it says -/
def okL : List (Int × Int × Nat) → Prop
  | [] => True
  | (k, _, _) :: l => hasL l k = false ∧ okL l
def updM (m : Int → Int) (x y : Int) : Int → Int := fun z => if z = x then y else m z
theorem lookL_put {l : List (Int × Int × Nat)} {x : Int} (h : hasL l x = true) (y z : Int) : lookL (putL l x y) z = updM (lookL l) x y z := by
  unfold updM
  induction l with
  | nil => cases h
  | cons a l ih =>
    obtain ⟨k, v, b⟩ := a
    by_cases e : k = x
    · simp only [putL, if_pos e, lookL]
      by_cases e2 : k = z
      · rw [if_pos e2, if_pos (by omega)]
      · rw [if_neg e2, if_neg (by omega), if_neg e2]
    · simp only [hasL, if_neg e] at h
      simp only [putL, if_neg e, lookL, ih h]
      by_cases e2 : k = z
      · rw [if_pos e2, if_pos e2, if_neg (by omega)]
      · rw [if_neg e2, if_neg e2]
theorem lookL_snoc {l : List (Int × Int × Nat)} {x : Int} (h : hasL l x = false) (y : Int) (c : Nat) (z : Int) : lookL (l ++ [(x, y, c)]) z = updM (lookL l) x y z := by
  unfold updM
  induction l with
  | nil => simp only [List.nil_append, lookL]; by_cases e : x = z <;> simp [e]; omega
  | cons a l ih =>
    obtain ⟨k, v, b⟩ := a
    by_cases e : k = x
    · simp [hasL, e] at h
    · simp only [hasL, if_neg e] at h
      simp only [List.cons_append, lookL, ih h]
      by_cases e2 : k = z
      · rw [if_pos e2, if_pos e2, if_neg (by omega)]
      · rw [if_neg e2, if_neg e2]
theorem hasL_put (l : List (Int × Int × Nat)) (x y z : Int) : hasL (putL l x y) z = hasL l z := by
  induction l with
  | nil => rfl
  | cons a l ih =>
    obtain ⟨k, v, b⟩ := a
    by_cases e : k = x
    · simp only [putL, if_pos e, hasL]
    · simp only [putL, if_neg e, hasL, ih]
theorem okL_put {l : List (Int × Int × Nat)} (h : okL l) (x y : Int) : okL (putL l x y) := by
  induction l with
  | nil => trivial
  | cons a l ih =>
    obtain ⟨k, v, b⟩ := a
    by_cases e : k = x
    · simp only [putL, if_pos e]; exact h
    · simp only [putL, if_neg e]; exact ⟨by rw [hasL_put]; exact h.1, ih h.2⟩
theorem hasL_snoc (l : List (Int × Int × Nat)) (x y : Int) (c : Nat) (z : Int) : hasL (l ++ [(x, y, c)]) z = (hasL l z || decide (x = z)) := by
  induction l with
  | nil => simp only [List.nil_append, hasL]; by_cases e : x = z <;> simp [e]
  | cons a l ih =>
    obtain ⟨k, v, b⟩ := a
    simp only [List.cons_append, hasL, ih]
    by_cases e : k = z <;> simp [e]
theorem okL_snoc {l : List (Int × Int × Nat)} (h : okL l) {x : Int} (hx : hasL l x = false) (y : Int) (c : Nat) : okL (l ++ [(x, y, c)]) := by
  induction l with
  | nil => exact ⟨rfl, trivial⟩
  | cons a l ih =>
    obtain ⟨k, v, b⟩ := a
    by_cases e : k = x
    · simp [hasL, e] at hx
    · simp only [hasL, if_neg e] at hx
      refine ⟨?_, ih h.2 hx⟩
      show hasL (l ++ [(x, y, c)]) k = false
      rw [hasL_snoc, h.1]; simp; omega
theorem lookL_drop {l : List (Int × Int × Nat)} (h : okL l) (x z : Int) : lookL (dropL l x) z = updM (lookL l) x 0 z := by
  unfold updM
  induction l with
  | nil => simp [dropL, lookL]
  | cons a l ih =>
    obtain ⟨k, v, b⟩ := a
    by_cases e : k = x
    · simp only [dropL, if_pos e, lookL]
      by_cases e2 : z = x
      · rw [if_pos e2, e2, ← e]
        have h1 := h.1
        clear ih h
        induction l with
        | nil => rfl
        | cons a l ih =>
          obtain ⟨k', v', b'⟩ := a
          by_cases e3 : k' = k
          · simp [hasL, e3] at h1
          · simp only [hasL, if_neg e3] at h1
            simp only [lookL, if_neg e3]; exact ih h1
      · rw [if_neg e2, if_neg (by omega)]
    · simp only [dropL, if_neg e, lookL, ih h.2]
      by_cases e2 : k = z
      · rw [if_pos e2, if_pos e2, if_neg (by omega)]
      · rw [if_neg e2, if_neg e2]
theorem hasL_drop (l : List (Int × Int × Nat)) (x z : Int) (h : hasL l z = false) : hasL (dropL l x) z = false := by
  induction l with
  | nil => rfl
  | cons a l ih =>
    obtain ⟨k, v, b⟩ := a
    by_cases e2 : k = z
    · simp [hasL, e2] at h
    · simp only [hasL, if_neg e2] at h
      by_cases e : k = x
      · simp only [dropL, if_pos e]; exact h
      · simp only [dropL, if_neg e, hasL, if_neg e2]; exact ih h
theorem okL_drop {l : List (Int × Int × Nat)} (h : okL l) (x : Int) : okL (dropL l x) := by
  induction l with
  | nil => trivial
  | cons a l ih =>
    obtain ⟨k, v, b⟩ := a
    by_cases e : k = x
    · simp only [dropL, if_pos e]; exact h.2
    · simp only [dropL, if_neg e]; exact ⟨hasL_drop _ _ _ h.1, ih h.2⟩

/-- The map at block mb says m. -/
def MapAt (w : World) (mb : Nat) (m : Int → Int) : Prop := ∃ l c, w.heap[mb]? = some (.map (entsL l) c) ∧ okL l ∧ ∀ x, lookL l x = m x
theorem MapAt.lt {w : World} {mb : Nat} {m : Int → Int} (h : MapAt w mb m) : mb < w.heap.size := by
  obtain ⟨l, c, h, _⟩ := h; exact (Array.getElem?_eq_some_iff.1 h).1
theorem MapAt.keep {w w' : World} {mb : Nat} {m : Int → Int} (h : MapAt w mb m) (hk : w'.heap[mb]? = w.heap[mb]?) : MapAt w' mb m := by
  obtain ⟨l, c, h, r⟩ := h; exact ⟨l, c, hk.trans h, r⟩
theorem mapZero (w : World) : (zeroValue 3).run Tryz.prog w = .ok (.int .i64 0) w := by kernel_rfl
theorem MapAt.look {w : World} {mb : Nat} {m : Int → Int} (h : MapAt w mb m) (x : Int) : (Instr.lookup 176 (.map (some mb)) (iv x) false).run Tryz.prog w = .ok (iv (m x)) w := by
  obtain ⟨l, c, h, _, hm⟩ := h
  rw [← hm]
  exact run_lookup_ents Tryz.underlying176 Tryz.underlying3 mapZero mb x l c w h
theorem MapAt.put {w : World} {mb : Nat} {m : Int → Int} (h : MapAt w mb m) (x y : Int) : ∃ o, (Instr.mapUpdate 176 (.map (some mb)) (iv x) (iv y)).run Tryz.prog w = .ok () (putObj w mb o) ∧ MapAt (putObj w mb o) mb (updM m x y) := by
  have hlt := h.lt
  obtain ⟨l, c, h, ho, hm⟩ := h
  refine ⟨_, run_update_ents Tryz.underlying176 Tryz.underlying3 mb x y l c w h, ?_⟩
  have hm' : updM (lookL l) x y = updM m x y := by funext z; unfold updM; rw [hm]
  cases e : hasL l x with
  | true => exact ⟨_, _, putObj_same hlt, okL_put ho x y, fun z => by rw [lookL_put e, hm']⟩
  | false => exact ⟨_, _, putObj_same hlt, okL_snoc ho e y c, fun z => by rw [lookL_snoc e, hm']⟩
theorem MapAt.new (w : World) : MapAt (w.alloc (.map #[] 0)) w.heap.size (fun _ => 0) := ⟨[], 0, by rw [heap_alloc_new]; rfl, trivial, fun _ => rfl⟩

/-! ### The heap -/
/-- Where the heap's blocks lie. -/
structure Lay where
  (hb ab sb rb lb mb gb : Nat)
  gv : Value
def Lay.own (L : Lay) : List Nat := [L.hb, L.ab, L.sb, L.rb, L.lb, L.mb] ++ greyOwn L.gb L.gv
/-- What the heap has. -/
structure PH where
  A : AS
  m : Int → Int
  l : List Int
  over : Bool
  (phase span cycles : Int)
structure HeapAt (w : World) (L : Lay) (s : PH) : Prop where
  top : Blk w L.hb [.pointer (some ⟨L.ab, 0, none⟩), .map (some L.mb), .pointer (some ⟨L.gb, 0, none⟩), iv s.phase, iv s.span, iv s.cycles]
  arena : ArenaA w L.ab L.sb L.rb L.lb s.A
  map : MapAt w L.mb s.m
  grey : GreyAt w L.gb L.gv s.l s.over
  nodup : L.own.Nodup
  i64 : s.A.I64
variable {w w' : World} {L : Lay} {s : PH}
theorem HeapAt.lt (h : HeapAt w L s) : ∀ b ∈ L.own, b < w.heap.size := by
  intro b hb
  obtain ⟨l1, l2, l3, l4⟩ := h.arena.lt
  simp only [Lay.own, List.mem_append, List.mem_cons, List.not_mem_nil, or_false] at hb
  rcases hb with (rfl | rfl | rfl | rfl | rfl | rfl) | hb
  · exact h.top.lt
  · exact l1
  · exact l2
  · exact l3
  · exact l4
  · exact h.map.lt
  · exact h.grey.lt b hb
theorem HeapAt.keep (h : HeapAt w L s) (hk : ∀ b ∈ L.own, w'.heap[b]? = w.heap[b]?) : HeapAt w' L s := by
  refine ⟨h.top.keep (hk _ (by simp [Lay.own])), h.arena.keep fun b hb => hk b ?_, h.map.keep (hk _ (by simp [Lay.own])), h.grey.keep fun b hb => hk b (by simp only [Lay.own, List.mem_append]; exact .inr hb), h.nodup, h.i64⟩
  rcases hb with rfl | rfl | rfl | rfl <;> simp [Lay.own]
theorem HeapAt.below (h : HeapAt w L s) (hb : Below w.heap.size w w') : HeapAt w' L s := h.keep fun b hm => hb.block b (h.lt b hm)
theorem HeapAt.stp (h : HeapAt w L s) {S S' : List Nat} (hs : Stp S S' w w') (hd : ∀ b ∈ L.own, b ∉ S) : HeapAt w' L s := h.keep fun b hm => hs.block b (h.lt b hm) (hd b hm)
theorem HeapAt.c (h : HeapAt w L s) (i : Nat) : w.cell? ⟨L.hb, i, none⟩ = [Value.pointer (some ⟨L.ab, 0, none⟩), .map (some L.mb), .pointer (some ⟨L.gb, 0, none⟩), iv s.phase, iv s.span, iv s.cycles][i]? := h.top.cell i
theorem HeapAt.c0 (h : HeapAt w L s) : w.cell? ⟨L.hb, 0, none⟩ = some (.pointer (some ⟨L.ab, 0, none⟩)) := h.c 0
theorem HeapAt.c1 (h : HeapAt w L s) : w.cell? ⟨L.hb, 1, none⟩ = some (.map (some L.mb)) := h.c 1
theorem HeapAt.c2 (h : HeapAt w L s) : w.cell? ⟨L.hb, 2, none⟩ = some (.pointer (some ⟨L.gb, 0, none⟩)) := h.c 2
theorem HeapAt.c3 (h : HeapAt w L s) : w.cell? ⟨L.hb, 3, none⟩ = some (iv s.phase) := h.c 3
theorem HeapAt.c4 (h : HeapAt w L s) : w.cell? ⟨L.hb, 4, none⟩ = some (iv s.span) := h.c 4
theorem HeapAt.c5 (h : HeapAt w L s) : w.cell? ⟨L.hb, 5, none⟩ = some (iv s.cycles) := h.c 5

abbrev hptr (L : Lay) : Value := .pointer (some ⟨L.hb, 0, none⟩)
abbrev aptr (L : Lay) : Value := .pointer (some ⟨L.ab, 0, none⟩)

theorem arena_c (w : World) (h : HeapAt w L s) : Calls Tryz.prog 102 #[hptr L] w fun e w' => e = .returned (aptr L) ∧ w = w' := by
  have c0 := h.c0
  clear h
  go_enter Tryz.func102, Tryz.ntmps102
  go_wp2
  go_ret
  exact ⟨rfl, rfl⟩
theorem phase_c (w : World) (h : HeapAt w L s) : Calls Tryz.prog 147 #[hptr L] w fun e w' => e = .returned (iv s.phase) ∧ w = w' := by
  have c0 := h.c3
  clear h
  go_enter Tryz.func147, Tryz.ntmps147
  go_wp2
  go_ret
  exact ⟨rfl, rfl⟩

abbrev kindH (s : PH) (a : Int) : Int := kindA s.A a
def colourH (s : PH) (a : Int) : Int := if kindA s.A a = 0 then 0 else s.m a

theorem colour_c (w : World) (h : HeapAt w L s) (a : Int) : Calls Tryz.prog 30 #[hptr L, iv a] w fun e w' => e = .returned (iv (colourH s a)) ∧ Below w.heap.size w w' := by
  have ha := Lib.hid (arena_c w h)
  have hk := akind_c w h.arena a
  have key : ∀ w1, Below w.heap.size w w1 → w1.cell? ⟨L.hb, 1, none⟩ = some (.map (some L.mb)) ∧ (Instr.lookup 176 (.map (some L.mb)) (iv a) false).run Tryz.prog w1 = .ok (iv (s.m a)) w1 := fun w1 hb =>
    ⟨(h.below hb).c1, (h.below hb).map.look a⟩
  have KEY := Lib.hid key; clear key h
  by_cases e : kindA s.A a = 0
  · have hr : Hid (colourH s a = 0) := by simp [Hid, colourH, e]
    rw [e] at hk
    have HK := Lib.hid hk; clear hk e
    go_enter Tryz.func30, Tryz.ntmps30
    go_wp2_with (first | (go_at_call 102; refine ha.out.mono ?_; rintro e w1 ⟨rfl, rfl⟩) | (go_at_call 123; refine HK.out.mono ?_; rintro e w1 ⟨rfl, b1⟩))
    go_ret
    exact ⟨ret_eq (by rw [hr.out]; rfl), b1⟩
  · have hr : Hid (colourH s a = s.m a) := by simp [Hid, colourH, e]
    have t1 : (kindA s.A a == 0) = false := by simpa using e
    generalize kindA s.A a = k at hk t1
    have HK := Lib.hid hk; clear hk e
    go_enter Tryz.func30, Tryz.ntmps30
    go_wp2_with (first | (go_at_call 102; refine ha.out.mono ?_; rintro e w1 ⟨rfl, rfl⟩) | (go_at_call 123; refine HK.out.mono ?_; rintro e w1 ⟨rfl, b1⟩; obtain ⟨k1, k2⟩ := KEY.out w1 b1))
    go_ret
    exact ⟨ret_eq (by rw [hr.out]; rfl), b1⟩
end Go.Proofs.YtcnppdbgieaddaaGreat

namespace Go.Proofs.YtcnppdbgieaddaaGreat
open Go.RowKit
set_option linter.unusedVariables false
variable {w w' : World} {L : Lay} {s : PH}

/-- The call returned r, and the heap is s' then; nothing beside it has turned. -/
def HPost (L : Lay) (s' : PH) (r : Value) (w : World) (e : Ending) (w' : World) : Prop :=
  e = .returned r ∧ ∃ L', HeapAt w' L' s' ∧ L'.hb = L.hb ∧ L'.ab = L.ab ∧ Stp L.own L'.own w w'
theorem HPost.same (h : HeapAt w L s) (r : Value) (hb : Below w.heap.size w w') : HPost L s r w (.returned r) w' :=
  ⟨rfl, L, h.below hb, rfl, rfl, Stp.below hb⟩

def shadeH (s : PH) (a : Int) : PH :=
  if s.phase ≠ 1 ∨ kindA s.A a = 0 ∨ colourH s a ≠ 0 then s else
  { s with m := updM s.m a 1, l := (pushG s.l s.over a).1, over := (pushG s.l s.over a).2.1 }

theorem not_mem_of_nodup {α : Type} {A B : List α} (h : (A ++ B).Nodup) {x : α} (hx : x ∈ A) : x ∉ B := fun hb => (List.nodup_append.1 h).2.2 x hx x hb rfl
theorem Lay.ne_grey {L : Lay} (h : L.own.Nodup) {b : Nat} (hb : b ∈ greyOwn L.gb L.gv) : b ≠ L.hb ∧ b ≠ L.ab ∧ b ≠ L.sb ∧ b ≠ L.rb ∧ b ≠ L.lb ∧ b ≠ L.mb := by
  have key : ∀ x ∈ [L.hb, L.ab, L.sb, L.rb, L.lb, L.mb], x ≠ b := fun x hx e => not_mem_of_nodup h hx (e ▸ hb)
  exact ⟨fun e => key _ (by simp) e.symm, fun e => key _ (by simp) e.symm, fun e => key _ (by simp) e.symm, fun e => key _ (by simp) e.symm, fun e => key _ (by simp) e.symm, fun e => key _ (by simp) e.symm⟩
theorem Lay.head_nodup {L : Lay} (h : L.own.Nodup) : [L.hb, L.ab, L.sb, L.rb, L.lb, L.mb].Nodup := (List.nodup_append.1 h).1

theorem HeapAt.putMap (h : HeapAt w L s) {o : Obj} {m : Int → Int} (hm : MapAt (putObj w L.mb o) L.mb m) : HeapAt (putObj w L.mb o) L { s with m := m } := by
  have hh := Lay.head_nodup h.nodup
  simp only [List.nodup_cons, List.mem_cons, List.not_mem_nil, or_false, not_or] at hh
  obtain ⟨⟨_, _, _, _, n5⟩, ⟨_, _, _, n6⟩, ⟨_, _, n7⟩, ⟨_, n8⟩, n9, _⟩ := hh
  refine ⟨h.top.keep (putObj_other n5), h.arena.keep fun b hb => putObj_other ?_, hm, h.grey.keep fun b hb => putObj_other (Lay.ne_grey h.nodup hb).2.2.2.2.2, h.nodup, h.i64⟩
  rcases hb with rfl | rfl | rfl | rfl <;> assumption

/-- The layout with another grey slice. -/
theorem own_grey {L : Lay} {v : Value} {S : List Nat} (hn : L.own.Nodup) (hl : ∀ b ∈ L.own, b < w.heap.size) (st : Stp (greyOwn L.gb L.gv) (greyOwn L.gb v) w w') (hne : v.ownBlock ≠ some L.gb) :
    ({ L with gv := v } : Lay).own.Nodup ∧ Stp L.own ({ L with gv := v } : Lay).own w w' := by
  have hd : ∀ b ∈ greyOwn L.gb v, b ∉ [L.hb, L.ab, L.sb, L.rb, L.lb, L.mb] := by
    intro b hb hm
    rcases st.own b hb with h | h
    · exact not_mem_of_nodup hn hm h
    · have := hl b (by simp only [Lay.own, List.mem_append]; exact .inl hm)
      omega
  refine ⟨?_, ?_⟩
  · show ([L.hb, L.ab, L.sb, L.rb, L.lb, L.mb] ++ greyOwn L.gb v).Nodup
    refine List.nodup_append.2 ⟨Lay.head_nodup hn, ?_, fun x hx y hy e => hd y hy (e ▸ hx)⟩
    unfold greyOwn
    cases e : v.ownBlock with
    | none => simp
    | some g => simp only [Option.toList_some, List.nodup_cons, List.mem_singleton, List.not_mem_nil, not_false_eq_true, List.nodup_nil, and_true]; intro h; exact hne (by rw [e, h])
  · refine ⟨st.os, st.tape, st.output, st.size, fun b hb hn => st.block b hb fun e => hn (by simp only [Lay.own, List.mem_append]; exact .inr e), fun b hb => ?_⟩
    have hb' : b ∈ [L.hb, L.ab, L.sb, L.rb, L.lb, L.mb] ++ greyOwn L.gb v := hb
    rw [List.mem_append] at hb'
    rcases hb' with h | h
    · exact .inl (by simp only [Lay.own, List.mem_append]; exact .inl h)
    · rcases st.own b h with h | h
      · exact .inl (by simp only [Lay.own, List.mem_append]; exact .inr h)
      · exact .inr h
theorem HeapAt.greyTo (h : HeapAt w L s) {v : Value} {l : List Int} {over : Bool} (hg : GreyAt w' L.gb v l over) (st : Stp (greyOwn L.gb L.gv) (greyOwn L.gb v) w w') :
    HeapAt w' { L with gv := v } { s with l := l, over := over } ∧ Stp L.own ({ L with gv := v } : Lay).own w w' := by
  obtain ⟨hn, hs⟩ := own_grey (S := []) h.nodup h.lt st hg.ne
  have hk : ∀ b ∈ [L.hb, L.ab, L.sb, L.rb, L.lb, L.mb], w'.heap[b]? = w.heap[b]? := fun b hb =>
    st.block b (h.lt b (by simp only [Lay.own, List.mem_append]; exact .inl hb)) fun e => not_mem_of_nodup h.nodup hb e
  refine ⟨⟨h.top.keep (hk _ (by simp)), h.arena.keep fun b hb => hk b ?_, h.map.keep (hk _ (by simp)), hg, hn, h.i64⟩, hs⟩
  rcases hb with rfl | rfl | rfl | rfl <;> simp

theorem shade_c (w : World) (h : HeapAt w L s) (a : Int) : Calls Tryz.prog 118 #[hptr L, iv a] w (HPost L (shadeH s a) (.tuple #[]) w) := by
  have c0 := h.c0
  have c3 := h.c3
  have hk := akind_c w h.arena a
  have hc := fun w1 (hb : Below w.heap.size w w1) => colour_c w1 (h.below hb) a
  have hend : shadeH s a = s → ∀ w1, Below w.heap.size w w1 → HPost L (shadeH s a) (.tuple #[]) w (.returned (.tuple #[])) w1 := fun e w1 hb => by rw [e]; exact HPost.same h _ hb
  by_cases e1 : s.phase = 1
  · rw [e1] at c3
    by_cases e2 : kindA s.A a = 0
    · have HE := Lib.hid (hend (by simp [shadeH, e2])); clear hend hc
      rw [e2] at hk
      have HK := Lib.hid hk; clear hk e1 e2 h
      go_enter Tryz.func118, Tryz.ntmps118
      go_wp2_with (go_at_call 123; refine HK.out.mono ?_; rintro e w1 ⟨rfl, b1⟩)
      refine bodyPost_ret (results_none rfl _ _ _) rfl ?_
      exact HE.out _ b1
    · have t2 : (kindA s.A a == 0) = false := by simpa using e2
      by_cases e3 : colourH s a = 0
      · have hr : shadeH s a = { s with m := updM s.m a 1, l := (pushG s.l s.over a).1, over := (pushG s.l s.over a).2.1 } := by simp [shadeH, e1, e2, e3]
        rw [hr]
        simp only [e3] at hc
        generalize kindA s.A a = k at hk t2
        have HK := Lib.hid hk; have HC := Lib.hid hc
        have H := Lib.hid h
        clear hk hc e1 e2 e3 h hend hr
        go_enter Tryz.func118, Tryz.ntmps118
        go_wp2_with fail
        refine HK.out.mono ?_
        rintro e w1 ⟨rfl, b1⟩
        go_wp2_with fail
        refine (HC.out w1 b1).mono ?_
        rintro e w2 ⟨rfl, b2⟩
        have b12 := b1.trans (b2.mono b1.size)
        have h2 := H.out.below b12
        obtain ⟨o, ho1, ho2⟩ := h2.map.put a 1
        have k1 := h2.c1
        have h3 := h2.putMap ho2
        have k2 : (putObj w2 L.mb o).cell? ⟨L.hb, 2, none⟩ = some (.pointer (some ⟨L.gb, 0, none⟩)) := h3.c2
        have hp := grey_push_c (putObj w2 L.mb o) h3.grey a
        have HP := Lib.hid hp
        have H2 := Lib.hid h2; have H3 := Lib.hid h3; have B := Lib.hid b12
        clear b1 b2 b12 h2 h3 hp ho2
        go_wp2_with fail
        refine HP.out.mono ?_
        unfold PushPost
        rintro e w4 ⟨rfl, v', g4, st4⟩
        obtain ⟨h4, s4⟩ := H3.out.greyTo g4 st4
        go_wp2
        go_end0
        refine ⟨rfl, _, h4, rfl, rfl, ?_⟩
        exact ((Stp.below B.out).trans (Stp.put (b := L.mb) (by simp [Lay.own]) o)).trans s4
      · have HE := Lib.hid (hend (by simp [shadeH, e3])); clear hend
        have t3 : (colourH s a != 0) = true := by simpa using e3
        generalize colourH s a = c at hc t3
        generalize kindA s.A a = k at hk t2
        have HK := Lib.hid hk; have HC := Lib.hid hc; clear hk hc e1 e2 e3 h
        go_enter Tryz.func118, Tryz.ntmps118
        go_wp2_with fail
        refine HK.out.mono ?_
        rintro e w1 ⟨rfl, b1⟩
        go_wp2_with fail
        refine (HC.out w1 b1).mono ?_
        rintro e w2 ⟨rfl, b2⟩
        have b12 := b1.trans (b2.mono b1.size)
        go_wp2
        refine bodyPost_ret (results_none rfl _ _ _) rfl ?_
        exact HE.out _ b12
  · have t1 : (s.phase != 1) = true := by simpa using e1
    have HE := Lib.hid (hend (by simp [shadeH, e1])); clear hend hc hk h e1
    generalize s.phase = ph at c3 t1
    go_enter Tryz.func118, Tryz.ntmps118
    go_wp2
    refine bodyPost_ret (results_none rfl _ _ _) rfl ?_
    exact HE.out _ (Below.refl _ _)
end Go.Proofs.YtcnppdbgieaddaaGreat

namespace Go.Proofs.YtcnppdbgieaddaaGreat
open Go.RowKit
set_option linter.unusedVariables false
variable {w w' : World} {L : Lay} {s : PH}

theorem hload_c (w : World) (h : HeapAt w L s) (a i : Int) (hi : I64 i) : Calls Tryz.prog 144 #[hptr L, iv a, iv i] w fun e w' =>
    e = .returned (.tuple #[iv (loadS s.A a i).1, iv (loadS s.A a i).2]) ∧ Below w.heap.size w w' := by
  have ha := Lib.hid (arena_c w h)
  have hl := Lib.hid (aload_c w h.arena a i hi)
  clear h hi
  go_enter Tryz.func144, Tryz.ntmps144
  go_wp2_with (first | (go_at_call 102; refine ha.out.mono ?_; rintro e w1 ⟨rfl, rfl⟩) | (go_at_call 215; refine hl.out.mono ?_; rintro e w1 ⟨rfl, b1⟩))
  go_ret2
  exact ⟨rfl, b1⟩

def storeH (s : PH) (a i v : Int) : PH × Int :=
  match storeS s.A a i v with
  | (A', e) => if e = 0 then (if isP v then (shadeH { s with A := A' } (atW v), 0) else ({ s with A := A' }, 0)) else ({ s with A := A' }, e)

theorem HeapAt.cellsTo (h : HeapAt w L s) {A : AS} (ha : ArenaA w' L.ab L.sb L.rb L.lb A) (st : Stp [L.sb, L.rb, L.lb] [L.sb, L.rb, L.lb] w w') (h64 : A.I64) : HeapAt w' L { s with A := A } := by
  have hh := Lay.head_nodup h.nodup
  simp only [List.nodup_cons, List.mem_cons, List.not_mem_nil, or_false, not_or] at hh
  obtain ⟨⟨_, n2, n3, n4, n5⟩, ⟨_, _, _, n6⟩, ⟨_, _, n7⟩, ⟨_, n8⟩, n9, _⟩ := hh
  refine ⟨h.top.keep (st.block _ h.top.lt (by simp [n2, n3, n4])), ha, h.map.keep (st.block _ h.map.lt (by simp; exact ⟨fun e => n7 e.symm, fun e => n8 e.symm, fun e => n9 e.symm⟩)), h.grey.keep fun b hb => st.block b (h.grey.lt b hb) ?_, h.nodup, h64⟩
  have := Lay.ne_grey h.nodup hb
  simp [this]

theorem hstore_c (w : World) (h : HeapAt w L s) (a i v : Int) (hi : I64 i) (hv : I64 v) : Calls Tryz.prog 48 #[hptr L, iv a, iv i, iv v] w (HPost L (storeH s a i v).1 (iv (storeH s a i v).2) w) := by
  have ha := Lib.hid (arena_c w h)
  have hs := astore_c w h.arena a i v hi
  have h64 := storeS_i64 h.i64 a i v hv
  unfold storeH
  generalize storeS s.A a i v = x at hs h64 ⊢
  obtain ⟨A', e⟩ := x
  simp only at hs h64 ⊢
  have key : ∀ w1, ArenaA w1 L.ab L.sb L.rb L.lb A' → Stp [L.lb] [L.lb] w w1 → HeapAt w1 L { s with A := A' } ∧ Stp L.own L.own w w1 := fun w1 h1 h2 =>
    ⟨h.cellsTo h1 (h2.sub (by simp)) h64, h2.sub (by simp [Lay.own])⟩
  have KEY := Lib.hid key; clear key h64
  have HS := Lib.hid hs; clear hs h hi
  by_cases e0 : e = 0
  · subst e0
    simp only [if_true]
    have hp := Lib.hid (isPtr_c v hv)
    by_cases hv2 : v % 2 = 1
    · rw [if_pos (isP_yes hv2)]
      rw [isP_yes hv2] at hp
      have hat := Lib.hid (at_c v hv)
      clear hv hv2
      go_enter Tryz.func48, Tryz.ntmps48
      go_wp2_with fail
      refine ha.out.mono ?_
      rintro e w1 ⟨rfl, rfl⟩
      go_wp2_with fail
      refine HS.out.mono ?_
      rintro e w1 ⟨rfl, k1, k2⟩
      obtain ⟨h1, s1⟩ := KEY.out w1 k1 k2
      have hsh := Lib.hid (shade_c w1 h1 (atW v))
      have S1 := Lib.hid s1
      clear k1 k2 h1 s1 KEY HS ha
      go_wp2_with fail
      refine (hp.out w1).mono ?_
      rintro e w2 ⟨rfl, rfl⟩
      go_wp2_with fail
      refine (hat.out w1).mono ?_
      rintro e w2 ⟨rfl, rfl⟩
      go_wp2_with fail
      refine hsh.out.mono ?_
      rintro e w2 ⟨rfl, L', h2, q1, q2, st2⟩
      have H2 := Lib.hid h2; have Q := Lib.hid q1; have Q2 := Lib.hid q2; have S2 := Lib.hid st2; clear h2 q1 q2 st2
      go_wp2
      go_ret
      exact ⟨rfl, L', H2.out, Q.out, Q2.out, S1.out.trans S2.out⟩
    · rw [isP_no hv2] at hp ⊢
      simp only [Bool.false_eq_true, if_false]
      clear hv hv2
      go_enter Tryz.func48, Tryz.ntmps48
      go_wp2_with fail
      refine ha.out.mono ?_
      rintro e w1 ⟨rfl, rfl⟩
      go_wp2_with fail
      refine HS.out.mono ?_
      rintro e w1 ⟨rfl, k1, k2⟩
      obtain ⟨h1, s1⟩ := KEY.out w1 k1 k2
      have H1 := Lib.hid h1; have S1 := Lib.hid s1
      clear k1 k2 h1 s1 KEY HS ha
      go_wp2_with fail
      refine (hp.out w1).mono ?_
      rintro e w2 ⟨rfl, rfl⟩
      go_wp2
      go_ret
      exact ⟨rfl, L, H1.out, rfl, rfl, S1.out⟩
  · rw [if_neg e0]
    have t1 : (e != 0) = true := by simpa using e0
    clear e0 hv
    go_enter Tryz.func48, Tryz.ntmps48
    go_wp2_with fail
    refine ha.out.mono ?_
    rintro e' w1 ⟨rfl, rfl⟩
    go_wp2_with fail
    refine HS.out.mono ?_
    rintro e' w1 ⟨rfl, k1, k2⟩
    obtain ⟨h1, s1⟩ := KEY.out w1 k1 k2
    have H1 := Lib.hid h1; have S1 := Lib.hid s1
    clear k1 k2 h1 s1 KEY HS ha
    go_wp2
    go_ret
    exact ⟨rfl, L, H1.out, rfl, rfl, S1.out⟩
end Go.Proofs.YtcnppdbgieaddaaGreat

namespace Go.Proofs.YtcnppdbgieaddaaGreat
open Go.RowKit
set_option linter.unusedVariables false
variable {w w' : World} {L : Lay} {s : PH}

def allocH (s : PH) (kind n : Int) : (Int × Int) × PH :=
  match allocS s.A kind n with
  | ((a, e), A') => if e = 0 then ((a, 0), { s with A := A', m := updM s.m a (if s.phase = 0 then 0 else 2) }) else ((0, e), { s with A := A' })

theorem updM_twice (m : Int → Int) (a x y : Int) : updM (updM m a x) a y = updM m a y := by funext z; unfold updM; split <;> rfl

theorem halloc_c (w : World) (h : HeapAt w L s) (kind n : Int) : Calls Tryz.prog 108 #[hptr L, iv kind, iv n] w
    (HPost L (allocH s kind n).2 (.tuple #[iv (allocH s kind n).1.1, iv (allocH s kind n).1.2]) w) := by
  have c0 := h.c0
  have hs := aalloc_c w h.arena kind n
  have h64 := allocS_i64 h.i64 kind n
  unfold allocH
  generalize allocS s.A kind n = x at hs h64 ⊢
  obtain ⟨⟨a, e⟩, A'⟩ := x
  simp only at hs h64 ⊢
  have key : ∀ w1, ArenaA w1 L.ab L.sb L.rb L.lb A' → Stp [L.sb, L.rb, L.lb] [L.sb, L.rb, L.lb] w w1 → HeapAt w1 L { s with A := A' } ∧ Stp L.own L.own w w1 := fun w1 h1 h2 =>
    ⟨h.cellsTo h1 h2 h64, h2.sub (by simp [Lay.own])⟩
  have KEY := Lib.hid key; clear key h64
  have HS := Lib.hid hs; clear hs h
  by_cases e0 : e = 0
  · subst e0
    simp only [if_true]
    by_cases hp : s.phase = 0
    · rw [if_pos hp]
      have HP := Lib.hid hp; clear hp
      go_enter Tryz.func108, Tryz.ntmps108
      go_wp2_with fail
      refine HS.out.mono ?_
      rintro e w1 ⟨rfl, k1, k2⟩
      obtain ⟨h1, s1⟩ := KEY.out w1 k1 k2
      have d1 := h1.c1
      obtain ⟨o, ho1, ho2⟩ := h1.map.put a 2
      have h2 := h1.putMap ho2
      have d2 := h2.c1
      have d3 := h2.c3
      have d4 : (s.phase == 0) = true := by simpa using HP.out
      obtain ⟨o', ho3, ho4⟩ := h2.map.put a 0
      have h3 := h2.putMap ho4
      simp only [updM_twice] at h3
      have s3 : Stp L.own L.own w (putObj (putObj w1 L.mb o) L.mb o') := (s1.trans (Stp.put (b := L.mb) (by simp [Lay.own]) o)).trans (Stp.put (b := L.mb) (by simp [Lay.own]) o')
      have H3 := Lib.hid h3; have S3 := Lib.hid s3
      clear k1 k2 h1 s1 h2 h3 s3 ho2 ho4 KEY HS
      go_wp2
      go_ret2
      exact ⟨rfl, L, H3.out, rfl, rfl, S3.out⟩
    · rw [if_neg hp]
      have HP := Lib.hid hp; clear hp
      go_enter Tryz.func108, Tryz.ntmps108
      go_wp2_with fail
      refine HS.out.mono ?_
      rintro e w1 ⟨rfl, k1, k2⟩
      obtain ⟨h1, s1⟩ := KEY.out w1 k1 k2
      have d1 := h1.c1
      obtain ⟨o, ho1, ho2⟩ := h1.map.put a 2
      have h2 := h1.putMap ho2
      have d3 := h2.c3
      have d4 : (s.phase == 0) = false := by simpa using HP.out
      have s3 : Stp L.own L.own w (putObj w1 L.mb o) := s1.trans (Stp.put (b := L.mb) (by simp [Lay.own]) o)
      have H3 := Lib.hid h2; have S3 := Lib.hid s3
      clear k1 k2 h1 s1 h2 s3 ho2 KEY HS
      go_wp2
      go_ret2
      exact ⟨rfl, L, H3.out, rfl, rfl, S3.out⟩
  · rw [if_neg e0]
    have t1 : (e != 0) = true := by simpa using e0
    clear e0
    go_enter Tryz.func108, Tryz.ntmps108
    go_wp2_with fail
    refine HS.out.mono ?_
    rintro e' w1 ⟨rfl, k1, k2⟩
    obtain ⟨h1, s1⟩ := KEY.out w1 k1 k2
    have H1 := Lib.hid h1; have S1 := Lib.hid s1
    clear k1 k2 h1 s1 KEY HS
    go_wp2
    go_ret2
    exact ⟨rfl, L, H1.out, rfl, rfl, S1.out⟩

/-! ### A cycle begins -/
/-- v is a slice of these numbers. -/
def IntsAt (w : World) (v : Value) (l : List Int) : Prop :=
  (v = .slice none 0 0 ∧ l = []) ∨ ∃ b off cap, v = .slice (some ⟨b, off, none⟩) l.length cap ∧ b < w.heap.size ∧ ∀ i x, l[i]? = some x → w.cell? ⟨b, off + i, none⟩ = some (iv x)
theorem IntsAt.keep {v : Value} {l : List Int} (h : IntsAt w v l) (hk : ∀ b, v.ownBlock = some b → w'.heap[b]? = w.heap[b]?) (hs : w.heap.size ≤ w'.heap.size) : IntsAt w' v l := by
  rcases h with h | ⟨b, off, cap, rfl, hb, h⟩
  · exact .inl h
  · exact .inr ⟨b, off, cap, rfl, by omega, fun i x hx => by rw [World.cell?_of_block (hk b rfl)]; exact h i x hx⟩
theorem IntsAt.below {v : Value} {l : List Int} (h : IntsAt w v l) (hb : Below w.heap.size w w') : IntsAt w' v l := by
  refine h.keep (fun b hv => ?_) hb.size
  rcases h with ⟨rfl, _⟩ | ⟨b', off, cap, rfl, hb', _⟩
  · cases hv
  · cases hv; exact hb.block _ hb'
theorem IntsAt.form {v : Value} {l : List Int} (h : IntsAt w v l) : ∃ o cap, v = .slice o l.length cap := by
  rcases h with ⟨rfl, rfl⟩ | ⟨b, off, cap, rfl, _⟩
  · exact ⟨none, 0, rfl⟩
  · exact ⟨_, _, rfl⟩
theorem IntsAt.own {v : Value} {l : List Int} (h : w.ownsRow 0 3 1 v l.length (intsV l)) : IntsAt w v l := by
  have hc := fun g (hg : v.ownBlock = some g) => h.cells hg
  have hl := h.lt
  obtain ⟨_, ⟨rfl, h0⟩ | ⟨g, cap, cur, rfl, r⟩⟩ := h
  · exact .inl ⟨rfl, List.eq_nil_of_length_eq_zero h0⟩
  · refine .inr ⟨g, 0, cap, rfl, (hl g rfl).2, fun i x hx => ?_⟩
    have := hc g rfl i (iv x) (by simp [intsV, hx])
    have hadd : (⟨g, 0, none⟩ : Addr).add i = ⟨g, 0 + i, none⟩ := by unfold Addr.add; split <;> simp_all
    rw [hadd] at this
    exact this

def beginH (s : PH) (roots : List Int) : PH × Int :=
  if s.phase = 0 then (roots.foldl shadeH { s with m := fun _ => 0, l := [], over := false, phase := 1 }, 0) else (s, 11)

/-- The world in which a cycle has just begun, ahead of the roots. -/
def begun0 (w : World) (L : Lay) : World :=
  ((w.setCell ⟨L.hb, 1, none⟩ (.map (some w.heap.size))).setCell ⟨L.hb, 2, none⟩ (.pointer (some ⟨w.heap.size + 1, 0, none⟩))).setCell ⟨L.hb, 3, none⟩ (iv 1)
def begun (w : World) (L : Lay) : World := ((begun0 w L).alloc (.map #[] 0)).alloc (.cells #[.slice none 0 0, .string (oS 0), .bool false] 245)
def begunL (w : World) (L : Lay) : Lay := { L with mb := w.heap.size, gb := w.heap.size + 1, gv := .slice none 0 0 }
theorem HeapAt.begun (h : HeapAt w L s) : HeapAt (begun w L) (begunL w L) { s with m := fun _ => 0, l := [], over := false, phase := 1 } ∧ Stp L.own (begunL w L).own w (begun w L) := by
  have hh := Lay.head_nodup h.nodup
  have hlt := h.lt
  have l1 : L.hb < w.heap.size := hlt _ (by simp [Lay.own])
  have l2 : L.ab < w.heap.size := hlt _ (by simp [Lay.own])
  have l3 : L.sb < w.heap.size := hlt _ (by simp [Lay.own])
  have l4 : L.rb < w.heap.size := hlt _ (by simp [Lay.own])
  have l5 : L.lb < w.heap.size := hlt _ (by simp [Lay.own])
  have hsz : (begun0 w L).heap.size = w.heap.size := by simp [begun0]
  have hk2 : ∀ b, b ≠ L.hb → b < w.heap.size → (Go.Proofs.YtcnppdbgieaddaaGreat.begun w L).heap[b]? = w.heap[b]? := fun b hb hlt => by
    unfold Go.Proofs.YtcnppdbgieaddaaGreat.begun
    rw [Below.heap_alloc _ _ _ (by simp; omega), Below.heap_alloc _ _ _ (by omega)]
    unfold begun0
    rw [Below.heap_setCell _ _ _ _ hb, Below.heap_setCell _ _ _ _ hb, Below.heap_setCell _ _ _ _ hb]
  simp only [List.nodup_cons, List.mem_cons, List.not_mem_nil, or_false, not_or] at hh
  obtain ⟨⟨n1, n2, n3, n4, n5⟩, ⟨m1, m2, m3, n6⟩, ⟨m4, m5, n7⟩, ⟨m6, n8⟩, n9, _⟩ := hh
  refine ⟨⟨?_, h.arena.keep fun b hb => ?_, ?_, ⟨?_, World.ownsRow_nil _ _ _ _, by simp [begunL, Value.ownBlock], by simp⟩, ?_, h.i64⟩, ⟨rfl, rfl, rfl, by simp [Go.Proofs.YtcnppdbgieaddaaGreat.begun, hsz]; omega, fun b hb hn => ?_, fun b hb => ?_⟩⟩
  · have := ((((h.top.set 1 (.map (some w.heap.size))).set 2 (.pointer (some ⟨w.heap.size + 1, 0, none⟩))).set 3 (iv 1)).alloc (.map #[] 0)).alloc (.cells #[.slice none 0 0, .string (oS 0), .bool false] 245)
    exact this
  · rcases hb with rfl | rfl | rfl | rfl
    · exact hk2 _ (fun e => n1 e.symm) l2
    · exact hk2 _ (fun e => n2 e.symm) l3
    · exact hk2 _ (fun e => n3 e.symm) l4
    · exact hk2 _ (fun e => n4 e.symm) l5
  · have := (MapAt.new (begun0 w L)).keep (w' := Go.Proofs.YtcnppdbgieaddaaGreat.begun w L) (by unfold Go.Proofs.YtcnppdbgieaddaaGreat.begun; rw [Below.heap_alloc _ _ _ (by simp)])
    rw [hsz] at this
    exact this
  · have := Blk.new ((begun0 w L).alloc (.map #[] 0)) [.slice none 0 0, .string (oS 0), .bool false] 245
    simp only [World.size_alloc, hsz] at this
    exact this
  · simp only [Lay.own, begunL, greyOwn, Value.ownBlock, Option.toList_none]
    simp only [List.cons_append, List.nil_append, List.nodup_cons, List.mem_cons, List.not_mem_nil, or_false, not_or, not_false_eq_true, List.nodup_nil, and_true]
    refine ⟨⟨n1, n2, n3, n4, by omega, by omega⟩, ⟨m1, m2, m3, by omega, by omega⟩, ⟨m4, m5, by omega, by omega⟩, ⟨m6, by omega, by omega⟩, ⟨by omega, by omega⟩, by omega⟩
  · exact hk2 b (fun e => hn (by simp [Lay.own, e])) hb
  · simp only [Lay.own, begunL, greyOwn, Value.ownBlock, Option.toList_none, List.mem_append, List.mem_cons, List.not_mem_nil, or_false] at hb ⊢
    rcases hb with (rfl | rfl | rfl | rfl | rfl | rfl) | rfl <;> first | (exact .inr (by omega)) | simp

theorem hbegin_c (w : World) (h : HeapAt w L s) {v : Value} {l : List Int} (hv : IntsAt w v l) (hl : l.length < 1000000) (hd : ∀ b, v.ownBlock = some b → b ∉ L.own) : Calls Tryz.prog 27 #[hptr L, v] w
    (HPost L (beginH s l).1 (iv (beginH s l).2) w) := by
  have c3 := h.c3
  unfold beginH
  by_cases hp : s.phase = 0
  · rw [if_pos hp]
    have d3 : (s.phase != 0) = false := by simpa using hp
    have hmm := @run_makeMap Tryz.prog
    have c1 := h.c1
    have c2 := h.c2
    have f := h.top.free
    have H := Lib.hid h; clear h
    have HV := Lib.hid hv; clear hv
    have hlt := H.out.top.lt
    obtain ⟨o, cap, hvf⟩ := HV.out.form
    subst hvf
    have HD := Lib.hid hd; clear hd
    go_enter Tryz.func27, Tryz.ntmps27
    go_wp2_with fail
    refine (grey_new_c _).mono ?_
    rintro e w1 ⟨rfl, _, hw1⟩
    subst hw1
    have e4 := f 1
    have e5 := f 2
    have e6 := f 3
    obtain ⟨h4, s4⟩ := H.out.begun
    go_wp2_with fail
    go_loopw [29] (fun v29 wr => ∃ p : Nat, p ≤ l.length ∧ v29 = iv p ∧ ∃ L', HeapAt wr L' ((l.take p).foldl shadeH { s with m := fun _ => 0, l := [], over := false, phase := 1 }) ∧ L'.hb = L.hb ∧ L'.ab = L.ab ∧ Stp L.own L'.own w wr) (fun v29 _ => l.length - (intOf v29).toNat)
    case atStart => exact ⟨0, Nat.zero_le _, rfl, begunL w L, by rw [List.take_zero]; exact h4, rfl, rfl, s4⟩
    case round =>
      obtain ⟨p, hpl, rfl, L', hL, q1, q2, st⟩ := hrel
      clear h4 s4 c1 c2 c3 f e4 e5 e6 d3 hp
      by_cases hlt2 : p < l.length
      · have hcell : ∃ b off, o = some ⟨b, off, none⟩ ∧ wr.cell? ⟨b, off + p, none⟩ = some (iv l[p]) := by
          rcases HV.out with ⟨_, rfl⟩ | ⟨b, off, cap', he, hb, hx⟩
          · simp at hlt2
          · cases he
            refine ⟨b, off, rfl, ?_⟩
            rw [World.cell?_of_block (st.block b hb (HD.out b rfl))]
            exact hx p _ (List.getElem?_eq_getElem hlt2)
        obtain ⟨b, off, rfl, k1⟩ := hcell
        have hsh := shade_c wr hL l[p]
        unfold HPost at hsh
        have e1 : (l.take (p + 1)).foldl shadeH { s with m := fun _ => 0, l := [], over := false, phase := 1 } = shadeH ((l.take p).foldl shadeH { s with m := fun _ => 0, l := [], over := false, phase := 1 }) l[p] := by
          rw [List.take_succ_eq_append_getElem hlt2, List.foldl_append]; rfl
        have E1 := Lib.hid e1; clear e1
        rw [← E1.out] at hsh
        have hq1 : hptr L' = hptr L := by unfold hptr; rw [q1]
        rw [hq1] at hsh
        have HSH := Lib.hid hsh; have Q1 := Lib.hid q1; have Q2 := Lib.hid q2; have ST := Lib.hid st
        generalize l[p] = x at k1 HSH
        clear hsh q1 q2 st hL hq1 E1 HV HD
        go_wp2_with fail
        refine HSH.out.mono ?_
        rintro e w2 ⟨rfl, L2, h2, r1, r2, st2⟩
        have H2 := Lib.hid h2; have R1 := Lib.hid r1; have R2 := Lib.hid r2; have ST2 := Lib.hid st2
        clear h2 r1 r2 st2 HSH
        go_wp2
        go_roundw
        case rel => exact ⟨p + 1, by omega, by go_num, L2, H2.out, R1.out.trans Q1.out, R2.out.trans Q2.out, ST.out.trans ST2.out⟩
        case measure => simp [intOf]; omega
      · obtain rfl : p = l.length := by omega
        rw [List.take_length] at hL
        have HL := Lib.hid hL; have Q1 := Lib.hid q1; have Q2 := Lib.hid q2; have ST := Lib.hid st
        clear hL q1 q2 st
        go_wp2
        go_ret
        exact ⟨rfl, L', HL.out, Q1.out, Q2.out, ST.out⟩
  · rw [if_neg hp]
    have d3 : (s.phase != 0) = true := by simpa using hp
    have H := Lib.hid h; clear h hp hv hd
    generalize s.phase = ph at c3 d3
    go_enter Tryz.func27, Tryz.ntmps27
    go_wp2
    go_ret
    exact ⟨rfl, L, H.out, rfl, rfl, Stp.refl _ _⟩
end Go.Proofs.YtcnppdbgieaddaaGreat

namespace Go.Proofs.YtcnppdbgieaddaaGreat
open Go.RowKit
set_option linter.unusedVariables false
variable {w w' : World} {L : Lay} {s : PH}

def AS.empty (n : Nat) : AS := { n, cls := fun _ => -1, obj := fun _ => none }
theorem RepA.empty (n : Nat) : RepA (List.replicate n freshRow) (fun _ => .nil) (AS.empty n) := by
  refine ⟨⟨fun _ _ => .inl rfl, fun _ _ _ h => (by cases h)⟩, by simp [AS.empty], ?_, ?_, ?_, fun _ _ _ h => (by cases h), fun _ _ _ _ h => (by cases h)⟩
  · intro i r hr; rw [List.eq_of_mem_replicate (List.mem_of_getElem? hr)]; rfl
  · intro i r hr; rw [List.eq_of_mem_replicate (List.mem_of_getElem? hr)]; rfl
  · intro i r s b hr hb; rw [List.eq_of_mem_replicate (List.mem_of_getElem? hr)] at hb; simp at hb

theorem anyInfo : (Tryz.prog.info? 20).map (fun i => (i.zero, i.size, i.bytes)) = some (some .nilIface, 1, 16) := by kernel_rfl
theorem make_any (n : Nat) (hn : n ≤ 128) (w : World) : (Instr.makeSlice 265 (.int .i64 ((n : Int) * 32)) (.int .i64 ((n : Int) * 32))).run Tryz.prog w =
    .ok (.slice (some ⟨w.heap.size, 0, none⟩) (32 * n) (32 * n)) (w.alloc (.cells ((List.range (32 * n)).map fun _ => Value.nilIface).toArray 20)) := by
  obtain ⟨i0, hi, hz0, hz1, hz2⟩ := info_parts anyInfo
  have := run_make (P := Tryz.prog) w 265 20 i0 .nilIface Tryz.underlying265 hi hz0 .i64 .i64 ((n : Int) * 32) ((n : Int) * 32) (by omega) (by omega) (by rw [hz2]; omega) (by omega)
  rw [this, hz1]
  have e1 : ((n : Int) * 32).toNat = 32 * n := by omega
  rw [e1, Nat.mul_one]
  have e2 : madeCells Value.nilIface.cells (32 * n) = ((List.range (32 * n)).map fun _ => Value.nilIface).toArray := by
    apply Array.ext
    · simp [madeCells]
    · intro i h1 h2
      simp [madeCells, Value.cells, Nat.mod_one]
  rw [e2]

theorem arena_new_c (n : Nat) (h1 : 2 ≤ n) (h2 : n ≤ 128) (w : World) : Calls Tryz.prog 194 #[iv n] w fun e w' => ∃ ab sb rb lb, e = .returned (.tuple #[.pointer (some ⟨ab, 0, none⟩), iv 0]) ∧ ArenaA w' ab sb rb lb (AS.empty n) ∧ (w.heap.size ≤ ab ∧ w.heap.size ≤ sb ∧ w.heap.size ≤ rb ∧ w.heap.size ≤ lb) ∧ Below w.heap.size w w' := by
  have hs := Lib.hid (spans_new_c n h1 h2 w)
  have hm := make_any n h2
  go_enter Tryz.func194, Tryz.ntmps194
  go_wp2_with fail
  refine hs.out.mono ?_
  rintro e w1 ⟨sb, rb, rfl, S1, l1, l2, b1⟩
  have HS1 := Lib.hid S1; have HB1 := Lib.hid b1; clear S1 b1 hs
  go_wp2
  go_ret2
  have hsz := HB1.out.size
  refine ⟨w1.heap.size + 1, sb, rb, w1.heap.size, rfl, ⟨_, _, ⟨?_, (HS1.out.alloc' _).alloc' _, ?_, ?_⟩, RepA.empty n⟩, ⟨by omega, l1, l2, by omega⟩, (HB1.out.alloc hsz _).alloc (by simp; omega) _⟩
  · have := Blk.new (w1.alloc (.cells ((List.range (32 * n)).map fun _ => Value.nilIface).toArray 20)) [.pointer (some ⟨sb, 0, none⟩), .slice (some ⟨w1.heap.size, 0, none⟩) (32 * n) (32 * n)] 267
    simp only [World.size_alloc] at this
    rw [List.length_replicate]
    exact this
  · rw [List.length_replicate]
    exact (Blk.new w1 _ _).alloc _
  · obtain ⟨s1, s2⟩ := HS1.out.lt
    refine ⟨by omega, by omega, by omega, by omega, by omega⟩

theorem heap_new_c (n : Nat) (h1 : 2 ≤ n) (h2 : n ≤ 128) (w : World) : Calls Tryz.prog 100 #[iv n] w fun e w' => ∃ L, e = .returned (.tuple #[hptr L, iv 0]) ∧ HeapAt w' L { A := AS.empty n, m := fun _ => 0, l := [], over := false, phase := 0, span := 0, cycles := 0 } ∧ (∀ b ∈ L.own, w.heap.size ≤ b) ∧ Below w.heap.size w w' := by
  have hs := Lib.hid (arena_new_c n h1 h2 w)
  have hmm := @run_makeMap Tryz.prog
  go_enter Tryz.func100, Tryz.ntmps100
  go_wp2_with fail
  refine hs.out.mono ?_
  rintro e w1 ⟨ab, sb, rb, lb, rfl, A1, ⟨l1, l2, l3, l4⟩, b1⟩
  have HA1 := Lib.hid A1; have HB1 := Lib.hid b1; clear A1 b1 hs
  go_wp2_with fail
  refine (grey_new_c _).mono ?_
  rintro e w2 ⟨rfl, _, hw2⟩
  subst hw2
  go_wp2
  go_ret2
  have hsz := HB1.out.size
  obtain ⟨p1, p2, p3, p4⟩ := HA1.out.lt
  have hne := fun (rs : List Row) (f : Nat → Cl) (h : ArenaAt w1 ab sb rb lb rs f) => h.ne
  have hne2 := fun (rs : List Row) (f : Nat → Cl) (h : ArenaAt w1 ab sb rb lb rs f) => h.spans.ne
  obtain ⟨rs, f, ha, hr⟩ := HA1.out
  obtain ⟨n1, n2, n3, n4, n5⟩ := hne rs f ha
  have n6 := hne2 rs f ha
  have A3 := ((HA1.out.below ((Below.refl _ _).alloc (Nat.le_refl _) (.map #[] 0))).below ((Below.refl _ _).alloc (Nat.le_refl _) (.cells #[.slice none 0 0, .string (oS 0), .bool false] 245))).below ((Below.refl _ _).alloc (Nat.le_refl _) (.cells #[.pointer (some ⟨ab, 0, none⟩), .map (some w1.heap.size), .pointer (some ⟨w1.heap.size + 1, 0, none⟩), iv 0, iv 0, iv 0] 179))
  refine ⟨⟨w1.heap.size + 2, ab, sb, rb, lb, w1.heap.size, w1.heap.size + 1, .slice none 0 0⟩, rfl, ⟨?_, A3, ?_, ⟨?_, World.ownsRow_nil _ _ _ _, by simp [Value.ownBlock], by simp⟩, ?_, fun _ _ _ h => (by cases h)⟩, ?_, ((HB1.out.alloc hsz _).alloc (by simp; omega) _).alloc (by simp; omega) _⟩
  · have := Blk.new ((w1.alloc (.map #[] 0)).alloc (.cells #[.slice none 0 0, .string (oS 0), .bool false] 245)) [.pointer (some ⟨ab, 0, none⟩), .map (some w1.heap.size), .pointer (some ⟨w1.heap.size + 1, 0, none⟩), iv 0, iv 0, iv 0] 179
    simp only [World.size_alloc] at this
    exact this
  · exact ((MapAt.new w1).keep (Below.heap_alloc _ _ _ (by simp))).keep (Below.heap_alloc _ _ _ (by simp; omega))
  · have := Blk.new (w1.alloc (.map #[] 0)) [.slice none 0 0, .string (oS 0), .bool false] 245
    simp only [World.size_alloc] at this
    exact this.alloc _
  · simp only [Lay.own, greyOwn, Value.ownBlock, Option.toList_none]
    simp only [List.cons_append, List.nil_append, List.nodup_cons, List.mem_cons, List.not_mem_nil, or_false, not_or, not_false_eq_true, List.nodup_nil, and_true]
    refine ⟨⟨by omega, by omega, by omega, by omega, by omega, by omega⟩, ⟨n1, n2, n3, by omega, by omega⟩, ⟨n6, fun e => n4 e.symm, by omega, by omega⟩, ⟨fun e => n5 e.symm, by omega, by omega⟩, ⟨by omega, by omega⟩, by omega⟩
  · intro b hb
    simp only [Lay.own, greyOwn, Value.ownBlock, Option.toList_none, List.mem_append, List.mem_cons, List.not_mem_nil, or_false] at hb
    omega
end Go.Proofs.YtcnppdbgieaddaaGreat
