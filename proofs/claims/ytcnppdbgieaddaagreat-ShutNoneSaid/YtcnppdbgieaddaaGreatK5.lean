/- How many words a thing has: the program's text of names, and its fields. Words seen as things: the program's view: all words of a thing of a kind. Words seen as things: the program's view: words are laid. append onto a row of numbers of one's own, whatever the slice is that comes behind it. -/
import Derived.Test.YtcnppdbgieaddaaGreatK1
import Derived.Lib.OthersKept
import Derived.Test.YtcnppdbgieaddaaGreatK4
namespace Go.Proofs.YtcnppdbgieaddaaGreat
open Go.RowKit Go.Lib
set_option linter.unusedVariables false

def nameS (k : Int) : ByteArray :=
  if k = 1 then { data := #[99, 97, 112, 32, 99, 108, 111, 115, 101, 100, 32, 99, 111, 117, 110, 116, 32, 115, 116, 97, 114, 116, 32, 98, 117, 102, 32, 116, 97, 107, 101, 104, 101, 97, 100, 32, 116, 97, 107, 101, 116, 97, 105, 108, 32, 115, 101, 110, 100, 104, 101, 97, 100, 32, 115, 101, 110, 100, 116, 97, 105, 108] } else
  if k = 3 then { data := #[103, 111, 114, 32, 99, 104, 97, 110, 32, 118, 97, 108, 117, 101, 32, 110, 101, 120, 116, 32, 116, 111, 32, 114, 101, 103, 32, 109, 111, 114, 101] } else
  if k = 4 then { data := #[105, 100, 32, 115, 116, 97, 116, 117, 115, 32, 112, 99, 32, 97, 32, 98, 32, 99, 32, 100, 32, 101, 32, 102, 32, 115, 117, 100, 111, 103, 115] } else
  if k = 5 then { data := #[118, 97, 108, 117, 101, 32, 102, 105, 110, 97, 108] } else
  if k = 6 then { data := #[119, 104, 101, 110, 32, 99, 104, 97, 110] } else
  { data := #[] }
theorem names_c (k : Int) (w : World) : Calls Tryz.prog 260 #[iv k] w fun e w' => e = .returned (.string (nameS k)) ∧ w = w' := by
  by_cases h1 : k = 1
  · subst h1
    go_enter Tryz.func260, Tryz.ntmps260
    go_wp2
    go_ret
    exact ⟨rfl, rfl⟩
  have t1 : (k == 1) = false := by simpa using h1
  by_cases h3 : k = 3
  · subst h3
    go_enter Tryz.func260, Tryz.ntmps260
    go_wp2
    go_ret
    exact ⟨rfl, rfl⟩
  have t3 : (k == 3) = false := by simpa using h3
  by_cases h4 : k = 4
  · subst h4
    go_enter Tryz.func260, Tryz.ntmps260
    go_wp2
    go_ret
    exact ⟨rfl, rfl⟩
  have t4 : (k == 4) = false := by simpa using h4
  by_cases h5 : k = 5
  · subst h5
    go_enter Tryz.func260, Tryz.ntmps260
    go_wp2
    go_ret
    exact ⟨rfl, rfl⟩
  have t5 : (k == 5) = false := by simpa using h5
  by_cases h6 : k = 6
  · subst h6
    go_enter Tryz.func260, Tryz.ntmps260
    go_wp2
    go_ret
    exact ⟨rfl, rfl⟩
  have t6 : (k == 6) = false := by simpa using h6
  have hr : Hid (nameS k = { data := #[] }) := by unfold Hid nameS; rw [if_neg h1, if_neg h3, if_neg h4, if_neg h5, if_neg h6]
  clear h1 h3 h4 h5 h6
  go_enter Tryz.func260, Tryz.ntmps260
  go_wp2
  go_ret
  exact ⟨ret_eq (by rw [hr.out]; rfl), rfl⟩

/-- How many words a thing of a kind has. -/
def fieldsN (k : Int) : Nat := if k = 1 then 9 else if k = 3 then 7 else if k = 4 then 10 else if k = 5 then 2 else if k = 6 then 2 else 0
/-- How many spaces stand ahead of a place. -/
def spaces (S : ByteArray) (p : Nat) : Nat := (S.data.toList.take p).countP (· = 32)
theorem spaces_succ {S : ByteArray} {p : Nat} (h : p < S.size) : spaces S (p + 1) = spaces S p + if S[p] = 32 then 1 else 0 := by
  unfold spaces
  have h' : p < S.data.toList.length := by simpa using h
  rw [List.take_succ_eq_append_getElem h', List.countP_append]
  have e : S.data.toList[p] = S[p] := by simp; rfl
  rw [e]
  by_cases q : S[p] = 32 <;> simp [q]
theorem spaces_le (S : ByteArray) (p : Nat) : spaces S p ≤ p := Nat.le_trans List.countP_le_length (List.length_take_le _ _)
theorem strInfo : (Tryz.prog.info? 9).map (fun i => (i.zero, i.size, i.bytes)) = some (some (.string ByteArray.empty), 1, 16) := by kernel_rfl

theorem encode_ascii (b : UInt8) (h : b.toNat < 128) : (Utf8.encode (b.toNat : Int)).size = 1 := by
  have : ∀ n : Nat, n < 128 → (Utf8.encode (n : Int)).size = 1 := by decide
  exact this _ h

/-- What the loop knows at place p. -/
def FieldsR (S : ByteArray) (k0 : Nat) (w : World) (v3 v4 : Value) (wr : World) (p : Nat) : Prop :=
  p ≤ S.size ∧ wr.heap[k0]? = some (.stringIter S p) ∧ k0 < wr.heap.size ∧ Below w.heap.size w wr ∧ (∃ xs, wr.ownsRow (k0 + 1) 9 1 v3 (spaces S p) xs) ∧
  ∃ nm : ByteArray, v4 = .string nm ∧ nm.size ≤ p ∧ (0 < p → ∀ h : p - 1 < S.size, (nm.size = 0 ↔ S[p - 1]'h = 32))

def fieldCount (S : ByteArray) : Nat := if S.size = 0 then 0 else spaces S S.size + 1
def FieldsPost (n : Nat) (w : World) (e : Ending) (w' : World) : Prop := ∃ o c, e = .returned (.slice o n c) ∧ Below w.heap.size w w'

set_option maxRecDepth 100000 in
theorem fields_core (k : Int) (S : ByteArray) (hS : nameS k = S) (h64 : S.size ≤ 64) (hasc : ∀ (p : Nat) (h : p < S.size), (S[p]'h).toNat < 128) (hlast : ∀ h : S.size - 1 < S.size, S[S.size - 1]'h ≠ 32) (w : World) :
    Calls Tryz.prog 250 #[iv k] w (FieldsPost (fieldCount S) w) := by
  have hn := names_c k w
  rw [hS] at hn
  have HN := Lib.hid hn; clear hn hS
  have HASC := Lib.hid hasc; have HL := Lib.hid hlast; clear hasc hlast
  go_enter Tryz.func250, Tryz.ntmps250
  go_wp2_with (go_at_call 260; refine HN.out.mono ?_; rintro e w1 ⟨rfl, rfl⟩)
  go_loopw [3, 4] (fun v3 v4 wr => ∃ p, FieldsR S w.heap.size w v3 v4 wr p) (fun _ _ wr => S.size - wr.iterPos w.heap.size)
  case atStart =>
    refine ⟨0, Nat.zero_le _, World.iter_heap _ _ _, by simp [World.iter], (Below.refl _ _).alloc (Nat.le_refl _) _, ⟨[], World.ownsRow_nil _ _ _ _⟩, _, rfl, Nat.le_refl _, fun h => absurd h (by omega)⟩
  case round =>
    obtain ⟨p, hp, hk, hkl, hb, ⟨xs, hown⟩, nm, rfl, hnm, hz⟩ := hrel
    have hsp := spaces_le S p
    obtain ⟨o3, c3, hv3⟩ := own_form hown
    subst hv3
    by_cases hlt : p < S.size
    · have hnx := fun ty => run_next_ascii_at (P := Tryz.prog) wr w.heap.size S p ty hk hlt (HASC.out p hlt)
      have hk2 := iterAt_heap wr w.heap.size S p (p + 1) hk
      have hb2 := below_iterAt hb (k := w.heap.size) (Nat.le_refl _) S (p + 1)
      have hown2 := ownsRow_iterAt hown (k := w.heap.size) (Nat.lt_succ_self _) S (p + 1)
      have hpos : (wr.iterAt w.heap.size S (p + 1)).iterPos w.heap.size = p + 1 := iterPos_of hk2
      have hpos0 : wr.iterPos w.heap.size = p := iterPos_of hk
      have hkl2 : w.heap.size < (wr.iterAt w.heap.size S (p + 1)).heap.size := by rw [iterAt_size]; exact hkl
      have hss := spaces_succ hlt
      have hb256 := HASC.out p hlt
      have HK := Lib.hid hk2; have HB := Lib.hid hb2; have HO := Lib.hid hown2; have HP := Lib.hid hpos; have HP0 := Lib.hid hpos0
      clear hk hb hown hk2 hb2 hown2 hpos hpos0 hz
      generalize hW : wr.iterAt w.heap.size S (p + 1) = W2 at hnx hkl2 HK HB HO HP
      have HW := Lib.hid hW; clear hW
      by_cases e : S[p] = 32
      · rw [if_pos e] at hss
        have hnx' : ∀ ty, (Instr.next (.pointer (some ⟨w.heap.size, 0, none⟩)) true ty).run Tryz.prog wr = .ok (.tuple #[.bool true, .int .i64 p, .int .i32 32]) W2 := fun ty => by rw [hnx ty, e]; rfl
        have HSS := Lib.hid hss; have HE := Lib.hid e
        clear hnx hss e hb256
        go_wp2_with (at_builtin; refine wpList_append2 rfl _ _ 283 rfl (w.heap.size + 1) 9 (.string ByteArray.empty) 1 16 Tryz.underlying283 strInfo rfl (by decide) _ _ _ rfl (HO.out.alloc _) ⟨W2.heap.size, 0, none⟩ 1 1 [.string nm] rfl rfl (cell_one_new _ _ _) ?c2 ?c3 ?c4 ?c5 ?next)
        case c2 => intro u hu; simp at hu; subst hu; rfl
        case c3 => unfold maxLen; omega
        case c4 => omega
        case c5 => simp; omega
        case next =>
          intro v' w3 hown3 hg halt
          have g1 : w3.heap[w.heap.size]? = some (.stringIter S (p + 1)) := by
            rw [hg.block _ (by simp; omega) (fun e => by have := HO.out.lt _ e.symm; omega), Below.heap_alloc _ _ _ hkl2]; exact HK.out
          have g2 : Below w.heap.size w w3 := (HB.out.alloc (by omega) _).grown hg (by simp; omega) (fun k hk => by have := HO.out.lt k hk; omega)
          have g3 : w.heap.size < w3.heap.size := by have := hg.size; rw [World.size_alloc] at this; omega
          have G1 := Lib.hid g1; have G2 := Lib.hid g2; have G4 := Lib.hid hown3
          clear g1 g2 hown3 hg halt HK HB HO
          go_wp2
          go_roundw
          case rel => exact ⟨p + 1, by omega, G1.out, g3, G2.out, ⟨_, by rw [HSS.out]; exact G4.out⟩, _, rfl, Nat.zero_le _, fun _ h => ⟨fun _ => HE.out, fun _ => rfl⟩⟩
          case measure =>
            have e1 := iterPos_of G1.out
            rw [e1, HP0.out]; omega
      · rw [if_neg e] at hss
        have t1 : (((S[p].toNat : Nat) : Int) == 32) = false := by
          have : S[p].toNat ≠ 32 := fun q => e (UInt8.toNat_inj.1 q)
          simp; omega
        have henc := encode_ascii S[p] hb256
        have hadd : ∀ w : World, (Op.stringOp .add nm (Utf8.encode (S[p].toNat : Int))).run Tryz.prog w = .ok (.string (nm ++ Utf8.encode (S[p].toNat : Int))) w := fun w => run_string_add_sum w _ _ (by omega)
        have hsz : (nm ++ Utf8.encode (S[p].toNat : Int)).size = nm.size + 1 := by rw [ByteArray.size_append, henc]
        have HSS := Lib.hid hss; have HE := Lib.hid e; have HSZ := Lib.hid hsz
        clear hss e henc hsz hb256
        generalize hEE : Utf8.encode (S[p].toNat : Int) = E at hadd HSZ
        have hconv : Hid (Utf8.encode (S[p].toNat : Int) = E) := hEE
        generalize ((S[p].toNat : Nat) : Int) = z at hnx t1 hEE
        have hE2 : Utf8.encode z = E := hEE
        clear hEE
        go_wp2
        go_roundw
        case rel => exact ⟨p + 1, by omega, HK.out, hkl2, HB.out, ⟨_, by rw [HSS.out]; exact HO.out⟩, _, rfl, by rw [HSZ.out]; omega, fun _ h => ⟨fun q => by rw [HSZ.out] at q; omega, fun q => absurd q HE.out⟩⟩
        case measure => rw [HP.out, HP0.out]; omega
    · obtain rfl : p = S.size := by omega
      have hnx := fun ty => run_next_end_at (P := Tryz.prog) wr w.heap.size S S.size ty hk (by omega)
      by_cases e : S.size = 0
      · have hn0 : nm.size = 0 := by omega
        have t1 : nm.toList.isEmpty = true := by
          have : nm = ByteArray.empty := by simpa using hn0
          rw [this]; simp
        have HE := Lib.hid e
        have HB := Lib.hid hb
        clear hk hb hown hz e hn0
        go_wp2
        go_ret
        exact ⟨none, 0, ret_eq (by unfold fieldCount; rw [if_pos HE.out]; rfl), HB.out⟩
      · have hn0 : nm.size ≠ 0 := fun q => HL.out (by omega) ((hz (by omega) (by omega)).1 q)
        have t1 : nm.toList.isEmpty = false := by
          cases q : nm.toList.isEmpty with
          | false => rfl
          | true => exact absurd (by rw [List.isEmpty_iff, ByteArray.toList_eq] at q; have := congrArg List.length q; simp at this; rw [this]; rfl) hn0
        have HE := Lib.hid e
        have HB := Lib.hid hb; have HO := Lib.hid hown
        clear hk hb hown hz e hn0
        go_wp2_with (at_builtin; refine wpList_append2 rfl _ _ 283 rfl (w.heap.size + 1) 9 (.string ByteArray.empty) 1 16 Tryz.underlying283 strInfo rfl (by decide) _ _ _ rfl (HO.out.alloc _) ⟨wr.heap.size, 0, none⟩ 1 1 [.string nm] rfl rfl (cell_one_new _ _ _) ?c2 ?c3 ?c4 ?c5 ?next)
        case c2 => intro u hu; simp at hu; subst hu; rfl
        case c3 => unfold maxLen; omega
        case c4 => omega
        case c5 => simp; omega
        case next =>
          intro v' w3 hown3 hg halt
          have g2 : Below w.heap.size w w3 := (HB.out.alloc (by omega) _).grown hg (by simp; omega) (fun k hk => by have := HO.out.lt k hk; omega)
          obtain ⟨o', c', hv'⟩ := own_form hown3
          subst hv'
          have G2 := Lib.hid g2
          clear g2 hown3 hg halt HB HO
          go_wp2
          go_ret
          exact ⟨o', c', ret_eq (by unfold fieldCount; rw [if_neg HE.out]; rfl), G2.out⟩

theorem fields_c (k : Int) (w : World) : Calls Tryz.prog 250 #[iv k] w (FieldsPost (fieldsN k) w) := by
  by_cases h1 : k = 1
  · subst h1
    exact fields_core 1 _ rfl (by decide) (by decide) (by decide) w
  by_cases h3 : k = 3
  · subst h3
    exact fields_core 3 _ rfl (by decide) (by decide) (by decide) w
  by_cases h4 : k = 4
  · subst h4
    exact fields_core 4 _ rfl (by decide) (by decide) (by decide) w
  by_cases h5 : k = 5
  · subst h5
    exact fields_core 5 _ rfl (by decide) (by decide) (by decide) w
  by_cases h6 : k = 6
  · subst h6
    exact fields_core 6 _ rfl (by decide) (by decide) (by decide) w
  have hr : nameS k = { data := #[] } := by unfold nameS; rw [if_neg h1, if_neg h3, if_neg h4, if_neg h5, if_neg h6]
  have hf : fieldsN k = 0 := by unfold fieldsN; rw [if_neg h1, if_neg h3, if_neg h4, if_neg h5, if_neg h6]
  rw [hf]
  exact fields_core k _ hr (by decide) (fun p h => absurd h (Nat.not_lt_zero _)) (fun h => absurd h (Nat.not_lt_zero _)) w

/-- How many words a thing has; is there such a one? -/
def needA (k n : Int) : Int × Bool :=
  if k = 2 then (if n < 0 then (0, false) else if 3 < n then (0, false) else (n, true)) else ((fieldsN k : Int), decide (0 < fieldsN k))
theorem need_c (k n : Int) (w : World) : Calls Tryz.prog 226 #[iv k, iv n] w fun e w' => e = .returned (.tuple #[iv (needA k n).1, .bool (needA k n).2]) ∧ Below w.heap.size w w' := by
  by_cases h2 : k = 2
  · subst h2
    by_cases g1 : n < 0
    · have hr : Hid (needA 2 n = (0, false)) := by simp [Hid, needA, g1]
      go_enter Tryz.func226, Tryz.ntmps226
      go_wp2
      go_ret2
      exact ⟨ret_eq (by rw [hr.out]; rfl), Below.refl _ _⟩
    by_cases g2 : 3 < n
    · have hr : Hid (needA 2 n = (0, false)) := by simp [Hid, needA, g2]
      go_enter Tryz.func226, Tryz.ntmps226
      go_wp2
      go_ret2
      exact ⟨ret_eq (by rw [hr.out]; rfl), Below.refl _ _⟩
    have hr : Hid (needA 2 n = (n, true)) := by simp [Hid, needA, g1, g2]
    go_enter Tryz.func226, Tryz.ntmps226
    go_wp2
    go_ret2
    exact ⟨ret_eq (by rw [hr.out]; rfl), Below.refl _ _⟩
  · have t1 : (k == 2) = false := by simpa using h2
    have hr : Hid (needA k n = ((fieldsN k : Int), decide (0 < fieldsN k))) := by simp [Hid, needA, h2]
    have hf := Lib.hid (fields_c k w)
    clear h2
    go_enter Tryz.func226, Tryz.ntmps226
    go_wp2_with (go_at_call 250; refine hf.out.mono ?_; rintro e w1 ⟨o, c, rfl, b1⟩)
    go_ret2
    exact ⟨ret_eq (by rw [hr.out]; rfl), b1⟩
end Go.Proofs.YtcnppdbgieaddaaGreat

namespace Go.Proofs.YtcnppdbgieaddaaGreat
open Go.RowKit
set_option linter.unusedVariables false
variable {w w' : World} {L : Lay} {s : PH}

/-- All words of a thing, if it is of that kind. -/
def seenA (A : AS) (a kind : Int) : Option (List Int) :=
  match objA A a with
  | some (k, ws) => if k = kind ∧ ws.length = fieldsN kind then some ws else none
  | none => none
theorem seenA_some {A : AS} {a kind : Int} {ws : List Int} (h : seenA A a kind = some ws) : objA A a = some (kind, ws) ∧ ws.length = fieldsN kind := by
  unfold seenA at h
  cases e : objA A a with
  | none => rw [e] at h; cases h
  | some o =>
    obtain ⟨k, us⟩ := o
    rw [e] at h
    simp only at h
    by_cases c : k = kind ∧ us.length = fieldsN kind
    · rw [if_pos c] at h; cases h; exact ⟨by rw [c.1], c.2⟩
    · rw [if_neg c] at h; cases h
theorem seenA_none {A : AS} {a kind : Int} (h : seenA A a kind = none) (hk : 1 ≤ kind) : kindA A a ≠ kind ∨ (kindA A a = kind ∧ lenA A a ≠ fieldsN kind) := by
  unfold seenA at h
  unfold kindA lenA
  cases e : objA A a with
  | none => left; simp only; omega
  | some o =>
    obtain ⟨k, us⟩ := o
    rw [e] at h
    simp only at h ⊢
    by_cases c : k = kind ∧ us.length = fieldsN kind
    · rw [if_pos c] at h; cases h
    · by_cases c1 : k = kind
      · right; exact ⟨c1, fun q => c ⟨c1, by omega⟩⟩
      · left; exact c1
theorem loadS_of {A : AS} {a : Int} {k : Int} {ws : List Int} (e : objA A a = some (k, ws)) {i : Nat} (hi : i < ws.length) : loadS A a i = (ws[i], 0) := by
  unfold loadS
  rw [e]
  simp only
  rw [if_neg (by omega), Int.toNat_natCast, List.getElem?_eq_getElem hi]

theorem fieldsN_le (k : Int) : fieldsN k ≤ 10 := by
  unfold fieldsN
  repeat' split
  all_goals omega

def LookPost (r : Option (List Int)) (w : World) (e : Ending) (w' : World) : Prop :=
  Below w.heap.size w w' ∧ match r with
  | none => e = .returned .nilIface
  | some ws => ∃ v, e = .returned (.iface 168 v) ∧ w'.ownsRow w.heap.size 3 1 v ws.length (intsV ws)

set_option maxRecDepth 100000 in
theorem vlook_c (w : World) (h : HeapAt w L s) (a kind : Int) (hk : 1 ≤ kind) (hk2 : kind ≠ 2) : Calls Tryz.prog 205 #[hptr L, iv a, iv kind] w (LookPost (seenA s.A a kind) w) := by
  have hn := need_c kind 0 w
  have hna : needA kind 0 = ((fieldsN kind : Int), decide (0 < fieldsN kind)) := by simp [needA, hk2]
  rw [hna] at hn
  have HN := Lib.hid hn; clear hn hna
  have har := fun w1 (hb : Below w.heap.size w w1) => arena_c w1 (h.below hb)
  have hkd := fun w1 (hb : Below w.heap.size w w1) => akind_c w1 (h.below hb).arena a
  have hln := fun w1 (hb : Below w.heap.size w w1) => alen_c w1 (h.below hb).arena a
  have hfl := fieldsN_le kind
  cases e : seenA s.A a kind with
  | none =>
    have hend : ∀ w1, Below w.heap.size w w1 → LookPost none w (.returned .nilIface) w1 := fun w1 hb => ⟨hb, rfl⟩
    have HE := Lib.hid hend; clear hend
    have HAR := Lib.hid har; clear har
    rcases seenA_none e hk with e1 | ⟨e1, e2⟩
    · have t1 : (kindA s.A a != kind) = true := by simpa using e1
      generalize kindA s.A a = kd at hkd t1
      have HKD := Lib.hid hkd
      clear hkd hln e e1 h
      go_enter Tryz.func205, Tryz.ntmps205
      go_wp2_with fail
      refine HN.out.mono ?_
      rintro e w1 ⟨rfl, b1⟩
      go_wp2_with fail
      refine (HAR.out w1 b1).mono ?_
      rintro e w2 ⟨rfl, rfl⟩
      go_wp2_with fail
      refine (HKD.out w1 b1).mono ?_
      rintro e w2 ⟨rfl, b2⟩
      go_wp2
      go_ret
      exact HE.out _ (b1.trans (b2.mono b1.size))
    · have t1 : (kindA s.A a != kind) = false := by simpa using e1
      have t2 : (lenA s.A a != (fieldsN kind : Int)) = true := by simpa using e2
      generalize kindA s.A a = kd at hkd t1
      generalize lenA s.A a = ln at hln t2
      generalize fieldsN kind = fn at HN t2 hfl
      have HKD := Lib.hid hkd; have HLN := Lib.hid hln
      clear hkd hln e e1 e2 h
      go_enter Tryz.func205, Tryz.ntmps205
      go_wp2_with fail
      refine HN.out.mono ?_
      rintro e w1 ⟨rfl, b1⟩
      go_wp2_with fail
      refine (HAR.out w1 b1).mono ?_
      rintro e w2 ⟨rfl, rfl⟩
      go_wp2_with fail
      refine (HKD.out w1 b1).mono ?_
      rintro e w2 ⟨rfl, b2⟩
      have b12 := b1.trans (b2.mono b1.size)
      go_wp2_with fail
      refine (HLN.out w2 b12).mono ?_
      rintro e w3 ⟨rfl, b3⟩
      go_wp2
      go_ret
      exact HE.out _ (b12.trans (b3.mono b12.size))
  | some ws =>
    obtain ⟨eo, el⟩ := seenA_some e
    have e1 : kindA s.A a = kind := by unfold kindA; rw [eo]
    have e2 : lenA s.A a = (ws.length : Int) := by unfold lenA; rw [eo]
    simp only [e1] at hkd
    simp only [e2] at hln
    have hld := fun (w1 : World) (hb : Below w.heap.size w w1) (i : Nat) (hi : i < ws.length) => aload_c w1 (h.below hb).arena a i ⟨by omega, by omega⟩
    have hld2 : ∀ (w1 : World) (hb : Below w.heap.size w w1) (i : Nat) (hi : i < ws.length), Calls Tryz.prog 215 #[aptr L, iv a, iv i] w1 fun e w' => e = .returned (.tuple #[iv ws[i], iv 0]) ∧ Below w1.heap.size w1 w' := by
      intro w1 hb i hi
      have := hld w1 hb i hi
      rw [loadS_of eo hi] at this
      exact this
    have HLD := Lib.hid hld2; clear hld hld2
    rw [← el] at HN hfl
    have HKD := Lib.hid hkd; have HLN := Lib.hid hln; have HAR := Lib.hid har
    clear hkd hln har e eo el e1 e2 h
    go_enter Tryz.func205, Tryz.ntmps205
    go_wp2_with fail
    refine HN.out.mono ?_
    rintro e w1 ⟨rfl, b1⟩
    go_wp2_with fail
    refine (HAR.out w1 b1).mono ?_
    rintro e w2 ⟨rfl, rfl⟩
    go_wp2_with fail
    refine (HKD.out w1 b1).mono ?_
    rintro e w2 ⟨rfl, b2⟩
    have b12 := b1.trans (b2.mono b1.size)
    go_wp2_with fail
    refine (HLN.out w2 b12).mono ?_
    rintro e w3 ⟨rfl, b3⟩
    have b13 := b12.trans (b3.mono b12.size)
    clear b1 b2 b12 b3
    go_wp2_with fail
    go_loopw [10, 34] (fun v10 v34 wr => ∃ p, p ≤ ws.length ∧ v34 = iv p ∧ Below w.heap.size w wr ∧ wr.ownsRow w.heap.size 3 1 v10 p (intsV (ws.take p))) (fun _ v34 _ => ws.length - (intOf v34).toNat)
    case atStart => exact ⟨0, Nat.zero_le _, rfl, b13, World.ownsRow_nil _ _ _ _⟩
    case round =>
      obtain ⟨p, hp, rfl, hb, hown⟩ := hrel
      clear b13
      obtain ⟨o3, c3, hv3⟩ := own_form hown
      subst hv3
      by_cases hlt : p < ws.length
      · have hl := HLD.out wr hb p hlt
        have htk : ws.take (p + 1) = ws.take p ++ [ws[p]] := List.take_succ_eq_append_getElem hlt
        have HT := Lib.hid htk; clear htk
        generalize ws[p] = x at hl HT
        have HL := Lib.hid hl; have HB := Lib.hid hb; have HO := Lib.hid hown
        have hsz := hb.size
        clear hl hb hown
        go_wp2_with fail
        refine HL.out.mono ?_
        rintro e w4 ⟨rfl, b4⟩
        have g1 := HB.out.trans (b4.mono hsz)
        have g2 := ownsRow_keep HO.out (w' := w4) (fun b hb => b4.block b ((HO.out.lt b hb).2))
        have hsz4 := g1.size
        have G1 := Lib.hid g1; have G2 := Lib.hid g2
        clear b4 g1 g2
        go_wp2_with (at_builtin; refine wpList_append2 rfl _ _ 168 rfl w.heap.size 3 (.int .i64 0) 1 8 Tryz.underlying168 intInfo rfl (by decide) _ _ _ rfl (G2.out.alloc _) ⟨w4.heap.size, 0, none⟩ 1 1 [iv x] rfl rfl (cell_one_new _ _ _) ?c2 ?c3 ?c4 ?c5 ?next)
        case c2 => intro u hu; simp at hu; subst hu; rfl
        case c3 => unfold maxLen; omega
        case c4 => omega
        case c5 => simp; omega
        case next =>
          intro v' w5 hown5 hg halt
          have g3 : Below w.heap.size w w5 := (G1.out.alloc (by omega) _).grown hg (by simp; omega) (fun k hk => (G2.out.lt k hk).1)
          have g4 : w5.ownsRow w.heap.size 3 1 v' (p + 1) (intsV (ws.take (p + 1))) := by rw [HT.out]; simpa [intsV] using hown5
          have G3 := Lib.hid g3; have G4 := Lib.hid g4
          clear g3 g4 hown5 hg halt
          go_wp2
          go_roundw
          case rel => exact ⟨p + 1, by omega, by go_num, G3.out, G4.out⟩
          case measure => simp [intOf]; omega
      · obtain rfl : p = ws.length := by omega
        rw [List.take_length] at hown
        have HB := Lib.hid hb; have HO := Lib.hid hown
        clear hb hown
        go_wp2
        go_ret
        exact ⟨HB.out, _, rfl, HO.out⟩
end Go.Proofs.YtcnppdbgieaddaaGreat

namespace Go.Proofs.YtcnppdbgieaddaaGreat
open Go.RowKit
set_option linter.unusedVariables false
variable {w w' : World} {L : Lay} {s : PH}

def SeenPost (r : Option (List Int)) (w : World) (e : Ending) (w' : World) : Prop :=
  Below w.heap.size w w' ∧ match r with
  | none => e = .returned (.tuple #[.slice none 0 0, iv 10])
  | some ws => ∃ v, e = .returned (.tuple #[v, iv 0]) ∧ w'.ownsRow w.heap.size 3 1 v ws.length (intsV ws)
theorem seen_c (w : World) (h : HeapAt w L s) (a kind : Int) (hk : 1 ≤ kind) (hk2 : kind ≠ 2) : Calls Tryz.prog 120 #[hptr L, iv a, iv kind] w (SeenPost (seenA s.A a kind) w) := by
  have hl := vlook_c w h a kind hk hk2
  clear h
  cases e : seenA s.A a kind with
  | none =>
    rw [e] at hl
    have HL := Lib.hid hl; clear hl e
    go_enter Tryz.func120, Tryz.ntmps120
    go_wp2_with (go_at_call 205; refine HL.out.mono ?_; rintro e w1 ⟨b1, rfl⟩)
    go_ret2
    exact ⟨b1, rfl⟩
  | some ws =>
    rw [e] at hl
    have HL := Lib.hid hl; clear hl e
    go_enter Tryz.func120, Tryz.ntmps120
    go_wp2_with fail
    refine HL.out.mono ?_
    rintro e w1 ⟨b1, v, rfl, ho⟩
    obtain ⟨o3, c3, hv3⟩ := own_form ho
    subst hv3
    have HO := Lib.hid ho; clear ho
    go_wp2
    go_ret2
    exact ⟨b1, _, rfl, HO.out⟩

/-- The word of a place; that of 0, if there is none. -/
def ptrOr (a : Int) : Int := if a < 0 then intW 0 else ptrW a
theorem vptr_c (a : Int) (w : World) : Calls Tryz.prog 111 #[iv a] w fun e w' => e = .returned (iv (ptrOr a)) ∧ w = w' := by
  have h1 := Lib.hid (int_c 0)
  have h2 := Lib.hid (ptr_c a)
  by_cases g : a < 0
  · have hr : Hid (ptrOr a = intW 0) := by simp [Hid, ptrOr, g]
    go_enter Tryz.func111, Tryz.ntmps111
    go_wp2_with (go_at_call 112; refine (h1.out _).mono ?_; rintro e w1 ⟨rfl, rfl⟩)
    go_ret
    exact ⟨ret_eq (by rw [hr.out]; rfl), rfl⟩
  · have hr : Hid (ptrOr a = ptrW a) := by simp [Hid, ptrOr, g]
    go_enter Tryz.func111, Tryz.ntmps111
    go_wp2_with (go_at_call 201; refine (h2.out _).mono ?_; rintro e w1 ⟨rfl, rfl⟩)
    go_ret
    exact ⟨ret_eq (by rw [hr.out]; rfl), rfl⟩

/-! ### Words are laid -/
theorem shadeH_A (s : PH) (a : Int) : (shadeH s a).A = s.A := by unfold shadeH; split <;> rfl
theorem storeH_A (s : PH) (a i v : Int) : (storeH s a i v).1.A = (storeS s.A a i v).1 := by
  unfold storeH
  generalize storeS s.A a i v = x
  obtain ⟨A', e⟩ := x
  simp only
  split
  · split
    · rw [shadeH_A]
    · rfl
  · rfl
theorem storeH_e (s : PH) (a i v : Int) : (storeH s a i v).2 = (storeS s.A a i v).2 := by
  unfold storeH
  generalize storeS s.A a i v = x
  obtain ⟨A', e⟩ := x
  simp only
  by_cases h : e = 0
  · rw [if_pos h]; split <;> exact h.symm
  · rw [if_neg h]
theorem storeS_of {A : AS} {a : Int} {k : Int} {ws : List Int} (e : objA A a = some (k, ws)) {i : Nat} (hi : i < ws.length) (v : Int) :
    (storeS A a i v).2 = 0 ∧ (storeS A a i v).1 = { A with obj := updO A.obj a.toNat (some (k, ws.set i v)) } := by
  unfold storeS
  rw [e]
  simp only
  rw [if_neg (by omega), if_neg (by omega)]
  exact ⟨rfl, by simp⟩
theorem objA_nonneg {A : AS} {a : Int} {o : Int × List Int} (e : objA A a = some o) : 0 ≤ a ∧ A.obj a.toNat = some o := by
  unfold objA at e
  by_cases h : a < 0
  · rw [if_pos h] at e; cases e
  · rw [if_neg h] at e; exact ⟨by omega, e⟩
theorem objA_upd {A : AS} {a : Int} {o : Int × List Int} (h : 0 ≤ a) : objA { A with obj := updO A.obj a.toNat (some o) } a = some o := by
  unfold objA updO
  rw [if_neg (by omega)]; simp
theorem storeH_of {s : PH} {a : Int} {k : Int} {ws : List Int} (e : objA s.A a = some (k, ws)) {i : Nat} (hi : i < ws.length) (v : Int) :
    (storeH s a i v).2 = 0 ∧ objA (storeH s a i v).1.A a = some (k, ws.set i v) := by
  obtain ⟨h1, h2⟩ := storeS_of e hi v
  rw [storeH_e, storeH_A, h2]
  exact ⟨h1, objA_upd (objA_nonneg e).1⟩

def layL (s : PH) (a : Int) : Nat → List Int → List Int → PH
  | i, o :: os, x :: xs => layL (if x = o then s else (storeH s a i x).1) a (i + 1) os xs
  | _, _, _ => s
def putH (s : PH) (a kind : Int) (l : List Int) : PH × Int :=
  match seenA s.A a kind with
  | none => (s, 10)
  | some old => (layL s a 0 old l, 0)
theorem layL_snoc (a : Int) (o x : Int) : ∀ (os xs : List Int) (s : PH) (i : Nat), os.length = xs.length →
    layL s a i (os ++ [o]) (xs ++ [x]) = if x = o then layL s a i os xs else (storeH (layL s a i os xs) a ((i + os.length : Nat) : Int) x).1
  | [], [], s, i, _ => by simp [layL]
  | [], _ :: _, s, i, h => by simp at h
  | _ :: _, [], s, i, h => by simp at h
  | o' :: os, x' :: xs, s, i, h => by
    simp only [List.cons_append, layL]
    rw [layL_snoc a o x os xs _ (i + 1) (by simpa using h)]
    simp only [List.length_cons]
    rw [show i + 1 + os.length = i + (os.length + 1) from by omega]

theorem IntsAt.ofOwn {base : Nat} {v : Value} {l : List Int} (h : w.ownsRow base 3 1 v l.length (intsV l)) : IntsAt w v l := by
  refine IntsAt.own ⟨h.1, ?_⟩
  rcases h.2 with h | ⟨g, cap, cur, hv, hg, r⟩
  · exact .inl h
  · exact .inr ⟨g, cap, cur, hv, Nat.zero_le _, r⟩
/-- The cell of an element. -/
theorem IntsAt.cell {v : Value} {l : List Int} (h : IntsAt w v l) {p : Nat} (hp : p < l.length) : ∃ b off cap, v = .slice (some ⟨b, off, none⟩) l.length cap ∧ b < w.heap.size ∧ w.cell? ⟨b, off + p, none⟩ = some (iv l[p]) := by
  rcases h with ⟨_, rfl⟩ | ⟨b, off, cap, rfl, hb, hx⟩
  · simp at hp
  · exact ⟨b, off, cap, rfl, hb, hx p _ (List.getElem?_eq_getElem hp)⟩

set_option maxRecDepth 100000 in
theorem put_c (w : World) (h : HeapAt w L s) (a kind : Int) (hk : 1 ≤ kind) (hk2 : kind ≠ 2) {v : Value} {l : List Int} (hv : IntsAt w v l) (hl : l.length = fieldsN kind) (hd : ∀ b, v.ownBlock = some b → b ∉ L.own) (h64 : ∀ x ∈ l, I64 x) :
    Calls Tryz.prog 110 #[hptr L, iv a, iv kind, v] w (HPost L (putH s a kind l).1 (iv (putH s a kind l).2) w) := by
  have hs := seen_c w h a kind hk hk2
  unfold putH
  cases e : seenA s.A a kind with
  | none =>
    rw [e] at hs
    have hend := fun w1 (hb : Below w.heap.size w w1) => HPost.same h (iv 10) hb
    have HE := Lib.hid hend; have HS := Lib.hid hs; clear hend hs e h hv hd h64
    go_enter Tryz.func110, Tryz.ntmps110
    go_wp2_with (go_at_call 120; refine HS.out.mono ?_; rintro e w1 ⟨b1, rfl⟩)
    go_ret
    exact HE.out _ b1
  | some old =>
    rw [e] at hs
    obtain ⟨eo, el⟩ := seenA_some e
    have hfl := fieldsN_le kind
    rw [← el] at hl hfl
    simp only
    have HS := Lib.hid hs; have H := Lib.hid h; have HV := Lib.hid hv; have HD := Lib.hid hd; have H64 := Lib.hid h64; have EO := Lib.hid eo
    have hlt := h.lt
    have HLT := Lib.hid hlt
    clear hs h hv hd h64 eo el e hlt
    have hvf := HV.out.form
    obtain ⟨ov, cv, hvf⟩ := hvf
    subst hvf
    go_enter Tryz.func110, Tryz.ntmps110
    go_wp2_with fail
    refine HS.out.mono ?_
    rintro e w1 ⟨b1, vo, rfl, ho⟩
    have hin := IntsAt.ofOwn ho
    have hob := ho.lt
    obtain ⟨o3, c3, hv3⟩ := own_form ho
    subst hv3
    have HI := Lib.hid hin; have HOB := Lib.hid hob; have B1 := Lib.hid b1
    have hsz1 := b1.size
    clear ho hin hob b1 HS
    go_wp2_with fail
    go_loopw [25] (fun v25 wr => ∃ p, p ≤ l.length ∧ v25 = iv p ∧ ∃ L', HeapAt wr L' (layL s a 0 (old.take p) (l.take p)) ∧ L'.hb = L.hb ∧ L'.ab = L.ab ∧ Stp L.own L'.own w1 wr ∧ ∃ us, objA (layL s a 0 (old.take p) (l.take p)).A a = some (kind, us) ∧ us.length = old.length) (fun v25 _ => l.length - (intOf v25).toNat)
    case atStart => exact ⟨0, Nat.zero_le _, rfl, L, by simpa [layL] using H.out.below B1.out, rfl, rfl, Stp.refl _ _, old, by simpa [layL] using EO.out, rfl⟩
    case round =>
      obtain ⟨p, hp, rfl, L', hL, q1, q2, st, us, hus, hul⟩ := hrel
      have hq1 : hptr L' = hptr L := by unfold hptr; rw [q1]
      by_cases hlt : p < l.length
      · obtain ⟨b, off, cap', hvb, hbl, hc⟩ := HV.out.cell hlt
        obtain ⟨b2, off2, cap2, hvb2, hbl2, hc2⟩ := HI.out.cell (p := p) (by omega)
        cases hvb; cases hvb2
        have k1 : wr.cell? ⟨b, off + p, none⟩ = some (iv l[p]) := by
          rw [World.cell?_of_block (st.block b (by omega) (HD.out b rfl)), World.cell?_of_block (B1.out.block b hbl)]; exact hc
        have k2 : wr.cell? ⟨b2, off2 + p, none⟩ = some (iv (old[p]'(by omega))) := by
          have := HOB.out b2 rfl
          rw [World.cell?_of_block (st.block b2 hbl2 (fun hm => by have := HLT.out b2 hm; omega))]; exact hc2
        have hstep : layL s a 0 (old.take (p + 1)) (l.take (p + 1)) = if l[p] = old[p]'(by omega) then layL s a 0 (old.take p) (l.take p) else (storeH (layL s a 0 (old.take p) (l.take p)) a p l[p]).1 := by
          rw [List.take_succ_eq_append_getElem hlt, List.take_succ_eq_append_getElem (by omega : p < old.length), layL_snoc _ _ _ _ _ _ _ (by simp; omega)]
          simp only [List.length_take, Nat.zero_add, Nat.min_eq_left (by omega : p ≤ old.length)]
        have hx64 := H64.out l[p] (List.getElem_mem hlt)
        generalize l[p] = x at k1 hstep hx64
        generalize (old[p]'(by omega) : Int) = y at k2 hstep
        have Q1 := Lib.hid q1; have Q2 := Lib.hid q2; have ST := Lib.hid st; have HUS := Lib.hid hus
        by_cases e : x = y
        · rw [if_pos e] at hstep
          have t1 : (x == y) = true := by simpa using e
          have HL := Lib.hid hL; have HST := Lib.hid hstep
          clear hL hstep q1 q2 st hus hq1 hx64 hc hc2 e
          go_wp2
          go_roundw
          case rel => exact ⟨p + 1, by omega, by go_num, L', by rw [HST.out]; exact HL.out, Q1.out, Q2.out, ST.out, us, by rw [HST.out]; exact HUS.out, hul⟩
          case measure => simp [intOf]; omega
        · rw [if_neg e] at hstep
          have t1 : (x == y) = false := by simpa using e
          have hst := hstore_c wr hL a p x ⟨by omega, by omega⟩ hx64
          obtain ⟨z1, z2⟩ := storeH_of hus (i := p) (by omega) x
          rw [← hstep] at hst z2
          rw [z1, hq1] at hst
          have HSTO := Lib.hid hst; have Z2 := Lib.hid z2
          clear hL hstep q1 q2 st hus hq1 hx64 hc hc2 e hst z1 z2
          go_wp2_with fail
          refine HSTO.out.mono ?_
          rintro e w2 ⟨rfl, L2, h2, r1, r2, st2⟩
          have H2 := Lib.hid h2; have R1 := Lib.hid r1; have R2 := Lib.hid r2; have ST2 := Lib.hid st2
          clear h2 r1 r2 st2 HSTO k1 k2
          go_wp2
          go_roundw
          case rel => exact ⟨p + 1, by omega, by go_num, L2, H2.out, R1.out.trans Q1.out, R2.out.trans Q2.out, ST.out.trans ST2.out, _, Z2.out, by simpa using hul⟩
          case measure => simp [intOf]; omega
      · obtain rfl : p = l.length := by omega
        rw [List.take_length, List.take_of_length_le (by omega)] at hL
        have HL := Lib.hid hL; have Q1 := Lib.hid q1; have Q2 := Lib.hid q2; have ST := Lib.hid st
        clear hL q1 q2 st hus hq1
        go_wp2
        go_ret
        exact ⟨rfl, L', HL.out, Q1.out, Q2.out, (Stp.below B1.out).trans ST.out⟩
end Go.Proofs.YtcnppdbgieaddaaGreat

namespace Go.Proofs.YtcnppdbgieaddaaGreat
open Go.RowKit
set_option linter.unusedVariables false
set_option linter.unusedSimpArgs false
variable {w w' : World}

theorem append_nothing {P : Program} (w : World) (base : Nat) (t ty e : TypeId) (i : TypeInfo) (size : Nat) (ht : P.underlying t = some (.slice e)) (hi : P.info? e = some i)
    {v : Value} {n : Nat} {xs : List Value} (hown : w.ownsRow base e size v n xs) (c : Nat) : (Builtin.append_ #[t, t] ty #[v, .slice none 0 c]).run P w = .ok v w := by
  obtain ⟨_, ⟨h1, h2⟩ | ⟨g, cap, cur, h1, _, _, hc, _⟩⟩ := hown
  · subst h1; subst h2
    simp [Builtin.append_, run_underlying ht, sizeOf, typeInfo, hi, Builtin.lenOf, Builtin.firstCells]
  · subst h1
    simp [Builtin.append_, run_underlying ht, sizeOf, typeInfo, hi, Builtin.lenOf, Builtin.firstCells, hc, storeCells]
theorem run_appendI (w : World) (base : Nat) (ty : TypeId) {v : Value} {l : List Int} (hown : w.ownsRow base 3 1 v l.length (intsV l)) {x : Value} {k : List Int} (hx : IntsAt w x k) (hlen : l.length + k.length ≤ 1000000) (hbase : base ≤ w.heap.size) :
    ∃ v' w', (Builtin.append_ #[25, 25] ty #[v, x]).run Tryz.prog w = .ok v' w' ∧ w'.ownsRow base 3 1 v' (l ++ k).length (intsV (l ++ k)) ∧ w.grownBy w' v.ownBlock ∧ (v'.ownBlock = v.ownBlock ∨ v'.ownBlock = some w.heap.size) := by
  obtain ⟨i0, hi, hz0, hz1, hz2⟩ := info_parts intInfo
  rcases hx with ⟨rfl, rfl⟩ | ⟨b, off, cap, rfl, hb, hc⟩
  · exact ⟨v, w, append_nothing w base _ _ _ i0 1 Tryz.underlying25 hi hown 0, by simpa using hown, World.grownBy.refl w _, .inl rfl⟩
  · have hcells : ∀ j u, (intsV k)[j]? = some u → w.cell? ((⟨b, off, none⟩ : Addr).add j) = some u := by
      intro j u hu
      have hadd : (⟨b, off, none⟩ : Addr).add j = ⟨b, off + j, none⟩ := by unfold Addr.add; split <;> simp_all
      rw [hadd]
      simp only [intsV, List.getElem?_map, Option.map_eq_some_iff] at hu
      obtain ⟨z, hz, rfl⟩ := hu
      exact hc j z hz
    obtain ⟨v', w', hr, h2, h3, h4⟩ := run_append2 (P := Tryz.prog) w base 25 ty 3 i0 (.int .i64 0) 1 8 Tryz.underlying25 hi hz0 hz1 hz2 rfl (by decide) v l.length (intsV l) hown ⟨b, off, none⟩ k.length cap (intsV k) (by simp [intsV]) hcells (by intro u hu; simp only [intsV, List.mem_map] at hu; obtain ⟨z, _, rfl⟩ := hu; rfl) (by unfold maxLen; omega) (by omega) hbase
    exact ⟨v', w', hr, by simpa [intsV] using h2, h3, h4⟩
theorem wp_appendI {o : Oper} {a : Act} {K : Act → World → Prop} {Q : Exit → Act → World → Prop} (s x : Operand)
    (ho : o.op = .call { callee := .builtin .append, args := #[s, x], argTypes := #[25, 25] })
    (base : Nat) {v : Value} {l : List Int} (hs : a.eval s = v) (hown : w.ownsRow base 3 1 v l.length (intsV l)) {y : Value} {k : List Int} (hx : a.eval x = y) (hy : IntsAt w y k) (hlen : l.length + k.length ≤ 1000000) (hbase : base ≤ w.heap.size)
    (h : ∀ v' w', w'.ownsRow base 3 1 v' (l ++ k).length (intsV (l ++ k)) → w.grownBy w' v.ownBlock → (v'.ownBlock = v.ownBlock ∨ v'.ownBlock = some w.heap.size) → K (a.put o.dst v') w') : o.wp Tryz.prog a w K Q := by
  obtain ⟨v', w', hrun, h2, h3, h4⟩ := run_appendI w base o.type hown hy hlen hbase
  unfold Oper.wp execOp
  simp only [ho, resolve, invoke, builtin, Sem.run_bind, Sem.run_pure, Result.andThen_ok, List.map_toArray, List.map_cons, List.map_nil, hs, hx, hrun]
  exact h v' w' h2 h3 h4
/-- In a region in the text's order. -/
theorem wpList_appendI {ops : Array Oper} {rest : List Oper} {o : Oper} {a : Act} {Q : Exit → Act → World → Prop} (hgd : o.guard = none) (s x : Operand)
    (ho : o.op = .call { callee := .builtin .append, args := #[s, x], argTypes := #[25, 25] })
    (base : Nat) {v : Value} {l : List Int} (hs : a.eval s = v) (hown : w.ownsRow base 3 1 v l.length (intsV l)) {y : Value} {k : List Int} (hx : a.eval x = y) (hy : IntsAt w y k) (hlen : l.length + k.length ≤ 1000000) (hbase : base ≤ w.heap.size)
    (h : ∀ v' w', w'.ownsRow base 3 1 v' (l ++ k).length (intsV (l ++ k)) → w.grownBy w' v.ownBlock → (v'.ownBlock = v.ownBlock ∨ v'.ownBlock = some w.heap.size) → wpList Tryz.prog ops Q rest (a.put o.dst v') w') : wpList Tryz.prog ops Q (o :: rest) a w :=
  wpList_plain hgd fun _ hK => wp_appendI s x ho base hs hown hx hy hlen hbase fun v' w' h2 h3 h4 => hK _ _ (h v' w' h2 h3 h4)
/-- At a step of a region that draws its order. -/
theorem step_appendI {ops : Array Oper} {o : Oper} {a : Act} {K : Act → World → Prop} {Q : Exit → Act → World → Prop} {E : Prop} (hgd : o.guard = none) (s x : Operand)
    (ho : o.op = .call { callee := .builtin .append, args := #[s, x], argTypes := #[25, 25] })
    (base : Nat) {v : Value} {l : List Int} (hs : a.eval s = v) (hown : w.ownsRow base 3 1 v l.length (intsV l)) {y : Value} {k : List Int} (hx : a.eval x = y) (hy : IntsAt w y k) (hlen : l.length + k.length ≤ 1000000) (hbase : base ≤ w.heap.size)
    (h : ∀ v' w', w'.ownsRow base 3 1 v' (l ++ k).length (intsV (l ++ k)) → w.grownBy w' v.ownBlock → (v'.ownBlock = v.ownBlock ∨ v'.ownBlock = some w.heap.size) → K (a.put o.dst v') w') :
    if Region.wanted o (yielded ops a.tmps) = true then Oper.wp Tryz.prog o a w K Q else E := by
  rw [if_pos (show Region.wanted o (yielded ops a.tmps) = true by simp [Region.wanted, hgd])]
  exact wp_appendI s x ho base hs hown hx hy hlen hbase h
theorem row_low {base base' : Nat} {v : Value} {n : Nat} {xs : List Value} (h : w.ownsRow base 3 1 v n xs) (hb : base' ≤ base) : w.ownsRow base' 3 1 v n xs := by
  rcases h with ⟨h1, h2 | ⟨g, cap, cur, hv, hg, r⟩⟩
  · exact ⟨h1, .inl h2⟩
  · exact ⟨h1, .inr ⟨g, cap, cur, hv, Nat.le_trans hb hg, r⟩⟩
theorem ints_one (w : World) (x : Int) (t : TypeId) : IntsAt (w.alloc (.cells #[iv x] t)) (.slice (some ⟨w.heap.size, 0, none⟩) 1 1) [x] := by
  refine .inr ⟨w.heap.size, 0, 1, rfl, by simp, fun i y hi => ?_⟩
  match i, hi with
  | 0, hi =>
    simp at hi; subst hi
    rw [(Blk.new w [iv x] t).cell]; rfl
/-- A row of one's own that has grown: from one base on, nothing below has turned. -/
theorem below_grown {base : Nat} {v : Value} {n : Nat} {xs : List Value} {e : TypeId} {size : Nat} (hown : w.ownsRow base e size v n xs) (hg : w.grownBy w' v.ownBlock) (hb : base ≤ w.heap.size) : Below base w w' :=
  (Below.refl _ _).grown hg hb fun k hk => (hown.lt k hk).1
theorem below_grown0 (hg : w.grownBy w' (Value.slice none 0 0).ownBlock) : Below w.heap.size w w' := (Below.refl _ _).grown hg (Nat.le_refl _) fun k hk => by cases hk
end Go.Proofs.YtcnppdbgieaddaaGreat
