/- Plain words for memory: a block of cells known whole; a step of the world that turns the blocks of one owner alone. Words: what stands for a number, what for a place; how great a thing is. The two sides' functions, each once. How great a thing is: classes. The two sides' functions, each once. Rows of slots: the program's spans. Rows of slots: the program's spans, in memory. -/
import Derived.Test.YtcnppdbgieaddaaGreatProg
import Derived.WalkKit
import Derived.WalkSpells
import Derived.WalkLawsBesides
import Derived.WalkSmall
import Derived.Deep.QuietTactic
import Derived.BigQuiet
import Derived.StillTailTactics
import Derived.Deep.RegionHeld3
import Derived.Deep.RegionLaw
import Derived.Deep.RegionWith
import Derived.Deep.DeepCutAuto
import Derived.Deep.Light
import Derived.Lib.Hide
import Derived.KernelRfl
import Derived.IntWalk
namespace Go
section
variable {P : Program}
/-- 'x.(T)', T no interface type, an interface value at hand. -/
theorem run_assert_iface (xT T T' : TypeId) (v : Value) (w : World) {d : TypeDesc} {z : Value} (hu : P.underlying T = some d) (hd : ∀ ms, d ≠ .interface ms)
    (hz : (zeroValue T).run P w = .ok z w) :
    (Instr.typeAssert (.iface T' v) xT T true).run P w = .ok (.tuple (if T' = T then #[v, .bool true] else #[z, .bool false])) w := by
  unfold Instr.typeAssert
  simp only [Sem.run_bind, run_underlying hu, Result.andThen_ok]
  by_cases hne : T' = T
  · rw [if_pos hne]
    cases d <;> first | exact absurd rfl (hd _) | simp [hne]
  · rw [if_neg hne]
    cases d <;> first | exact absurd rfl (hd _) | simp [hne, hz]
theorem run_assert_nil (xT T : TypeId) (w : World) {d : TypeDesc} {z : Value} (hu : P.underlying T = some d) (hd : ∀ ms, d ≠ .interface ms)
    (hz : (zeroValue T).run P w = .ok z w) :
    (Instr.typeAssert .nilIface xT T true).run P w = .ok (.tuple #[z, .bool false]) w := by
  unfold Instr.typeAssert
  simp only [Sem.run_bind, run_underlying hu, Result.andThen_ok]
  cases d <;> first | exact absurd rfl (hd _) | simp [hz]
end
end Go
namespace Go.Proofs.YtcnppdbgieaddaaGreat
open Go.RowKit

/-! ### Asking for a type -/
@[go_sem] theorem ta_value_place (T' : TypeId) (v : Value) (w : World) : (Instr.typeAssert (.iface T' v) 20 252 true).run Tryz.prog w = .ok (.tuple (if T' = 252 then #[v, .bool true] else #[.int .i64 0, .bool false])) w :=
  run_assert_iface _ _ _ _ _ Tryz.underlying252 (fun _ h => by cases h) (by kernel_rfl)
@[go_sem] theorem tn_value_place (w : World) : (Instr.typeAssert .nilIface 20 252 true).run Tryz.prog w = .ok (.tuple #[.int .i64 0, .bool false]) w :=
  run_assert_nil _ _ _ Tryz.underlying252 (fun _ h => by cases h) (by kernel_rfl)
@[go_sem] theorem ta_value_number (T' : TypeId) (v : Value) (w : World) : (Instr.typeAssert (.iface T' v) 20 249 true).run Tryz.prog w = .ok (.tuple (if T' = 249 then #[v, .bool true] else #[.int .i64 0, .bool false])) w :=
  run_assert_iface _ _ _ _ _ Tryz.underlying249 (fun _ h => by cases h) (by kernel_rfl)
@[go_sem] theorem tn_value_number (w : World) : (Instr.typeAssert .nilIface 20 249 true).run Tryz.prog w = .ok (.tuple #[.int .i64 0, .bool false]) w :=
  run_assert_nil _ _ _ Tryz.underlying249 (fun _ h => by cases h) (by kernel_rfl)
@[go_sem] theorem ta_arena_word (T' : TypeId) (v : Value) (w : World) : (Instr.typeAssert (.iface T' v) 20 263 true).run Tryz.prog w = .ok (.tuple (if T' = 263 then #[v, .bool true] else #[.int .i64 0, .bool false])) w :=
  run_assert_iface _ _ _ _ _ Tryz.underlying263 (fun _ h => by cases h) (by kernel_rfl)
@[go_sem] theorem tn_arena_word (w : World) : (Instr.typeAssert .nilIface 20 263 true).run Tryz.prog w = .ok (.tuple #[.int .i64 0, .bool false]) w :=
  run_assert_nil _ _ _ Tryz.underlying263 (fun _ h => by cases h) (by kernel_rfl)
@[go_sem] theorem ta_arena_header (T' : TypeId) (v : Value) (w : World) : (Instr.typeAssert (.iface T' v) 20 255 true).run Tryz.prog w = .ok (.tuple (if T' = 255 then #[v, .bool true] else #[.agg #[.int .i64 0, .int .i64 0], .bool false])) w :=
  run_assert_iface _ _ _ _ _ Tryz.underlying255 (fun _ h => by cases h) (by kernel_rfl)
@[go_sem] theorem tn_arena_header (w : World) : (Instr.typeAssert .nilIface 20 255 true).run Tryz.prog w = .ok (.tuple #[.agg #[.int .i64 0, .int .i64 0], .bool false]) w :=
  run_assert_nil _ _ _ Tryz.underlying255 (fun _ h => by cases h) (by kernel_rfl)
@[go_sem] theorem ta_heap_thing (T' : TypeId) (v : Value) (w : World) : (Instr.typeAssert (.iface T' v) 20 270 true).run Tryz.prog w = .ok (.tuple (if T' = 270 then #[v, .bool true] else #[.agg #[.int .i64 0, .int .i64 0, .slice none 0 0], .bool false])) w :=
  run_assert_iface _ _ _ _ _ Tryz.underlying270 (fun _ h => by cases h) (by kernel_rfl)
@[go_sem] theorem tn_heap_thing (w : World) : (Instr.typeAssert .nilIface 20 270 true).run Tryz.prog w = .ok (.tuple #[.agg #[.int .i64 0, .int .i64 0, .slice none 0 0], .bool false]) w :=
  run_assert_nil _ _ _ Tryz.underlying270 (fun _ h => by cases h) (by kernel_rfl)
@[go_sem] theorem ta_heap_box (T' : TypeId) (v : Value) (w : World) : (Instr.typeAssert (.iface T' v) 20 302 true).run Tryz.prog w = .ok (.tuple (if T' = 302 then #[v, .bool true] else #[.agg #[.int .i64 0, .int .i64 0, .slice none 0 0], .bool false])) w :=
  run_assert_iface _ _ _ _ _ Tryz.underlying302 (fun _ h => by cases h) (by kernel_rfl)
@[go_sem] theorem tn_heap_box (w : World) : (Instr.typeAssert .nilIface 20 302 true).run Tryz.prog w = .ok (.tuple #[.agg #[.int .i64 0, .int .i64 0, .slice none 0 0], .bool false]) w :=
  run_assert_nil _ _ _ Tryz.underlying302 (fun _ h => by cases h) (by kernel_rfl)
@[go_sem] theorem ta_view_words (T' : TypeId) (v : Value) (w : World) : (Instr.typeAssert (.iface T' v) 20 168 true).run Tryz.prog w = .ok (.tuple (if T' = 168 then #[v, .bool true] else #[.slice none 0 0, .bool false])) w :=
  run_assert_iface _ _ _ _ _ Tryz.underlying168 (fun _ h => by cases h) (by kernel_rfl)
@[go_sem] theorem tn_view_words (w : World) : (Instr.typeAssert .nilIface 20 168 true).run Tryz.prog w = .ok (.tuple #[.slice none 0 0, .bool false]) w :=
  run_assert_nil _ _ _ Tryz.underlying168 (fun _ h => by cases h) (by kernel_rfl)
@[go_sem] theorem ta_ring_room (T' : TypeId) (v : Value) (w : World) : (Instr.typeAssert (.iface T' v) 20 201 true).run Tryz.prog w = .ok (.tuple (if T' = 201 then #[v, .bool true] else #[.agg #[.int .i64 0, .int .i64 0, .int .i64 0, .int .i64 0], .bool false])) w :=
  run_assert_iface _ _ _ _ _ Tryz.underlying201 (fun _ h => by cases h) (by kernel_rfl)
@[go_sem] theorem tn_ring_room (w : World) : (Instr.typeAssert .nilIface 20 201 true).run Tryz.prog w = .ok (.tuple #[.agg #[.int .i64 0, .int .i64 0, .int .i64 0, .int .i64 0], .bool false]) w :=
  run_assert_nil _ _ _ Tryz.underlying201 (fun _ h => by cases h) (by kernel_rfl)
@[go_sem] theorem ta_api_Sudog (T' : TypeId) (v : Value) (w : World) : (Instr.typeAssert (.iface T' v) 20 36 true).run Tryz.prog w = .ok (.tuple (if T' = 36 then #[v, .bool true] else #[.agg #[.int .i64 0, .int .i64 0, .int .i64 0, .int .i64 0, .int .i64 0, .int .i64 0, .int .i64 0], .bool false])) w :=
  run_assert_iface _ _ _ _ _ Tryz.underlying36 (fun _ h => by cases h) (by kernel_rfl)
@[go_sem] theorem tn_api_Sudog (w : World) : (Instr.typeAssert .nilIface 20 36 true).run Tryz.prog w = .ok (.tuple #[.agg #[.int .i64 0, .int .i64 0, .int .i64 0, .int .i64 0, .int .i64 0, .int .i64 0, .int .i64 0], .bool false]) w :=
  run_assert_nil _ _ _ Tryz.underlying36 (fun _ h => by cases h) (by kernel_rfl)
@[go_sem] theorem ta_mouth_Nothing (T' : TypeId) (v : Value) (w : World) : (Instr.typeAssert (.iface T' v) 20 188 true).run Tryz.prog w = .ok (.tuple (if T' = 188 then #[v, .bool true] else #[.agg #[], .bool false])) w :=
  run_assert_iface _ _ _ _ _ Tryz.underlying188 (fun _ h => by cases h) (by kernel_rfl)
@[go_sem] theorem tn_mouth_Nothing (w : World) : (Instr.typeAssert .nilIface 20 188 true).run Tryz.prog w = .ok (.tuple #[.agg #[], .bool false]) w :=
  run_assert_nil _ _ _ Tryz.underlying188 (fun _ h => by cases h) (by kernel_rfl)
@[go_sem] theorem ta_mouth_Channel (T' : TypeId) (v : Value) (w : World) : (Instr.typeAssert (.iface T' v) 20 190 true).run Tryz.prog w = .ok (.tuple (if T' = 190 then #[v, .bool true] else #[.int .i64 0, .bool false])) w :=
  run_assert_iface _ _ _ _ _ Tryz.underlying190 (fun _ h => by cases h) (by kernel_rfl)
@[go_sem] theorem tn_mouth_Channel (w : World) : (Instr.typeAssert .nilIface 20 190 true).run Tryz.prog w = .ok (.tuple #[.int .i64 0, .bool false]) w :=
  run_assert_nil _ _ _ Tryz.underlying190 (fun _ h => by cases h) (by kernel_rfl)
@[go_sem] theorem ta_choose_sends (T' : TypeId) (v : Value) (w : World) : (Instr.typeAssert (.iface T' v) 20 287 true).run Tryz.prog w = .ok (.tuple (if T' = 287 then #[v, .bool true] else #[.agg #[.int .i64 0], .bool false])) w :=
  run_assert_iface _ _ _ _ _ Tryz.underlying287 (fun _ h => by cases h) (by kernel_rfl)
@[go_sem] theorem tn_choose_sends (w : World) : (Instr.typeAssert .nilIface 20 287 true).run Tryz.prog w = .ok (.tuple #[.agg #[.int .i64 0], .bool false]) w :=
  run_assert_nil _ _ _ Tryz.underlying287 (fun _ h => by cases h) (by kernel_rfl)
@[go_sem] theorem ta_choose_takes (T' : TypeId) (v : Value) (w : World) : (Instr.typeAssert (.iface T' v) 20 288 true).run Tryz.prog w = .ok (.tuple (if T' = 288 then #[v, .bool true] else #[.agg #[.int .i64 0], .bool false])) w :=
  run_assert_iface _ _ _ _ _ Tryz.underlying288 (fun _ h => by cases h) (by kernel_rfl)
@[go_sem] theorem tn_choose_takes (w : World) : (Instr.typeAssert .nilIface 20 288 true).run Tryz.prog w = .ok (.tuple #[.agg #[.int .i64 0], .bool false]) w :=
  run_assert_nil _ _ _ Tryz.underlying288 (fun _ h => by cases h) (by kernel_rfl)
@[go_sem] theorem ta_choose_other (T' : TypeId) (v : Value) (w : World) : (Instr.typeAssert (.iface T' v) 20 229 true).run Tryz.prog w = .ok (.tuple (if T' = 229 then #[v, .bool true] else #[.agg #[], .bool false])) w :=
  run_assert_iface _ _ _ _ _ Tryz.underlying229 (fun _ h => by cases h) (by kernel_rfl)
@[go_sem] theorem tn_choose_other (w : World) : (Instr.typeAssert .nilIface 20 229 true).run Tryz.prog w = .ok (.tuple #[.agg #[], .bool false]) w :=
  run_assert_nil _ _ _ Tryz.underlying229 (fun _ h => by cases h) (by kernel_rfl)
@[go_sem] theorem ta_store_kept (T' : TypeId) (v : Value) (w : World) : (Instr.typeAssert (.iface T' v) 20 280 true).run Tryz.prog w = .ok (.tuple (if T' = 280 then #[v, .bool true] else #[.agg #[.int .i64 0], .bool false])) w :=
  run_assert_iface _ _ _ _ _ Tryz.underlying280 (fun _ h => by cases h) (by kernel_rfl)
@[go_sem] theorem tn_store_kept (w : World) : (Instr.typeAssert .nilIface 20 280 true).run Tryz.prog w = .ok (.tuple #[.agg #[.int .i64 0], .bool false]) w :=
  run_assert_nil _ _ _ Tryz.underlying280 (fun _ h => by cases h) (by kernel_rfl)

/-! ### Numbers -/
theorem and_one (x : Int) : bits .and .i64 x 1 = x % 2 := by
  unfold bits
  simp only []
  have h1 : (BitVec.ofInt IntKind.i64.bits x &&& BitVec.ofInt IntKind.i64.bits 1).toNat = (x % 2).toNat := by
    show (BitVec.ofInt 64 x &&& BitVec.ofInt 64 1).toNat = _
    rw [BitVec.toNat_and, BitVec.toNat_ofInt, BitVec.toNat_ofInt]
    show Nat.land _ 1 = _
    have : ∀ n : Nat, Nat.land n 1 = n % 2 := fun n => Nat.and_one_is_mod n
    rw [this]
    omega
  rw [h1]
  have h2 : ((x % 2).toNat : Int) = x % 2 := by omega
  rw [h2]
  rcases (by omega : x % 2 = 0 ∨ x % 2 = 1) with h | h <;> rw [h] <;> decide

theorem ret_eq {a b : Value} (h : a = b) : Ending.returned a = .returned b := by rw [h]

/-! ### Blocks -/
/-- Block b holds just these cells, and may be written. -/
def Blk (w : World) (b : Nat) (vs : List Value) : Prop := ∃ t, w.heap[b]? = some (.cells vs.toArray t (0, 0))
theorem Blk.lt {w : World} {b : Nat} {vs : List Value} (h : Blk w b vs) : b < w.heap.size := by
  obtain ⟨t, h⟩ := h; exact (Array.getElem?_eq_some_iff.1 h).1
theorem Blk.cell {w : World} {b : Nat} {vs : List Value} (h : Blk w b vs) (i : Nat) : w.cell? ⟨b, i, none⟩ = vs[i]? := by
  obtain ⟨t, h⟩ := h; simp [World.cell?, h]
theorem Blk.free {w : World} {b : Nat} {vs : List Value} (h : Blk w b vs) (i : Nat) : w.frozen? ⟨b, i, none⟩ = false := by
  obtain ⟨t, h⟩ := h; simp [World.frozen?, h]
theorem Blk.keep {w w' : World} {b : Nat} {vs : List Value} (h : Blk w b vs) (hk : w'.heap[b]? = w.heap[b]?) : Blk w' b vs := by
  obtain ⟨t, h⟩ := h; exact ⟨t, hk.trans h⟩
theorem Blk.set {w : World} {b : Nat} {vs : List Value} (h : Blk w b vs) (i : Nat) (v : Value) : Blk (w.setCell ⟨b, i, none⟩ v) b (vs.set i v) := by
  obtain ⟨t, h⟩ := h
  refine ⟨t, ?_⟩
  have hlt := (Array.getElem?_eq_some_iff.1 h).1
  have h' : w.heap[b] = .cells vs.toArray t (0, 0) := by simpa [Array.getElem?_eq_getElem hlt] using h
  show (w.heap.modify b _)[b]? = _
  rw [Array.getElem?_eq_getElem (by simpa using hlt), Array.getElem_modify_self, h']
  simp
theorem Blk.set_other {w : World} {b c : Nat} {vs : List Value} (h : Blk w b vs) (hn : b ≠ c) (i : Nat) (v : Value) : Blk (w.setCell ⟨c, i, none⟩ v) b vs :=
  h.keep (Below.heap_setCell _ _ _ _ hn)
theorem Blk.alloc {w : World} {b : Nat} {vs : List Value} (h : Blk w b vs) (o : Obj) : Blk (w.alloc o) b vs := h.keep (Below.heap_alloc _ _ _ h.lt)
theorem Blk.new (w : World) (vs : List Value) (t : TypeId) : Blk (w.alloc (.cells vs.toArray t)) w.heap.size vs := ⟨t, heap_alloc_new w _⟩
theorem Blk.drew {w : World} {b : Nat} {vs : List Value} (h : Blk w b vs) : Blk w.drew b vs := h

/-! ### A step of the world that turns only what one owner has -/
/-- From w to w' only blocks of S have turned (and new ones were laid); what the owner has behind it, S', it had, or it is new. -/
structure Stp (S S' : List Nat) (w w' : World) : Prop where
  os : w'.os = w.os
  tape : w'.tape = w.tape
  output : w'.output = w.output
  size : w.heap.size ≤ w'.heap.size
  block : ∀ b, b < w.heap.size → b ∉ S → w'.heap[b]? = w.heap[b]?
  own : ∀ b, b ∈ S' → b ∈ S ∨ w.heap.size ≤ b
theorem Stp.refl (S : List Nat) (w : World) : Stp S S w w := ⟨rfl, rfl, rfl, Nat.le_refl _, fun _ _ _ => rfl, fun _ h => .inl h⟩
theorem Stp.trans {S S1 S2 : List Nat} {w w1 w2 : World} (h : Stp S S1 w w1) (k : Stp S1 S2 w1 w2) : Stp S S2 w w2 := by
  refine ⟨k.os.trans h.os, k.tape.trans h.tape, k.output.trans h.output, Nat.le_trans h.size k.size, fun b hb hn => ?_, fun b hb => ?_⟩
  · refine (k.block b (Nat.lt_of_lt_of_le hb h.size) fun e => ?_).trans (h.block b hb hn)
    rcases h.own b e with e | e
    · exact hn e
    · omega
  · rcases k.own b hb with e | e
    · exact h.own b e
    · exact .inr (Nat.le_trans h.size e)
theorem Stp.below {S : List Nat} {w w' : World} (h : Below w.heap.size w w') : Stp S S w w' :=
  ⟨h.os, h.tape, h.output, h.size, fun b hb _ => h.block b hb, fun _ h => .inl h⟩
theorem Stp.toBelow {S' : List Nat} {w w' : World} (h : Stp [] S' w w') : Below w.heap.size w w' :=
  ⟨h.os, h.tape, h.output, h.size, fun b hb => h.block b hb (by simp)⟩
theorem Stp.set {S : List Nat} {w : World} {b : Nat} (hb : b ∈ S) (i : Nat) (v : Value) : Stp S S w (w.setCell ⟨b, i, none⟩ v) :=
  ⟨rfl, rfl, rfl, by simp, fun c _ hn => Below.heap_setCell _ _ _ _ (fun e => hn (e ▸ hb)), fun _ h => .inl h⟩
theorem Stp.alloc (S : List Nat) (w : World) (o : Obj) : Stp S S w (w.alloc o) := Stp.below ((Below.refl _ _).alloc (Nat.le_refl _) _)
theorem Stp.drew (S : List Nat) (w : World) : Stp S S w w.drew := Stp.below (Below.refl _ _).drew
theorem Stp.mono {S S' T : List Nat} {w w' : World} (h : Stp S S' w w') (hs : ∀ b, b ∈ S → b ∈ T) : Stp T S' w w' :=
  ⟨h.os, h.tape, h.output, h.size, fun b hb hn => h.block b hb (fun e => hn (hs b e)), fun b hb => (h.own b hb).imp (hs b) id⟩

theorem Stp.sub {S : List Nat} {w w' : World} (h : Stp S S w w') {T : List Nat} (hs : ∀ b ∈ S, b ∈ T) : Stp T T w w' :=
  ⟨h.os, h.tape, h.output, h.size, fun b hb hn => h.block b hb (fun e => hn (hs b e)), fun _ hb => .inl hb⟩

/-! ### Rows of the call's own -/
/-- As the base's law on an append to a row of one's own; and the row lies where it lay, or in a new block. -/
theorem run_append2 {P : Program} (w : World) (base : Nat) (t ty e : TypeId) (i : TypeInfo) (z : Value) (size bytes : Nat) (ht : P.underlying t = some (.slice e)) (hi : P.info? e = some i) (hz : i.zero = some z)
    (hsize : i.size = size) (hby : i.bytes = bytes) (hzs : z.cells.size = size) (hsz : 0 < size)
    (v : Value) (n : Nat) (xs : List Value) (hown : w.ownsRow base e size v n xs)
    (a : Addr) (m c : Nat) (news : List Value) (hl : news.length = m * size) (hnews : ∀ j u, news[j]? = some u → w.cell? (a.add j) = some u) (h1 : ∀ u ∈ news, u.oneCell' = true)
    (h63 : n + m ≤ maxLen) (hbytes : (n + m) * bytes ≤ 140737488355328) (hbase : base ≤ w.heap.size) :
    ∃ v' w', (Builtin.append_ #[t, t] ty #[v, .slice (some a) m c]).run P w = .ok v' w' ∧ w'.ownsRow base e size v' (n + m) (xs ++ news) ∧ w.grownBy w' v.ownBlock ∧ (v'.ownBlock = v.ownBlock ∨ v'.ownBlock = some w.heap.size) := by
  obtain ⟨v', w', hr, h2, h3, _⟩ := run_append_own (P := P) w base t ty e i z size bytes ht hi hz hsize hby hzs hsz v n xs hown a m c news hl hnews h1 h63 hbytes hbase
  refine ⟨v', w', hr, h2, h3, ?_⟩
  have hmax : n + m ≤ 9223372036854775807 := by simp only [maxLen] at h63; omega
  subst hsize
  subst hby
  have hcells : ∀ {g : Nat}, v.ownBlock = some g → ∀ j u, xs[j]? = some u → w.cell? ((⟨g, 0, none⟩ : Addr).add j) = some u := fun hg => hown.cells hg
  obtain ⟨hx, ⟨rfl, rfl⟩ | ⟨g, cap, cur, rfl, hbg, hg, hnc, hcm, hcs, htake⟩⟩ := hown
  · by_cases hm : m = 0
    · subst hm
      have hn : news = [] := List.eq_nil_of_length_eq_zero (by simpa using hl)
      subst hn
      have : (Builtin.append_ #[t, t] ty #[.slice none 0 0, .slice (some a) 0 c]).run P w = .ok (.slice none 0 0) w := by
        simp [Builtin.append_, run_underlying ht, sizeOf, typeInfo, hi, Builtin.lenOf, Builtin.firstCells, loadCells, loadCellsFrom]
      rw [this] at hr
      cases hr
      exact .inl rfl
    · rw [run_append_nil (P := P) w t ty e i z ht hi hz a m c news hl hnews (by omega) (by omega) (by simp only [Nat.zero_add] at hbytes; omega)] at hr
      cases hr
      exact .inr rfl
  · by_cases hroom : n + m ≤ cap
    · rw [run_append_room (P := P) w t ty e i ht hi g n cap cur hg a m c news hl hnews h1 hroom (by rw [hl, hcs, ← Nat.add_mul]; exact Nat.mul_le_mul_right _ hroom)] at hr
      cases hr
      exact .inl rfl
    · rw [run_append_grow (P := P) w t ty e i z ht hi hz ⟨g, 0, none⟩ n cap xs hx (hcells (g := g) rfl) a m c news hl hnews (by omega) (by omega) (growslice_fits (by omega) hbytes)] at hr
      cases hr
      exact .inr rfl
theorem wpList_append2 {P : Program} {w : World} {ops : Array Oper} {rest : List Oper} {o : Oper} {a : Act} {Q : Exit → Act → World → Prop} (hgd : o.guard = none) (s x : Operand) (t : TypeId)
    (ho : o.op = .call { callee := .builtin .append, args := #[s, x], argTypes := #[t, t] })
    (base : Nat) (e : TypeId) (z : Value) (size bytes : Nat) (ht : P.underlying t = some (.slice e)) (hi : (P.info? e).map (fun i => (i.zero, i.size, i.bytes)) = some (some z, size, bytes))
    (hzs : z.cells.size = size) (hsz : 0 < size)
    (v : Value) (n : Nat) (xs : List Value) (hs : a.eval s = v) (hown : w.ownsRow base e size v n xs)
    (ad : Addr) (m c : Nat) (news : List Value) (hx : a.eval x = .slice (some ad) m c) (hl : news.length = m * size) (hnews : ∀ j u, news[j]? = some u → w.cell? (ad.add j) = some u) (h1 : ∀ u ∈ news, u.oneCell' = true)
    (h63 : n + m ≤ maxLen) (hbytes : (n + m) * bytes ≤ 140737488355328) (hbase : base ≤ w.heap.size)
    (h : ∀ v' w', w'.ownsRow base e size v' (n + m) (xs ++ news) → w.grownBy w' v.ownBlock → (v'.ownBlock = v.ownBlock ∨ v'.ownBlock = some w.heap.size) → wpList P ops Q rest (a.put o.dst v') w') : wpList P ops Q (o :: rest) a w := by
  obtain ⟨i0, hi0, hz0, hz1, hz2⟩ := info_parts hi
  obtain ⟨v', w', hr, h2, h3, h4⟩ := run_append2 (P := P) w base t o.type e i0 z size bytes ht hi0 hz0 hz1 hz2 hzs hsz v n xs hown ad m c news hl hnews h1 h63 hbytes hbase
  refine wpList_plain hgd fun K hK => ?_
  unfold Oper.wp execOp
  simp only [ho, resolve, invoke, builtin, Sem.run_bind, Sem.run_pure, Result.andThen_ok, List.map_toArray, List.map_cons, List.map_nil, hs, hx, hr]
  exact hK _ _ (h v' w' h2 h3 h4)

theorem own_form {w : World} {base : Nat} {e : TypeId} {size : Nat} {v : Value} {n : Nat} {xs : List Value} (h : w.ownsRow base e size v n xs) : ∃ o c, v = .slice o n c := by
  obtain ⟨_, ⟨hv, hn⟩ | ⟨g, cap, cur, hv, _⟩⟩ := h
  · exact ⟨none, 0, by rw [hv, hn]⟩
  · exact ⟨_, _, hv⟩
theorem undrew {w w' : World} (h : Below w.drew.heap.size w.drew w') : Below w.heap.size w w' := ⟨h.os, h.tape, h.output, h.size, h.block⟩
theorem frozen_later {w wx : World} {a : Addr} {v : Value} (hb : Below w.heap.size w wx) (h : w.cell? a = some v) (hf : w.frozen? a = false) : wx.frozen? a = false := by
  rw [hb.frozen (World.block_lt_of_cell? w a h)]; exact hf
end Go.Proofs.YtcnppdbgieaddaaGreat

namespace Go.Proofs.YtcnppdbgieaddaaGreat
open Go.RowKit
set_option linter.unusedVariables false

/-- An int of Go's. -/
def I64 (x : Int) : Prop := -9223372036854775808 ≤ x ∧ x ≤ 9223372036854775807
abbrev iv (x : Int) : Value := .int .i64 x

/-- The word of a number, of a place; is it a place's; the number, the place. -/
def intW (v : Int) : Int := wrap64 (2 * v)
def ptrW (a : Int) : Int := wrap64 (wrap64 (2 * a) + 1)
def isP (w : Int) : Bool := w % 2 == 1
def numW (w : Int) : Int := if w % 2 = 1 then 0 else w / 2
def atW (w : Int) : Int := if w % 2 = 1 then (w - 1) / 2 else -1

theorem isP_yes {w : Int} (h : w % 2 = 1) : isP w = true := by simp [isP, h]
theorem isP_no {w : Int} (h : ¬ w % 2 = 1) : isP w = false := by simp [isP, h]

/-- value.of -/
def ofW (w : Int) : Value := if w % 2 = 1 then .iface 252 (iv ((w - 1) / 2)) else .iface 249 (iv (w / 2))

theorem tdiv_lo {x : Int} (h : x % 2 = 1) : (x - 1).tdiv 2 = (x - 1) / 2 := Int.tdiv_eq_ediv_of_dvd (by omega)
theorem tdiv_ev {x : Int} (h : x % 2 = 0) : x.tdiv 2 = x / 2 := Int.tdiv_eq_ediv_of_dvd (by omega)
theorem of_c (x : Int) (hx : I64 x) (w : World) :
    Calls Tryz.prog 206 #[iv x] w fun e w' => e = .returned (ofW x) ∧ w = w' := by
  obtain ⟨h1, h2⟩ := hx
  by_cases h : x % 2 = 1
  · have e : bits .and .i64 x 1 = 1 := by rw [and_one]; exact h
    have e2 := tdiv_lo h
    go_enter Tryz.func206, Tryz.ntmps206
    go_wp2
    go_ret
    exact ⟨ret_eq (by unfold ofW; rw [if_pos h]; rfl), rfl⟩
  · have h0 : x % 2 = 0 := by omega
    have e : bits .and .i64 x 1 = 0 := by rw [and_one]; exact h0
    have e2 := tdiv_ev h0
    go_enter Tryz.func206, Tryz.ntmps206
    go_wp2
    go_ret
    exact ⟨ret_eq (by unfold ofW; rw [if_neg h]; rfl), rfl⟩

theorem int_c (x : Int) (w : World) : Calls Tryz.prog 112 #[iv x] w fun e w' => e = .returned (iv (intW x)) ∧ w = w' := by
  go_enter Tryz.func112, Tryz.ntmps112
  go_wp2
  go_ret
  exact ⟨rfl, rfl⟩
theorem ptr_c (x : Int) (w : World) : Calls Tryz.prog 201 #[iv x] w fun e w' => e = .returned (iv (ptrW x)) ∧ w = w' := by
  go_enter Tryz.func201, Tryz.ntmps201
  go_wp2
  go_ret
  exact ⟨rfl, rfl⟩

theorem isPtr_c (x : Int) (hx : I64 x) (w : World) : Calls Tryz.prog 141 #[iv x] w fun e w' => e = .returned (.bool (isP x)) ∧ w = w' := by
  have hc := of_c x hx
  by_cases h : x % 2 = 1
  · simp only [ofW, if_pos h] at hc
    have HC := Lib.hid hc; clear hc hx
    go_enter Tryz.func141, Tryz.ntmps141
    go_wp2_with (go_at_call 206; refine (HC.out _).mono ?_; rintro e w' ⟨rfl, rfl⟩)
    go_ret
    exact ⟨ret_eq (by rw [isP_yes h]; rfl), rfl⟩
  · simp only [ofW, if_neg h] at hc
    have HC := Lib.hid hc; clear hc hx
    go_enter Tryz.func141, Tryz.ntmps141
    go_wp2_with (go_at_call 206; refine (HC.out _).mono ?_; rintro e w' ⟨rfl, rfl⟩)
    go_ret
    exact ⟨ret_eq (by rw [isP_no h]; rfl), rfl⟩
theorem num_c (x : Int) (hx : I64 x) (w : World) : Calls Tryz.prog 121 #[iv x] w fun e w' => e = .returned (iv (numW x)) ∧ w = w' := by
  have hc := of_c x hx
  unfold numW
  by_cases h : x % 2 = 1
  · rw [if_pos h]
    simp only [ofW, if_pos h] at hc
    have HC := Lib.hid hc; clear hc hx h
    go_enter Tryz.func121, Tryz.ntmps121
    go_wp2_with (go_at_call 206; refine (HC.out _).mono ?_; rintro e w' ⟨rfl, rfl⟩)
    go_ret
    exact ⟨rfl, rfl⟩
  · rw [if_neg h]
    simp only [ofW, if_neg h] at hc
    have HC := Lib.hid hc; clear hc hx h
    go_enter Tryz.func121, Tryz.ntmps121
    go_wp2_with (go_at_call 206; refine (HC.out _).mono ?_; rintro e w' ⟨rfl, rfl⟩)
    go_ret
    exact ⟨rfl, rfl⟩
theorem at_c (x : Int) (hx : I64 x) (w : World) : Calls Tryz.prog 122 #[iv x] w fun e w' => e = .returned (iv (atW x)) ∧ w = w' := by
  have hc := of_c x hx
  unfold atW
  by_cases h : x % 2 = 1
  · rw [if_pos h]
    simp only [ofW, if_pos h] at hc
    have HC := Lib.hid hc; clear hc hx h
    go_enter Tryz.func122, Tryz.ntmps122
    go_wp2_with (go_at_call 206; refine (HC.out _).mono ?_; rintro e w' ⟨rfl, rfl⟩)
    go_ret
    exact ⟨rfl, rfl⟩
  · rw [if_neg h]
    simp only [ofW, if_neg h] at hc
    have HC := Lib.hid hc; clear hc hx h
    go_enter Tryz.func122, Tryz.ntmps122
    go_wp2_with (go_at_call 206; refine (HC.out _).mono ?_; rintro e w' ⟨rfl, rfl⟩)
    go_ret
    exact ⟨rfl, rfl⟩

/-! ### the references' -/
theorem rint_c (x : Int) (w : World) : Calls Tryz.prog 197 #[iv x] w fun e w' => e = .returned (iv (intW x)) ∧ w = w' := by
  go_enter Tryz.func197, Tryz.ntmps197
  go_wp2
  go_ret
  exact ⟨ret_eq (by unfold intW; rw [Int.mul_comm]; rfl), rfl⟩
theorem rptr_c (x : Int) (w : World) : Calls Tryz.prog 71 #[iv x] w fun e w' => e = .returned (iv (ptrW x)) ∧ w = w' := by
  go_enter Tryz.func71, Tryz.ntmps71
  go_wp2
  go_ret
  exact ⟨ret_eq (by unfold ptrW; rw [Int.mul_comm]; rfl), rfl⟩
theorem risPtr_c (x : Int) (w : World) : Calls Tryz.prog 158 #[iv x] w fun e w' => e = .returned (.bool (isP x)) ∧ w = w' := by
  by_cases h : x % 2 = 1
  · have e : bits .and .i64 x 1 = 1 := by rw [and_one]; exact h
    rw [isP_yes h]
    go_enter Tryz.func158, Tryz.ntmps158
    go_wp2
    go_ret
    exact ⟨rfl, rfl⟩
  · have e : bits .and .i64 x 1 = 0 := by rw [and_one]; omega
    rw [isP_no h]
    go_enter Tryz.func158, Tryz.ntmps158
    go_wp2
    go_ret
    exact ⟨rfl, rfl⟩
theorem rnum_c (x : Int) (hx : I64 x) (w : World) : Calls Tryz.prog 213 #[iv x] w fun e w' => e = .returned (iv (numW x)) ∧ w = w' := by
  obtain ⟨h1, h2⟩ := hx
  have hc := Lib.hid (risPtr_c x)
  unfold numW
  by_cases h : x % 2 = 1
  · rw [isP_yes h] at hc; rw [if_pos h]
    clear h
    go_enter Tryz.func213, Tryz.ntmps213
    go_wp2_with (go_at_call 158; refine (hc.out _).mono ?_; rintro e w' ⟨rfl, rfl⟩)
    go_ret
    exact ⟨rfl, rfl⟩
  · rw [isP_no h] at hc; rw [if_neg h]
    have e2 := tdiv_ev (x := x) (by omega)
    clear h
    go_enter Tryz.func213, Tryz.ntmps213
    go_wp2_with (go_at_call 158; refine (hc.out _).mono ?_; rintro e w' ⟨rfl, rfl⟩)
    go_ret
    exact ⟨rfl, rfl⟩
theorem rat_c (x : Int) (hx : I64 x) (w : World) : Calls Tryz.prog 159 #[iv x] w fun e w' => e = .returned (iv (atW x)) ∧ w = w' := by
  obtain ⟨h1, h2⟩ := hx
  have hc := Lib.hid (risPtr_c x)
  unfold atW
  by_cases h : x % 2 = 1
  · rw [isP_yes h] at hc; rw [if_pos h]
    have h3 : -9223372036854775807 ≤ x := by omega
    have e2 := tdiv_lo h
    clear h
    go_enter Tryz.func159, Tryz.ntmps159
    go_wp2_with (go_at_call 158; refine (hc.out _).mono ?_; rintro e w' ⟨rfl, rfl⟩)
    go_ret
    exact ⟨rfl, rfl⟩
  · rw [isP_no h] at hc; rw [if_neg h]
    clear h
    go_enter Tryz.func159, Tryz.ntmps159
    go_wp2_with (go_at_call 158; refine (hc.out _).mono ?_; rintro e w' ⟨rfl, rfl⟩)
    go_ret
    exact ⟨rfl, rfl⟩
end Go.Proofs.YtcnppdbgieaddaaGreat

namespace Go.Proofs.YtcnppdbgieaddaaGreat
open Go.RowKit
set_option linter.unusedVariables false

theorem below_iter (w : World) (s : ByteArray) (p : Nat) : Below w.heap.size w (w.iter s p) := (Below.refl _ _).alloc (Nat.le_refl _) _

/-- How many words a class has; the least class of so many; how many of a class are in a span. -/
def wordsC (c : Int) : Int := if c = 0 then 4 else if c = 1 then 8 else if c = 2 then 16 else if c = 3 then 32 else 0
def classC (n : Int) : Int × Bool := if n < 0 then (0, false) else if n < 4 then (0, true) else if n < 8 then (1, true) else if n < 16 then (2, true) else if n < 32 then (3, true) else (0, false)
def slotsC (c : Int) : Int := if c = 0 then 8 else if c = 1 then 4 else if c = 2 then 2 else if c = 3 then 1 else 0

abbrev sizesS : ByteArray := { data := #[4, 8, 16, 32] }
theorem next0 (w : World) (ty : TypeId) : (Instr.next (.pointer (some ⟨w.heap.size, 0, none⟩)) true ty).run Tryz.prog (w.iter sizesS 0) = .ok (.tuple #[.bool true, .int .i64 0, .int .i32 4]) (w.iter sizesS 1) := run_next_ascii w sizesS 0 ty (by decide) (by decide)
theorem next1 (w : World) (ty : TypeId) : (Instr.next (.pointer (some ⟨w.heap.size, 0, none⟩)) true ty).run Tryz.prog (w.iter sizesS 1) = .ok (.tuple #[.bool true, .int .i64 1, .int .i32 8]) (w.iter sizesS 2) := run_next_ascii w sizesS 1 ty (by decide) (by decide)
theorem next2 (w : World) (ty : TypeId) : (Instr.next (.pointer (some ⟨w.heap.size, 0, none⟩)) true ty).run Tryz.prog (w.iter sizesS 2) = .ok (.tuple #[.bool true, .int .i64 2, .int .i32 16]) (w.iter sizesS 3) := run_next_ascii w sizesS 2 ty (by decide) (by decide)
theorem next3 (w : World) (ty : TypeId) : (Instr.next (.pointer (some ⟨w.heap.size, 0, none⟩)) true ty).run Tryz.prog (w.iter sizesS 3) = .ok (.tuple #[.bool true, .int .i64 3, .int .i32 32]) (w.iter sizesS 4) := run_next_ascii w sizesS 3 ty (by decide) (by decide)
theorem next4 (w : World) (ty : TypeId) : (Instr.next (.pointer (some ⟨w.heap.size, 0, none⟩)) true ty).run Tryz.prog (w.iter sizesS 4) = .ok (.tuple #[.bool false]) (w.iter sizesS 4) := run_next_end w sizesS 4 ty (by decide)

theorem words_c (c : Int) (w : World) : Calls Tryz.prog 231 #[iv c] w fun e w' => e = .returned (iv (wordsC c)) ∧ Below w.heap.size w w' := by
  go_enter Tryz.func231, Tryz.ntmps231
  go_wp2_with fail
  go_loopw [] (fun wr => (wr = w.iter sizesS 0) ∨ (wr = w.iter sizesS 1 ∧ c ≠ 0) ∨ (wr = w.iter sizesS 2 ∧ c ≠ 0 ∧ c ≠ 1) ∨ (wr = w.iter sizesS 3 ∧ c ≠ 0 ∧ c ≠ 1 ∧ c ≠ 2) ∨ (wr = w.iter sizesS 4 ∧ c ≠ 0 ∧ c ≠ 1 ∧ c ≠ 2 ∧ c ≠ 3)) (fun wr => 4 - wr.iterPos w.heap.size)
  case atStart => exact .inl rfl
  case round =>
    rcases hrel with rfl | ⟨rfl, g0⟩ | ⟨rfl, g0, g1⟩ | ⟨rfl, g0, g1, g2⟩ | ⟨rfl, g0, g1, g2, g3⟩
    · have hn := next0 w
      by_cases e : c = 0
      · subst e
        go_wp2
        go_ret
        exact ⟨rfl, below_iter _ _ _⟩
      · have e1 : ((0 : Int) == c) = false := by simp; omega
        go_wp2
        go_roundw
        case rel => exact .inr (.inl ⟨trivial, e⟩)
        case measure => simp
    · have hn := next1 w
      by_cases e : c = 1
      · subst e
        go_wp2
        go_ret
        exact ⟨rfl, below_iter _ _ _⟩
      · have e1 : ((1 : Int) == c) = false := by simp; omega
        go_wp2
        go_roundw
        case rel => exact .inr (.inr (.inl ⟨trivial, g0, e⟩))
        case measure => simp
    · have hn := next2 w
      by_cases e : c = 2
      · subst e
        go_wp2
        go_ret
        exact ⟨rfl, below_iter _ _ _⟩
      · have e1 : ((2 : Int) == c) = false := by simp; omega
        go_wp2
        go_roundw
        case rel => exact .inr (.inr (.inr (.inl ⟨trivial, g0, g1, e⟩)))
        case measure => simp
    · have hn := next3 w
      by_cases e : c = 3
      · subst e
        go_wp2
        go_ret
        exact ⟨rfl, below_iter _ _ _⟩
      · have e1 : ((3 : Int) == c) = false := by simp; omega
        go_wp2
        go_roundw
        case rel => exact .inr (.inr (.inr (.inr ⟨trivial, g0, g1, g2, e⟩)))
        case measure => simp
    · have hn := next4 w
      have hr : Hid (wordsC c = 0) := by simp [Hid, wordsC, g0, g1, g2, g3]
      clear g0 g1 g2 g3
      go_wp2
      go_ret
      exact ⟨ret_eq (by rw [hr.out]; rfl), below_iter _ _ _⟩

theorem class_c (n : Int) (w : World) : Calls Tryz.prog 230 #[iv n] w fun e w' => e = .returned (.tuple #[iv (classC n).1, .bool (classC n).2]) ∧ Below w.heap.size w w' := by
  go_enter Tryz.func230, Tryz.ntmps230
  go_wp2_with fail
  go_loopw [] (fun wr => (wr = w.iter sizesS 0) ∨ (wr = w.iter sizesS 1 ∧ (n < 0 ∨ 4 ≤ n)) ∨ (wr = w.iter sizesS 2 ∧ (n < 0 ∨ 8 ≤ n)) ∨ (wr = w.iter sizesS 3 ∧ (n < 0 ∨ 16 ≤ n)) ∨ (wr = w.iter sizesS 4 ∧ (n < 0 ∨ 32 ≤ n))) (fun wr => 4 - wr.iterPos w.heap.size)
  case atStart => exact .inl rfl
  case round =>
    rcases hrel with rfl | ⟨rfl, g⟩ | ⟨rfl, g⟩ | ⟨rfl, g⟩ | ⟨rfl, g⟩
    · have hn := next0 w
      by_cases e0 : 0 ≤ n
      · by_cases e : n < 4
        · have hr : Hid (classC n = (0, true)) := by skip; unfold Hid classC; rw [if_neg (by omega)]; rw [if_pos (by omega)]
          skip
          go_wp2
          go_ret2
          exact ⟨ret_eq (by rw [hr.out]; rfl), below_iter _ _ _⟩
        · have e' : 4 ≤ n := by omega
          skip
          go_wp2
          go_roundw
          case rel => exact .inr (.inl ⟨trivial, .inr e'⟩)
          case measure => simp
      · skip
        go_wp2
        go_roundw
        case rel => exact .inr (.inl ⟨trivial, .inl (by omega)⟩)
        case measure => simp
    · have hn := next1 w
      by_cases e0 : 0 ≤ n
      · by_cases e : n < 8
        · have hr : Hid (classC n = (1, true)) := by have : 4 ≤ n := (by omega); unfold Hid classC; rw [if_neg (by omega)]; rw [if_neg (by omega)]; rw [if_pos (by omega)]
          clear g
          go_wp2
          go_ret2
          exact ⟨ret_eq (by rw [hr.out]; rfl), below_iter _ _ _⟩
        · have e' : 8 ≤ n := by omega
          clear g
          go_wp2
          go_roundw
          case rel => exact .inr (.inr (.inl ⟨trivial, .inr e'⟩))
          case measure => simp
      · clear g
        go_wp2
        go_roundw
        case rel => exact .inr (.inr (.inl ⟨trivial, .inl (by omega)⟩))
        case measure => simp
    · have hn := next2 w
      by_cases e0 : 0 ≤ n
      · by_cases e : n < 16
        · have hr : Hid (classC n = (2, true)) := by have : 8 ≤ n := (by omega); unfold Hid classC; rw [if_neg (by omega)]; rw [if_neg (by omega)]; rw [if_neg (by omega)]; rw [if_pos (by omega)]
          clear g
          go_wp2
          go_ret2
          exact ⟨ret_eq (by rw [hr.out]; rfl), below_iter _ _ _⟩
        · have e' : 16 ≤ n := by omega
          clear g
          go_wp2
          go_roundw
          case rel => exact .inr (.inr (.inr (.inl ⟨trivial, .inr e'⟩)))
          case measure => simp
      · clear g
        go_wp2
        go_roundw
        case rel => exact .inr (.inr (.inr (.inl ⟨trivial, .inl (by omega)⟩)))
        case measure => simp
    · have hn := next3 w
      by_cases e0 : 0 ≤ n
      · by_cases e : n < 32
        · have hr : Hid (classC n = (3, true)) := by have : 16 ≤ n := (by omega); unfold Hid classC; rw [if_neg (by omega)]; rw [if_neg (by omega)]; rw [if_neg (by omega)]; rw [if_neg (by omega)]; rw [if_pos (by omega)]
          clear g
          go_wp2
          go_ret2
          exact ⟨ret_eq (by rw [hr.out]; rfl), below_iter _ _ _⟩
        · have e' : 32 ≤ n := by omega
          clear g
          go_wp2
          go_roundw
          case rel => exact .inr (.inr (.inr (.inr ⟨trivial, .inr e'⟩)))
          case measure => simp
      · clear g
        go_wp2
        go_roundw
        case rel => exact .inr (.inr (.inr (.inr ⟨trivial, .inl (by omega)⟩)))
        case measure => simp
    · have hn := next4 w
      have hr : Hid (classC n = (0, false)) := by
        unfold Hid classC
        by_cases e : n < 0
        · rw [if_pos e]
        · rw [if_neg e, if_neg (by omega), if_neg (by omega), if_neg (by omega), if_neg (by omega)]
      clear g
      go_wp2
      go_ret2
      exact ⟨ret_eq (by rw [hr.out]; rfl), below_iter _ _ _⟩

theorem slots_c (c : Int) (w : World) : Calls Tryz.prog 253 #[iv c] w fun e w' => e = .returned (iv (slotsC c)) ∧ Below w.heap.size w w' := by
  have hc := words_c c
  unfold wordsC at hc
  unfold slotsC
  by_cases e0 : c = 0
  · subst e0
    simp only [if_true] at hc ⊢
    have HC := Lib.hid hc; clear hc
    go_enter Tryz.func253, Tryz.ntmps253
    go_wp2_with (go_at_call 231; refine (HC.out _).mono ?_; rintro e w' ⟨rfl, hb⟩)
    go_ret
    exact ⟨rfl, hb⟩
  rw [if_neg e0] at hc ⊢
  by_cases e1 : c = 1
  · subst e1
    simp only [if_true] at hc ⊢
    have HC := Lib.hid hc; clear hc e0
    go_enter Tryz.func253, Tryz.ntmps253
    go_wp2_with (go_at_call 231; refine (HC.out _).mono ?_; rintro e w' ⟨rfl, hb⟩)
    go_ret
    exact ⟨rfl, hb⟩
  rw [if_neg e1] at hc ⊢
  by_cases e2 : c = 2
  · subst e2
    simp only [if_true] at hc ⊢
    have HC := Lib.hid hc; clear hc e0 e1
    go_enter Tryz.func253, Tryz.ntmps253
    go_wp2_with (go_at_call 231; refine (HC.out _).mono ?_; rintro e w' ⟨rfl, hb⟩)
    go_ret
    exact ⟨rfl, hb⟩
  rw [if_neg e2] at hc ⊢
  by_cases e3 : c = 3
  · subst e3
    simp only [if_true] at hc ⊢
    have HC := Lib.hid hc; clear hc e0 e1 e2
    go_enter Tryz.func253, Tryz.ntmps253
    go_wp2_with (go_at_call 231; refine (HC.out _).mono ?_; rintro e w' ⟨rfl, hb⟩)
    go_ret
    exact ⟨rfl, hb⟩
  rw [if_neg e3] at hc ⊢
  have HC := Lib.hid hc; clear hc e0 e1 e2 e3
  go_enter Tryz.func253, Tryz.ntmps253
  go_wp2_with (go_at_call 231; refine (HC.out _).mono ?_; rintro e w' ⟨rfl, hb⟩)
  go_ret
  exact ⟨rfl, hb⟩
end Go.Proofs.YtcnppdbgieaddaaGreat

namespace Go.Proofs.YtcnppdbgieaddaaGreat
open Go.RowKit
set_option linter.unusedVariables false

/-- A row's marks, as a text. -/
def markC (b : Bool) : UInt8 := if b then 120 else 45
def markB (m : List Bool) : ByteArray := ⟨(m.map markC).toArray⟩
theorem markB_size (m : List Bool) : (markB m).size = m.length := by simp [markB, ByteArray.size]
theorem markB_get (m : List Bool) (p : Nat) (h : p < (markB m).size) : (markB m)[p]'h = markC (m[p]'(by rw [markB_size] at h; exact h)) := by
  show (markB m).data[p]'h = _
  simp [markB]
theorem markC_nat (b : Bool) : (markC b).toNat = if b then 120 else 45 := by cases b <;> rfl

def signZ (b : Bool) : Int := if b then 120 else 45
theorem signZ_eq {a b : Bool} (h : a = b) : (signZ a == signZ b) = true := by rw [h]; simp
theorem signZ_ne {a b : Bool} (h : ¬ a = b) : (signZ a == signZ b) = false := by revert h; cases a <;> cases b <;> simp [signZ]
theorem next_mark (w : World) (m : List Bool) (p : Nat) (h : p < m.length) (ty : TypeId) :
    (Instr.next (.pointer (some ⟨w.heap.size, 0, none⟩)) true ty).run Tryz.prog (w.iter (markB m) p) = .ok (.tuple #[.bool true, .int .i64 p, .int .i32 (signZ m[p])]) (w.iter (markB m) (p + 1)) := by
  have hs : p < (markB m).size := by rw [markB_size]; exact h
  have := run_next_ascii (P := Tryz.prog) w (markB m) p ty hs (by rw [markB_get, markC_nat]; split <;> omega)
  rw [this, markB_get, markC_nat]
  cases m[p] <;> rfl
theorem next_mark_end (w : World) (m : List Bool) (ty : TypeId) :
    (Instr.next (.pointer (some ⟨w.heap.size, 0, none⟩)) true ty).run Tryz.prog (w.iter (markB m) m.length) = .ok (.tuple #[.bool false]) (w.iter (markB m) m.length) :=
  run_next_end w (markB m) m.length ty (by rw [markB_size]; omega)

/-- The first slot that is b (used: true). -/
def firstM (b : Bool) : List Bool → Nat → Option Nat
  | [], _ => none
  | c :: l, p => if c = b then some p else firstM b l (p + 1)
def firstA (b : Bool) (m : List Bool) : Int × Bool := match firstM b m 0 with | some p => (p, true) | none => (0, false)

theorem firstM_none {b : Bool} {m : List Bool} : ∀ (p : Nat), (∀ c ∈ m, c ≠ b) → firstM b m p = none := by
  induction m with
  | nil => intros; rfl
  | cons c l ih => intro p h; simp only [firstM]; rw [if_neg (h c (by simp))]; exact ih _ fun c hc => h c (by simp [hc])

abbrev rowV (r : Int × List Bool) : Value := .agg #[iv r.1, .string (markB r.2)]

theorem below_alloc_iter (w : World) (o : Obj) (s : ByteArray) (p : Nat) : Below w.heap.size w ((w.alloc o).iter s p) := (((Below.refl _ _).alloc (Nat.le_refl _) _).alloc (by simp) _)
theorem drop_cons {α : Type} {m : List α} {p : Nat} (h : p < m.length) : m.drop p = m[p] :: m.drop (p + 1) := List.drop_eq_getElem_cons h

theorem first_c (r : Int × List Bool) (hm : r.2.length ≤ 8) (b : Bool) (w : World) :
    Calls Tryz.prog 254 #[rowV r, .int .i32 (signZ b)] w fun e w' => e = .returned (.tuple #[iv (firstA b r.2).1, .bool (firstA b r.2).2]) ∧ Below w.heap.size w w' := by
  obtain ⟨c, m⟩ := r
  simp only at hm ⊢
  go_enter Tryz.func254, Tryz.ntmps254
  go_wp2_with fail
  go_loopw [] (fun wr => ∃ p, p ≤ m.length ∧ wr = (w.alloc (Obj.cells #[iv c, Value.string (markB m)] 305)).iter (markB m) p ∧ firstM b m 0 = firstM b (m.drop p) p) (fun wr => m.length - wr.iterPos (w.heap.size + 1))
  case atStart => exact ⟨0, Nat.zero_le _, rfl, rfl⟩
  case round =>
    obtain ⟨p, hp, rfl, hf⟩ := hrel
    have HF := Lib.hid hf; clear hf
    by_cases hlt : p < m.length
    · have hn := next_mark (w.alloc (Obj.cells #[iv c, Value.string (markB m)] 305)) m p hlt
      simp only [World.size_alloc] at hn
      have hd := Lib.hid (drop_cons hlt)
      by_cases e : m[p] = b
      · have e1 := signZ_eq e
        have HE := Lib.hid e; clear e
        go_wp2
        go_ret2
        refine ⟨ret_eq ?_, below_alloc_iter _ _ _ _⟩
        have := HF.out
        rw [hd.out, firstM, if_pos HE.out] at this
        simp only [firstA, this]
        rfl
      · have e1 := signZ_ne e
        have HE := Lib.hid e; clear e
        go_wp2
        go_roundw
        case rel => exact ⟨p + 1, by omega, rfl, by rw [HF.out, hd.out, firstM, if_neg HE.out]⟩
        case measure =>
          have q1 := World.iterPos_iter (w.alloc (Obj.cells #[iv c, Value.string (markB m)] 305)) (markB m) p
          have q2 := World.iterPos_iter (w.alloc (Obj.cells #[iv c, Value.string (markB m)] 305)) (markB m) (p + 1)
          simp only [World.size_alloc] at q1 q2
          rw [q1, q2]; omega
    · obtain rfl : p = m.length := by omega
      have hn := next_mark_end (w.alloc (Obj.cells #[iv c, Value.string (markB m)] 305)) m
      simp only [World.size_alloc] at hn
      go_wp2
      go_ret2
      refine ⟨ret_eq ?_, below_alloc_iter _ _ _ _⟩
      have := HF.out
      rw [List.drop_length, firstM] at this
      simp only [firstA, this]
      rfl

/-- How many are used. -/
def countM (m : List Bool) : Nat := m.countP (· = true)
theorem countM_take {m : List Bool} {p : Nat} (h : p < m.length) : countM (m.take (p + 1)) = countM (m.take p) + if m[p] then 1 else 0 := by
  unfold countM
  rw [List.take_succ_eq_append_getElem h, List.countP_append]
  cases m[p] <;> simp
theorem countM_le (m : List Bool) : countM m ≤ m.length := List.countP_le_length

theorem count_c (r : Int × List Bool) (hm : r.2.length ≤ 8) (w : World) :
    Calls Tryz.prog 252 #[rowV r] w fun e w' => e = .returned (iv (countM r.2)) ∧ Below w.heap.size w w' := by
  obtain ⟨c, m⟩ := r
  simp only at hm ⊢
  go_enter Tryz.func252, Tryz.ntmps252
  go_wp2_with fail
  go_loopw [3] (fun n wr => ∃ p, p ≤ m.length ∧ wr = (w.alloc (Obj.cells #[iv c, Value.string (markB m)] 305)).iter (markB m) p ∧ n = iv (countM (m.take p))) (fun _ wr => m.length - wr.iterPos (w.heap.size + 1))
  case atStart => exact ⟨0, Nat.zero_le _, rfl, rfl⟩
  case round =>
    obtain ⟨p, hp, rfl, rfl⟩ := hrel
    have hk : countM (m.take p) ≤ 8 := Nat.le_trans (countM_le _) (by rw [List.length_take]; omega)
    by_cases hlt : p < m.length
    · have hn := next_mark (w.alloc (Obj.cells #[iv c, Value.string (markB m)] 305)) m p hlt
      simp only [World.size_alloc] at hn
      have hd := countM_take hlt
      have q : (m.length - ((w.alloc (Obj.cells #[iv c, Value.string (markB m)] 305)).iter (markB m) (p + 1)).iterPos (w.heap.size + 1)) < m.length - ((w.alloc (Obj.cells #[iv c, Value.string (markB m)] 305)).iter (markB m) p).iterPos (w.heap.size + 1) := by
        have q1 := World.iterPos_iter (w.alloc (Obj.cells #[iv c, Value.string (markB m)] 305)) (markB m) p
        have q2 := World.iterPos_iter (w.alloc (Obj.cells #[iv c, Value.string (markB m)] 305)) (markB m) (p + 1)
        simp only [World.size_alloc] at q1 q2
        rw [q1, q2]; omega
      have HQ := Lib.hid q; clear q
      cases e : m[p] with
      | true =>
        rw [e] at hn hd
        simp only [if_true] at hd
        have HD := Lib.hid hd; clear hd
        have e1 : (signZ true == 120) = true := rfl
        clear e
        go_wp2
        go_roundw
        case rel => exact ⟨p + 1, by omega, rfl, by rw [HD.out]; go_num⟩
        case measure => exact HQ.out
      | false =>
        rw [e] at hn hd
        simp only [Bool.false_eq_true, if_false] at hd
        have HD := Lib.hid hd; clear hd
        have e1 : (signZ false == 120) = false := rfl
        clear e
        go_wp2
        go_roundw
        case rel => exact ⟨p + 1, by omega, rfl, by rw [HD.out]; rfl⟩
        case measure => exact HQ.out
    · obtain rfl : p = m.length := by omega
      have hn := next_mark_end (w.alloc (Obj.cells #[iv c, Value.string (markB m)] 305)) m
      simp only [World.size_alloc] at hn
      rw [List.take_length]
      go_wp2
      go_ret
      exact ⟨rfl, below_alloc_iter _ _ _ _⟩

set_option maxRecDepth 100000 in
theorem turn_core (rb o : Nat) (S : ByteArray) (slot : Nat) (b : Bool) (z : Int) (hz : z = signZ b) (w : World) (h1 : slot < S.size) (h2 : S.size ≤ 8) (hE : (Utf8.encode z).size ≤ 4)
    (hc : w.cell? ⟨rb, o + 1, none⟩ = some (.string S)) (hf : w.frozen? ⟨rb, o + 1, none⟩ = false) :
    Calls Tryz.prog 255 #[.pointer (some ⟨rb, o, none⟩), iv slot, .int .i32 z] w fun e w' => e = .returned (.tuple #[]) ∧ w.drew.setCell ⟨rb, o + 1, none⟩ (.string (S.extract 0 slot ++ Utf8.encode z ++ S.extract (slot + 1) S.size)) = w' := by
  have h3 : slot ≤ S.size := by omega
  have h4 : slot + 1 ≤ S.size := by omega
  have e1 : (S.extract 0 slot).size ≤ 8 := by rw [ByteArray.size_extract]; omega
  have e2 : (S.extract (slot + 1) S.size).size ≤ 8 := by rw [ByteArray.size_extract]; omega
  have a1 : ∀ w : World, (Op.stringOp .add (S.extract 0 slot) (Utf8.encode z)).run Tryz.prog w = .ok (.string (S.extract 0 slot ++ Utf8.encode z)) w := fun w => run_string_add_sum w _ _ (by omega)
  have a2 : ∀ w : World, (Op.stringOp .add (S.extract 0 slot ++ Utf8.encode z) (S.extract (slot + 1) S.size)).run Tryz.prog w = .ok (.string (S.extract 0 slot ++ Utf8.encode z ++ S.extract (slot + 1) S.size)) w := fun w => run_string_add_sum w _ _ (by rw [ByteArray.size_append]; omega)
  clear e1 e2 hE hz
  go_enter Tryz.func255, Tryz.ntmps255
  go_region
  go_end0
  exact ⟨rfl, rfl⟩

theorem markB_append (a b : List Bool) : markB (a ++ b) = markB a ++ markB b := by
  unfold markB; rw [List.map_append]; exact (ByteArray.mk_append_mk _ _).symm
theorem markB_extract (m : List Bool) (i j : Nat) : (markB m).extract i j = markB ((m.drop i).take (j - i)) := by
  apply ByteArray.ext
  rw [ByteArray.data_extract]
  show (m.map markC).toArray.extract i j = (((m.drop i).take (j - i)).map markC).toArray
  rw [List.extract_toArray]
  simp [List.extract, List.map_take, List.map_drop]
theorem encode_sign (b : Bool) : Utf8.encode (signZ b) = markB [b] := by cases b <;> rfl
theorem set_split {m : List Bool} {k : Nat} (h : k < m.length) (b : Bool) : m.set k b = m.take k ++ [b] ++ m.drop (k + 1) := by
  rw [List.set_eq_take_append_cons_drop, if_pos h]; simp

theorem turn_c (rb o : Nat) (m : List Bool) (slot : Nat) (hs : slot < m.length) (hm : m.length ≤ 8) (b : Bool) (w : World)
    (hc : w.cell? ⟨rb, o + 1, none⟩ = some (.string (markB m))) (hf : w.frozen? ⟨rb, o + 1, none⟩ = false) :
    Calls Tryz.prog 255 #[.pointer (some ⟨rb, o, none⟩), iv slot, .int .i32 (signZ b)] w fun e w' => e = .returned (.tuple #[]) ∧ w.drew.setCell ⟨rb, o + 1, none⟩ (.string (markB (m.set slot b))) = w' := by
  have := turn_core rb o (markB m) slot b (signZ b) rfl w (by rw [markB_size]; exact hs) (by rw [markB_size]; exact hm) (by rw [encode_sign, markB_size]; simp) hc hf
  rw [encode_sign, markB_extract, markB_extract, markB_size, ← markB_append, ← markB_append] at this
  rw [set_split hs b]
  have e1 : (m.drop 0).take (slot - 0) = m.take slot := by simp
  have e2 : (m.drop (slot + 1)).take (m.length - (slot + 1)) = m.drop (slot + 1) := List.take_of_length_le (by simp)
  rw [e1, e2] at this
  exact this
end Go.Proofs.YtcnppdbgieaddaaGreat

namespace Go.Proofs.YtcnppdbgieaddaaGreat
open Go.RowKit
set_option linter.unusedVariables false

abbrev Row := Int × List Bool
def rowsV : List Row → List Value
  | [] => []
  | r :: rs => iv r.1 :: .string (markB r.2) :: rowsV rs
theorem rowsV_length (rs : List Row) : (rowsV rs).length = 2 * rs.length := by
  induction rs with
  | nil => rfl
  | cons r rs ih => simp only [rowsV, List.length_cons, ih]; omega
theorem rowsV_cls {rs : List Row} {i : Nat} {r : Row} (h : rs[i]? = some r) (t : List Value) : (rowsV rs ++ t)[i * 2]? = some (iv r.1) := by
  induction rs generalizing i with
  | nil => simp at h
  | cons a rs ih =>
    cases i with
    | zero => simp at h; subst h; rfl
    | succ i =>
      have := ih (i := i) (by simpa using h)
      rw [show (i + 1) * 2 = i * 2 + 1 + 1 from by omega]
      simpa [rowsV] using this
theorem rowsV_mark {rs : List Row} {i : Nat} {r : Row} (h : rs[i]? = some r) (t : List Value) : (rowsV rs ++ t)[i * 2 + 1]? = some (.string (markB r.2)) := by
  induction rs generalizing i with
  | nil => simp at h
  | cons a rs ih =>
    cases i with
    | zero => simp at h; subst h; rfl
    | succ i =>
      have := ih (i := i) (by simpa using h)
      rw [show (i + 1) * 2 + 1 = i * 2 + 1 + 1 + 1 from by omega]
      simpa [rowsV] using this
theorem rowsV_set_mark {rs : List Row} {i : Nat} {r : Row} (h : rs[i]? = some r) (m : List Bool) (t : List Value) : (rowsV rs ++ t).set (i * 2 + 1) (.string (markB m)) = rowsV (rs.set i (r.1, m)) ++ t := by
  induction rs generalizing i with
  | nil => simp at h
  | cons a rs ih =>
    cases i with
    | zero => simp at h; subst h; rfl
    | succ i =>
      have := ih (i := i) (by simpa using h)
      rw [show (i + 1) * 2 + 1 = i * 2 + 1 + 1 + 1 from by omega]
      simp [rowsV, this]
theorem rowsV_set_cls {rs : List Row} {i : Nat} {r : Row} (h : rs[i]? = some r) (c : Int) (t : List Value) : (rowsV rs ++ t).set (i * 2) (iv c) = rowsV (rs.set i (c, r.2)) ++ t := by
  induction rs generalizing i with
  | nil => simp at h
  | cons a rs ih =>
    cases i with
    | zero => simp at h; subst h; rfl
    | succ i =>
      have := ih (i := i) (by simpa using h)
      rw [show (i + 1) * 2 = i * 2 + 1 + 1 from by omega]
      simp [rowsV, this]

/-- The spans at block sb: rows in block rb. -/
structure SpansAt (w : World) (sb rb : Nat) (rs : List Row) : Prop where
  head : ∃ cap, Blk w sb [.slice (some ⟨rb, 0, none⟩) rs.length cap] ∧ rs.length ≤ cap
  rows : ∃ t, Blk w rb (rowsV rs ++ t)
  ne : sb ≠ rb
  few : rs.length ≤ 128
  small : ∀ r ∈ rs, r.2.length ≤ 8

theorem SpansAt.keep {w w' : World} {sb rb : Nat} {rs : List Row} (h : SpansAt w sb rb rs) (h1 : w'.heap[sb]? = w.heap[sb]?) (h2 : w'.heap[rb]? = w.heap[rb]?) : SpansAt w' sb rb rs := by
  obtain ⟨⟨c, a, hc⟩, ⟨t, b⟩, n, f, s⟩ := h
  exact ⟨⟨c, a.keep h1, hc⟩, ⟨t, b.keep h2⟩, n, f, s⟩
theorem SpansAt.lt {w : World} {sb rb : Nat} {rs : List Row} (h : SpansAt w sb rb rs) : sb < w.heap.size ∧ rb < w.heap.size := by
  obtain ⟨⟨c, a, hc⟩, ⟨t, b⟩, n, f, s⟩ := h
  exact ⟨a.lt, b.lt⟩
theorem SpansAt.below {w w' : World} {sb rb : Nat} {rs : List Row} (h : SpansAt w sb rb rs) (hb : Below w.heap.size w w') : SpansAt w' sb rb rs :=
  h.keep (hb.block _ h.lt.1) (hb.block _ h.lt.2)
theorem SpansAt.small' {w : World} {sb rb : Nat} {rs : List Row} (h : SpansAt w sb rb rs) {i : Nat} {r : Row} (hr : rs[i]? = some r) : r.2.length ≤ 8 :=
  h.small r (List.mem_of_getElem? hr)

theorem spans_len_c (sb rb : Nat) (rs : List Row) (w : World) (h : SpansAt w sb rb rs) :
    Calls Tryz.prog 251 #[.pointer (some ⟨sb, 0, none⟩)] w fun e w' => e = .returned (iv rs.length) ∧ w = w' := by
  obtain ⟨⟨c, a, hc⟩, ⟨t, b⟩, n, f, s⟩ := h
  have c0 := a.cell 0
  simp only [List.getElem?_cons_zero] at c0
  clear a b hc s
  go_enter Tryz.func251, Tryz.ntmps251
  go_wp2
  go_ret
  exact ⟨rfl, rfl⟩

theorem spans_class_c (sb rb : Nat) (rs : List Row) (w : World) (h : SpansAt w sb rb rs) (i : Nat) (r : Row) (hr : rs[i]? = some r) :
    Calls Tryz.prog 247 #[.pointer (some ⟨sb, 0, none⟩), iv i] w fun e w' => e = .returned (iv r.1) ∧ w = w' := by
  obtain ⟨⟨c, a, hc⟩, ⟨t, b⟩, n, f, s⟩ := h
  have c0 := a.cell 0
  simp only [List.getElem?_cons_zero] at c0
  have c1 := b.cell (i * 2)
  rw [rowsV_cls hr] at c1
  have hi : i < rs.length := (List.getElem?_eq_some_iff.1 hr).1
  clear a b hc s hr
  have hi' : ¬ ((rs.length : Int) ≤ (i : Int)) := by omega
  go_enter Tryz.func247, Tryz.ntmps247
  go_wp2
  go_ret
  exact ⟨rfl, rfl⟩

theorem spans_used_c (sb rb : Nat) (rs : List Row) (w : World) (h : SpansAt w sb rb rs) (i : Nat) (r : Row) (hr : rs[i]? = some r) (hn : r.1 ≠ -1) (slot : Nat) (b : Bool) (hb : r.2[slot]? = some b) :
    Calls Tryz.prog 259 #[.pointer (some ⟨sb, 0, none⟩), iv i, iv slot] w fun e w' => e = .returned (.bool b) ∧ Below w.heap.size w w' := by
  have hcl := Lib.hid (spans_class_c sb rb rs w h i r hr)
  have hs8 := h.small' hr
  obtain ⟨⟨c, a, hc⟩, ⟨t, b'⟩, n, f, s⟩ := h
  have c0 := a.cell 0
  simp only [List.getElem?_cons_zero] at c0
  have c1 := b'.cell (i * 2 + 1)
  rw [rowsV_mark hr] at c1
  have hi : i < rs.length := (List.getElem?_eq_some_iff.1 hr).1
  obtain ⟨hsl, hbe⟩ := List.getElem?_eq_some_iff.1 hb
  clear a b' hc s hr hb
  obtain ⟨rc, m⟩ := r
  simp only at hn hbe hsl hcl c1 hs8
  have e0 : (rc == -1) = false := by simpa using hn
  have HB := Lib.hid hbe; clear hbe hn
  go_enter Tryz.func259, Tryz.ntmps259
  go_wp2_with (go_at_call 247; refine (hcl.out).mono ?_; rintro e w' ⟨rfl, rfl⟩)
  go_loopw [] (fun wr => ∃ p : Nat, p ≤ slot ∧ wr = w.iter (markB m) p) (fun wr => m.length - wr.iterPos w.heap.size)
  case atStart => exact ⟨0, Nat.zero_le _, rfl⟩
  case round =>
    obtain ⟨p, hp, rfl⟩ := hrel
    have hlt : p < m.length := by omega
    have hnx := next_mark w m p hlt
    by_cases e : p = slot
    · subst e
      have hz : m[p] = b := HB.out
      rw [hz] at hnx
      have e1 : (signZ b == 120) = b := by cases b <;> rfl
      clear hz HB
      go_wp2
      go_ret
      exact ⟨rfl, below_iter _ _ _⟩
    · have e1 : ((p : Int) == (slot : Int)) = false := by simp; omega
      clear HB
      go_wp2
      go_roundw
      case rel => exact ⟨p + 1, by omega, rfl⟩
      case measure => simp; omega

theorem set_few {rs : List Row} {i : Nat} {r : Row} (hs : ∀ x ∈ rs, x.2.length ≤ 8) (hr : r.2.length ≤ 8) : ∀ x ∈ rs.set i r, x.2.length ≤ 8 := by
  intro x hx
  rcases List.mem_or_eq_of_mem_set hx with h | h
  · exact hs x h
  · rw [h]; exact hr
theorem SpansAt.setMark {w : World} {sb rb : Nat} {rs : List Row} (h : SpansAt w sb rb rs) {i : Nat} {r : Row} (hr : rs[i]? = some r) (m : List Bool) (hm : m.length ≤ 8) :
    SpansAt (w.setCell ⟨rb, i * 2 + 1, none⟩ (.string (markB m))) sb rb (rs.set i (r.1, m)) := by
  obtain ⟨⟨c, a, hc⟩, ⟨t, b⟩, n, f, s⟩ := h
  refine ⟨⟨c, ?_, by simpa using hc⟩, ⟨t, ?_⟩, n, by simpa using f, set_few s hm⟩
  · rw [List.length_set]; exact a.set_other n _ _
  · rw [← rowsV_set_mark hr]; exact b.set _ _
theorem SpansAt.setCls {w : World} {sb rb : Nat} {rs : List Row} (h : SpansAt w sb rb rs) {i : Nat} {r : Row} (hr : rs[i]? = some r) (c : Int) :
    SpansAt (w.setCell ⟨rb, i * 2, none⟩ (iv c)) sb rb (rs.set i (c, r.2)) := by
  obtain ⟨⟨k, a, hk⟩, ⟨t, b⟩, n, f, s⟩ := h
  refine ⟨⟨k, ?_, by simpa using hk⟩, ⟨t, ?_⟩, n, by simpa using f, set_few s (s r (List.mem_of_getElem? hr))⟩
  · rw [List.length_set]; exact a.set_other n _ _
  · rw [← rowsV_set_cls hr]; exact b.set _ _
theorem SpansAt.setRow {w : World} {sb rb : Nat} {rs : List Row} (h : SpansAt w sb rb rs) {i : Nat} {r : Row} (hr : rs[i]? = some r) (c : Int) (m : List Bool) (hm : m.length ≤ 8) :
    SpansAt ((w.setCell ⟨rb, i * 2, none⟩ (iv c)).setCell ⟨rb, i * 2 + 1, none⟩ (.string (markB m))) sb rb (rs.set i (c, m)) := by
  have hi : i < rs.length := (List.getElem?_eq_some_iff.1 hr).1
  have h1 := (h.setCls hr c).setMark (i := i) (r := (c, r.2)) (by simp [hi]) m hm
  rw [List.set_set] at h1
  exact h1
theorem SpansAt.drew {w : World} {sb rb : Nat} {rs : List Row} (h : SpansAt w sb rb rs) : SpansAt w.drew sb rb rs := h.keep rfl rfl
theorem SpansAt.alloc' {w : World} {sb rb : Nat} {rs : List Row} (h : SpansAt w sb rb rs) (o : Obj) : SpansAt (w.alloc o) sb rb rs := h.below ((Below.refl _ _).alloc (Nat.le_refl _) o)
theorem SpansAt.cls {w : World} {sb rb : Nat} {rs : List Row} (h : SpansAt w sb rb rs) {i : Nat} {r : Row} (hr : rs[i]? = some r) : w.cell? ⟨rb, i * 2, none⟩ = some (iv r.1) := by
  obtain ⟨t, b⟩ := h.rows; rw [b.cell, rowsV_cls hr]
theorem SpansAt.mark {w : World} {sb rb : Nat} {rs : List Row} (h : SpansAt w sb rb rs) {i : Nat} {r : Row} (hr : rs[i]? = some r) : w.cell? ⟨rb, i * 2 + 1, none⟩ = some (.string (markB r.2)) := by
  obtain ⟨t, b⟩ := h.rows; rw [b.cell, rowsV_mark hr]
theorem SpansAt.free {w : World} {sb rb : Nat} {rs : List Row} (h : SpansAt w sb rb rs) (o : Nat) : w.frozen? ⟨rb, o, none⟩ = false := by
  obtain ⟨t, b⟩ := h.rows; exact b.free _
theorem SpansAt.sl {w : World} {sb rb : Nat} {rs : List Row} (h : SpansAt w sb rb rs) : ∃ c, w.cell? ⟨sb, 0, none⟩ = some (.slice (some ⟨rb, 0, none⟩) rs.length c) := by
  obtain ⟨c, a, _⟩ := h.head; exact ⟨c, by rw [a.cell]; rfl⟩

/-- A slot is let go. -/
def freeR (rs : List Row) (i slot : Nat) : List Row :=
  match rs[i]? with
  | some r => if countM (r.2.set slot false) = 0 then rs.set i (-1, []) else rs.set i (r.1, r.2.set slot false)
  | none => rs

theorem spans_free_c (sb rb : Nat) (rs : List Row) (w : World) (h : SpansAt w sb rb rs) (i : Nat) (r : Row) (hr : rs[i]? = some r) (hn : r.1 ≠ -1) (slot : Nat) (hb : r.2[slot]? = some true) :
    Calls Tryz.prog 246 #[.pointer (some ⟨sb, 0, none⟩), iv i, iv slot] w fun e w' => e = .returned (.bool true) ∧ SpansAt w' sb rb (freeR rs i slot) ∧ Stp [sb, rb] [sb, rb] w w' := by
  have hi : i < rs.length := (List.getElem?_eq_some_iff.1 hr).1
  have hsl : slot < r.2.length := (List.getElem?_eq_some_iff.1 hb).1
  have hs8 := h.small' hr
  go_enter Tryz.func246, Tryz.ntmps246
  go_wp2_with fail
  refine (spans_used_c sb rb rs w h i r hr hn slot true hb).mono ?_
  rintro e w1 ⟨rfl, b1⟩
  have h1 := h.below b1
  obtain ⟨c, c0⟩ := h1.sl
  go_wp2_with fail
  refine (turn_c rb (i * 2) r.2 slot hsl hs8 false w1 (h1.mark hr) (h1.free _)).mono ?_
  rintro e w2 ⟨rfl, hw2⟩
  have h2 : SpansAt w2 sb rb (rs.set i (r.1, r.2.set slot false)) := by rw [← hw2]; exact h1.drew.setMark hr _ (by simpa using hs8)
  have s2 : Stp [sb, rb] [sb, rb] w w2 := by
    rw [← hw2]; exact ((Stp.below b1).trans (Stp.drew _ _)).trans (Stp.set (by simp) _ _)
  clear hw2 c0
  have hr2 : (rs.set i (r.1, r.2.set slot false))[i]? = some (r.1, r.2.set slot false) := by simp [hi]
  have c1 := h2.cls hr2
  have c2 := h2.mark hr2
  have H := Lib.hid h2; clear h2
  have fz : ∀ k, w2.frozen? ⟨rb, k, none⟩ = false := H.out.free
  go_wp2_with fail
  refine (count_c (r.1, r.2.set slot false) (by simpa using hs8) w2).mono ?_
  rintro e w3 ⟨rfl, b3⟩
  have h3 := H.out.below b3
  have s3 := s2.trans (Stp.below b3)
  have hr3 := h3.free
  have c1 := h3.cls hr2
  have c2 := h3.mark hr2
  have H3 := Lib.hid h3; clear h3 H
  simp only
  by_cases e : countM (r.2.set slot false) = 0
  · have e1 : ((countM (r.2.set slot false) : Int) == 0) = true := by simp [e]
    have hf : Hid (freeR rs i slot = rs.set i (-1, [])) := by simp only [Hid, freeR, hr, e, if_true]
    have HE := Lib.hid e; clear e
    go_wp2
    go_ret
    refine ⟨rfl, ?_, (s3.trans (Stp.set (by simp) _ _)).trans (Stp.set (by simp) _ _)⟩
    rw [hf.out]
    have := H3.out.setRow hr2 (-1) [] (by simp)
    rw [List.set_set] at this
    exact this
  · have e1 : ((countM (r.2.set slot false) : Int) == 0) = false := by simp; omega
    have hf : Hid (freeR rs i slot = rs.set i (r.1, r.2.set slot false)) := by simp only [Hid, freeR, hr, e, if_false]
    have HE := Lib.hid e; clear e
    go_wp2
    go_ret
    exact ⟨rfl, by rw [hf.out]; exact H3.out, s3⟩
end Go.Proofs.YtcnppdbgieaddaaGreat
