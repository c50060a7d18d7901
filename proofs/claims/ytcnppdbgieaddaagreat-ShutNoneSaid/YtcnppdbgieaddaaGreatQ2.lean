/- The document's side: its arena, its heap, in memory. The document's side: is there an object at a place? The document's arena: plainly: where a thing comes to lie; an object more; a word turned. No walk. The document's heap: a colour, the arena, the grey list turned. No walk. A world that has only grown by new blocks; append at a step of a region that draws, of elements of any size. -/
import Derived.Test.YtcnppdbgieaddaaGreatQ1
import Derived.Test.YtcnppdbgieaddaaGreatK6
import Derived.Test.YtcnppdbgieaddaaGreatK5
namespace Go.Proofs.YtcnppdbgieaddaaGreat
open Go.RowKit
set_option linter.unusedVariables false
set_option linter.unusedSimpArgs false

structure RAr (w : World) (ab sb cb tb wb : Nat) (A : AS) (f : Nat → Int) : Prop where
  top : Blk w ab [.pointer (some ⟨sb, 0, none⟩), .slice (some ⟨wb, 0, none⟩) (32 * A.n) (32 * A.n)]
  spans : RSp w sb cb tb A.n A.cls (usedA A)
  cells : Blk w wb ((List.range (32 * A.n)).map fun i => iv (f i))
  wf : WfAS A
  obj : ∀ (a : Nat) (k : Int) (ws : List Int), A.obj a = some (k, ws) → f a = k + 16 * ws.length ∧ ∀ (i : Nat) (v : Int), ws[i]? = some v → f (a + 1 + i) = v
  ne : ab ≠ sb ∧ ab ≠ cb ∧ ab ≠ tb ∧ ab ≠ wb ∧ wb ≠ sb ∧ wb ≠ cb ∧ wb ≠ tb
variable {w w' : World} {ab sb cb tb wb : Nat} {A : AS} {f : Nat → Int}
theorem RAr.lt (h : RAr w ab sb cb tb wb A f) : ab < w.heap.size ∧ sb < w.heap.size ∧ cb < w.heap.size ∧ tb < w.heap.size ∧ wb < w.heap.size := ⟨h.top.lt, h.spans.lt.1, h.spans.lt.2.1, h.spans.lt.2.2, h.cells.lt⟩
theorem RAr.keep (h : RAr w ab sb cb tb wb A f) (hk : ∀ b, b = ab ∨ b = sb ∨ b = cb ∨ b = tb ∨ b = wb → w'.heap[b]? = w.heap[b]?) : RAr w' ab sb cb tb wb A f :=
  ⟨h.top.keep (hk _ (.inl rfl)), h.spans.keep (fun b q => hk b (by rcases q with rfl | rfl | rfl <;> simp)), h.cells.keep (hk _ (by simp)), h.wf, h.obj, h.ne⟩
theorem RAr.below (h : RAr w ab sb cb tb wb A f) (hb : Below w.heap.size w w') : RAr w' ab sb cb tb wb A f := by
  obtain ⟨l1, l2, l3, l4, l5⟩ := h.lt
  exact h.keep fun b q => hb.block b (by rcases q with rfl | rfl | rfl | rfl | rfl <;> assumption)
theorem RAr.wAt (h : RAr w ab sb cb tb wb A f) {i : Nat} (hi : i < 32 * A.n) : w.cell? ⟨wb, i, none⟩ = some (iv (f i)) := by
  rw [h.cells.cell]; simp [hi]
theorem RAr.few (h : RAr w ab sb cb tb wb A f) : A.n ≤ 128 := h.spans.few

/-- The document's grey list. -/
structure RGrey (w : World) (gb : Nat) (v : Value) (l : List Int) (over : Bool) : Prop where
  top : Blk w gb [v, .bool over]
  row : w.ownsRow 0 3 1 v l.length (intsV l)
  ne : v.ownBlock ≠ some gb
  few : l.length ≤ 8
theorem RGrey.lt {gb : Nat} {v : Value} {l : List Int} {over : Bool} (h : RGrey w gb v l over) : ∀ b ∈ greyOwn gb v, b < w.heap.size := by
  intro b hb
  simp only [greyOwn, List.mem_cons] at hb
  rcases hb with rfl | hb
  · exact h.top.lt
  · exact (h.row.lt b (by simpa using hb)).2
theorem RGrey.keep {gb : Nat} {v : Value} {l : List Int} {over : Bool} (h : RGrey w gb v l over) (hk : ∀ b ∈ greyOwn gb v, w'.heap[b]? = w.heap[b]?) : RGrey w' gb v l over :=
  ⟨h.top.keep (hk gb (by simp [greyOwn])), ownsRow_keep h.row fun b hb => hk b (by simp [greyOwn, hb]), h.ne, h.few⟩
theorem RGrey.below {gb : Nat} {v : Value} {l : List Int} {over : Bool} (h : RGrey w gb v l over) (hb : Below w.heap.size w w') : RGrey w' gb v l over := h.keep fun b hm => hb.block b (h.lt b hm)

/-- Where the document's heap lies. -/
structure RLay where
  (hb ab sb cb tb wb kb gb : Nat)
  gv : Value
def RLay.own (R : RLay) : List Nat := [R.hb, R.ab, R.sb, R.cb, R.tb, R.wb, R.kb] ++ greyOwn R.gb R.gv
structure RefAt (w : World) (R : RLay) (s : PH) : Prop where
  top : Blk w R.hb [.pointer (some ⟨R.ab, 0, none⟩), .slice (some ⟨R.kb, 0, none⟩) (32 * s.A.n) (32 * s.A.n), .pointer (some ⟨R.gb, 0, none⟩), iv s.phase, iv s.span, iv s.cycles]
  arena : ∃ f, RAr w R.ab R.sb R.cb R.tb R.wb s.A f
  cols : ∃ g : Nat → Int, Blk w R.kb ((List.range (32 * s.A.n)).map fun i => iv (g i)) ∧ ∀ a, (s.A.obj a).isSome = true → g a = s.m a
  grey : RGrey w R.gb R.gv s.l s.over
  nodup : R.own.Nodup
  i64 : s.A.I64
variable {R : RLay} {s : PH}
theorem RefAt.lt (h : RefAt w R s) : ∀ b ∈ R.own, b < w.heap.size := by
  intro b hb
  obtain ⟨f, ha⟩ := h.arena
  obtain ⟨g, hc, _⟩ := h.cols
  obtain ⟨l1, l2, l3, l4, l5⟩ := ha.lt
  simp only [RLay.own, List.mem_append, List.mem_cons, List.not_mem_nil, or_false] at hb
  rcases hb with (rfl | rfl | rfl | rfl | rfl | rfl | rfl) | hb
  · exact h.top.lt
  · exact l1
  · exact l2
  · exact l3
  · exact l4
  · exact l5
  · exact hc.lt
  · exact h.grey.lt b hb
theorem RefAt.keep (h : RefAt w R s) (hk : ∀ b ∈ R.own, w'.heap[b]? = w.heap[b]?) : RefAt w' R s := by
  obtain ⟨f, ha⟩ := h.arena
  obtain ⟨g, hc, hg⟩ := h.cols
  refine ⟨h.top.keep (hk _ (by simp [RLay.own])), ⟨f, ha.keep fun b hb => hk b ?_⟩, ⟨g, hc.keep (hk _ (by simp [RLay.own])), hg⟩, h.grey.keep fun b hb => hk b (by simp only [RLay.own, List.mem_append]; exact .inr hb), h.nodup, h.i64⟩
  rcases hb with rfl | rfl | rfl | rfl | rfl <;> simp [RLay.own]
theorem RefAt.below (h : RefAt w R s) (hb : Below w.heap.size w w') : RefAt w' R s := h.keep fun b hm => hb.block b (h.lt b hm)
theorem RefAt.stp (h : RefAt w R s) {S S' : List Nat} (hs : Stp S S' w w') (hd : ∀ b ∈ R.own, b ∉ S) : RefAt w' R s := h.keep fun b hm => hs.block b (h.lt b hm) (hd b hm)
theorem RefAt.wf (h : RefAt w R s) : WfAS s.A := by obtain ⟨f, ha⟩ := h.arena; exact ha.wf
theorem RefAt.few (h : RefAt w R s) : s.A.n ≤ 128 := by obtain ⟨f, ha⟩ := h.arena; exact ha.few

/-- The call returned r, and the document's heap is s' then; nothing beside it has turned. -/
def RPost (R : RLay) (s' : PH) (r : Value) (w : World) (e : Ending) (w' : World) : Prop :=
  e = .returned r ∧ ∃ R', RefAt w' R' s' ∧ R'.hb = R.hb ∧ R'.ab = R.ab ∧ Stp R.own R'.own w w'
theorem RPost.same (h : RefAt w R s) (r : Value) (hb : Below w.heap.size w w') : RPost R s r w (.returned r) w' :=
  ⟨rfl, R, h.below hb, rfl, rfl, Stp.below hb⟩

/-- From one world on: the document's heap that lay as R in w0 has come to s in w, nothing else of w0 has turned; the blocks of V hold what is said. -/
def RS (R : RLay) (s : PH) (w0 w : World) (V : List (Nat × List Value)) : Prop := ∃ R', RefAt w R' s ∧ R'.hb = R.hb ∧ R'.ab = R.ab ∧ Stp R.own R'.own w0 w ∧ ∀ p ∈ V, Blk w p.1 p.2 ∧ p.1 ∉ R'.own
variable {w0 : World} {V : List (Nat × List Value)}
theorem RS.refl (h : RefAt w R s) : RS R s w w [] := ⟨R, h, rfl, rfl, Stp.refl _ _, by simp⟩
theorem RS.below (h : RS R s w0 w V) (hb : Below w.heap.size w w') : RS R s w0 w' V := by
  obtain ⟨R', h1, h2, h3, h4, h5⟩ := h
  exact ⟨R', h1.below hb, h2, h3, h4.trans (Stp.below hb), fun p hp => ⟨(h5 p hp).1.keep (hb.block _ (h5 p hp).1.lt), (h5 p hp).2⟩⟩
theorem RS.alloc (h : RS R s w0 w V) (o : Obj) : RS R s w0 (w.alloc o) V := h.below ((Below.refl _ _).alloc (Nat.le_refl _) _)
theorem RS.drew (h : RS R s w0 w V) : RS R s w0 w.drew V := h.below (Below.refl _ _).drew
theorem RS.with (h : RS R s w0 w V) (b : Nat) (vs : List Value) (hb : Below w.heap.size w w') (hn : w.heap.size ≤ b) (hv : Blk w' b vs) : RS R s w0 w' ((b, vs) :: V) := by
  obtain ⟨R', h1, h2, h3, h4, h5⟩ := h
  refine ⟨R', h1.below hb, h2, h3, h4.trans (Stp.below hb), fun p hp => ?_⟩
  rcases List.mem_cons.1 hp with rfl | hp
  · exact ⟨hv, fun hm => by have := h1.lt _ hm; simp only at this; omega⟩
  · exact ⟨(h5 p hp).1.keep (hb.block _ (h5 p hp).1.lt), (h5 p hp).2⟩
theorem RS.new (h : RS R s w0 w V) (vs : List Value) (t : TypeId) : RS R s w0 (w.alloc (.cells vs.toArray t)) ((w.heap.size, vs) :: V) :=
  h.with w.heap.size vs ((Below.refl _ _).alloc (Nat.le_refl _) _) (Nat.le_refl _) (Blk.new w vs t)
theorem RS.blk (h : RS R s w0 w V) {b : Nat} {vs : List Value} (hm : (b, vs) ∈ V) : Blk w b vs := by obtain ⟨R', h1, h2, h3, h4, h5⟩ := h; exact (h5 _ hm).1
theorem RS.sub (h : RS R s w0 w V) {V' : List (Nat × List Value)} (hs : ∀ p ∈ V', p ∈ V) : RS R s w0 w V' := by
  obtain ⟨R', h1, h2, h3, h4, h5⟩ := h
  exact ⟨R', h1, h2, h3, h4, fun p hp => h5 p (hs p hp)⟩
theorem RS.tail (h : RS R s w0 w V) : RS R s w0 w [] := h.sub (by simp)
theorem RS.set {b : Nat} {vs : List Value} (h : RS R s w0 w ((b, vs) :: V)) (hw : w0.heap.size ≤ b) (hd : ∀ p ∈ V, p.1 ≠ b) (i : Nat) (v : Value) : RS R s w0 (w.setCell ⟨b, i, none⟩ v) ((b, vs.set i v) :: V) := by
  obtain ⟨R', h1, h2, h3, h4, h5⟩ := h
  have hb := h5 (b, vs) (by simp)
  have hst : Stp [b] [b] w (w.setCell ⟨b, i, none⟩ v) := Stp.set (by simp) i v
  refine ⟨R', h1.stp hst (fun x hx e => by simp at e; subst e; exact hb.2 hx), h2, h3, ?_, fun p hp => ?_⟩
  · refine ⟨hst.os.trans h4.os, hst.tape.trans h4.tape, hst.output.trans h4.output, Nat.le_trans h4.size hst.size, fun x hx hn => ?_, h4.own⟩
    rw [hst.block x (Nat.lt_of_lt_of_le hx h4.size) (by simp; omega)]
    exact h4.block x hx hn
  · rcases List.mem_cons.1 hp with rfl | hp
    · exact ⟨hb.1.set i v, hb.2⟩
    · exact ⟨(h5 p (List.mem_cons_of_mem _ hp)).1.set_other (hd p hp) i v, (h5 p (List.mem_cons_of_mem _ hp)).2⟩
theorem RS.lt (h : RS R s w0 w V) : ∀ p ∈ V, p.1 < w.heap.size := by obtain ⟨_, _, _, _, _, h5⟩ := h; exact fun p hp => (h5 p hp).1.lt
theorem RS.size (h : RS R s w0 w V) : w0.heap.size ≤ w.heap.size := by obtain ⟨_, _, _, _, h4, _⟩ := h; exact h4.size
theorem RS.post (h : RS R s w0 w V) (r : Value) : RPost R s r w0 (.returned r) w := by obtain ⟨R', h1, h2, h3, h4, _⟩ := h; exact ⟨rfl, R', h1, h2, h3, h4⟩
theorem RPost.rs {s' : PH} {r : Value} {e : Ending} (h : RPost R s' r w e w') : e = .returned r ∧ RS R s' w w' [] := by obtain ⟨h0, R', h1, h2, h3, h4⟩ := h; exact ⟨h0, R', h1, h2, h3, h4, by simp⟩
theorem RS.wf (h : RS R s w0 w V) : WfAS s.A := by obtain ⟨_, h1, _⟩ := h; exact h1.wf
theorem RS.few (h : RS R s w0 w V) : s.A.n ≤ 128 := by obtain ⟨_, h1, _⟩ := h; exact h1.few
theorem RS.i64 (h : RS R s w0 w V) : s.A.I64 := by obtain ⟨_, h1, _⟩ := h; exact h1.i64
theorem RS.read {f : Nat} {args : Array Value} {r : Value} (h : RS R s w0 w V) (hc : ∀ R', RefAt w R' s → R'.hb = R.hb → R'.ab = R.ab → Calls Tryz.prog f args w fun e w' => e = .returned r ∧ Below w.heap.size w w') :
    Calls Tryz.prog f args w fun e w' => e = .returned r ∧ RS R s w0 w' V := by
  have hh := h
  obtain ⟨R', h1, h2, h3, h4, h5⟩ := h
  exact (hc R' h1 h2 h3).mono fun e w' hq => ⟨hq.1, hh.below hq.2⟩
theorem RS.write {f : Nat} {args : Array Value} {r : Value} {s' : PH} (h : RS R s w0 w V) (hc : ∀ R', RefAt w R' s → R'.hb = R.hb → R'.ab = R.ab → Calls Tryz.prog f args w (RPost R' s' r w)) :
    Calls Tryz.prog f args w fun e w' => e = .returned r ∧ RS R s' w0 w' V := by
  obtain ⟨R', h1, h2, h3, h4, h5⟩ := h
  refine (hc R' h1 h2 h3).mono fun e w' hq => ?_
  obtain ⟨q0, R2, q1, q2, q3, q4⟩ := hq
  refine ⟨q0, R2, q1, q2.trans h2, q3.trans h3, h4.trans q4, fun p hp => ⟨(h5 p hp).1.keep (q4.block _ (h5 p hp).1.lt (h5 p hp).2), fun hm => ?_⟩⟩
  rcases q4.own _ hm with hm | hm
  · exact (h5 p hp).2 hm
  · have := (h5 p hp).1.lt; omega
abbrev rptr (R : RLay) : Value := .pointer (some ⟨R.hb, 0, none⟩)
abbrev raptr (R : RLay) : Value := .pointer (some ⟨R.ab, 0, none⟩)
theorem rptr_eq {R' : RLay} (h : R'.hb = R.hb) : rptr R' = rptr R := by unfold rptr; rw [h]
theorem raptr_eq {R' : RLay} (h : R'.ab = R.ab) : raptr R' = raptr R := by unfold raptr; rw [h]
/-- A contract of a function that reads, writes: from a step on. -/
def RRd (R : RLay) (s : PH) (f : Nat) (args : Array Value) (r : Value) : Prop := ∀ w0 w V, RS R s w0 w V → Calls Tryz.prog f args w fun e w' => e = .returned r ∧ RS R s w0 w' V
def RWr (R : RLay) (s : PH) (f : Nat) (args : Array Value) (s' : PH) (r : Value) : Prop := ∀ w0 w V, RS R s w0 w V → Calls Tryz.prog f args w fun e w' => e = .returned r ∧ RS R s' w0 w' V
end Go.Proofs.YtcnppdbgieaddaaGreat

namespace Go.Proofs.YtcnppdbgieaddaaGreat
open Go.RowKit
set_option linter.unusedVariables false
set_option linter.unusedSimpArgs false
variable {w w' : World} {ab sb cb tb wb : Nat} {A : AS} {f : Nat → Int}

theorem below_drewN {n : Nat} (h : Below n w w') (k : Nat) : Below n w (w'.drewN k) := ⟨h.os, h.tape, h.output, h.size, h.block⟩
set_option maxRecDepth 100000 in
theorem ris_c (w : World) (h : RAr w ab sb cb tb wb A f) (a : Int) : Calls Tryz.prog 216 #[.pointer (some ⟨ab, 0, none⟩), iv a] w fun e w' => e = .returned (.bool (objA A a).isSome) ∧ Below w.heap.size w w' := by
  have t0 := h.top.at 0 rfl; have t1 := h.top.at 1 rfl
  have hn := h.spans.few
  by_cases ha : a < 0
  · have hr : Hid ((objA A a).isSome = false) := by unfold Hid objA; rw [if_pos ha]; rfl
    clear h
    go_enter Tryz.func216, Tryz.ntmps216
    go_wp2
    go_ret
    exact ⟨ret_eq (by rw [hr.out]; rfl), Below.refl _ _⟩
  obtain ⟨m, rfl⟩ := Int.eq_ofNat_of_zero_le (by omega : 0 ≤ a)
  have ho : objA A (m : Int) = A.obj m := by unfold objA; rw [if_neg ha, Int.toNat_natCast]
  rw [ho]
  clear ho
  by_cases hm : 32 * A.n ≤ m
  · have hr : (A.obj m).isSome = false := by
      cases e : A.obj m with
      | none => rfl
      | some o => obtain ⟨k, ws⟩ := o; have := (h.wf.obj m k ws e).1; omega
    rw [hr]
    have g1 : decide ((m : Int) ≥ 32 * A.n) = true := by simp; omega
    clear h
    go_enter Tryz.func216, Tryz.ntmps216
    go_wp2
    go_ret
    exact ⟨rfl, Below.refl _ _⟩
  obtain ⟨c1, c2, k1, k2, k3, k4⟩ := h.spans.c
  have hi : m / 32 < A.n := by omega
  have k5 := h.spans.clsAt hi
  have hw := rwords_c (A.cls (m / 32)) w
  have hcl := h.wf.cls _ hi
  -- the quotient and the rest, as letters
  obtain ⟨q, hq⟩ : ∃ q : Nat, q = m / 32 := ⟨_, rfl⟩
  obtain ⟨r, hr⟩ : ∃ r : Nat, r = m % 32 := ⟨_, rfl⟩
  have e1 : (m : Int).tdiv 32 = (q : Int) := by rw [Int.tdiv_eq_ediv_of_nonneg (by omega)]; omega
  have e2 : (m : Int).tmod 32 = (r : Int) := by rw [Int.tmod_eq_emod_of_nonneg (by omega)]; omega
  have e1' : (m : Int) / 32 = (q : Int) := by omega
  have e2' : (m : Int) % 32 = (r : Int) := by omega
  have hmq : m = q * 32 + r := by omega
  have hr32 : r < 32 := by omega
  rw [← hq] at k5 hw hcl hi
  have g1 : decide ((m : Int) ≥ 32 * A.n) = false := by simp; omega
  have g2 : (q : Int) < A.n := by omega
  have g3 : (0 : Int) ≤ (q : Int) := by omega
  clear hq hr ha hm
  by_cases hc : A.cls q = -1
  · have hr : (A.obj m).isSome = false := by
      cases e : A.obj m with
      | none => rfl
      | some o => obtain ⟨k, ws⟩ := o; exact absurd (by rw [show m / 32 = q from by omega]; exact hc) (h.wf.obj m k ws e).2.1
    rw [hr]
    rw [hc] at k5 hw
    have HW := Lib.hid (show Calls Tryz.prog 168 #[iv (-1)] w fun e w' => e = .returned (iv 0) ∧ Below w.heap.size w w' from hw)
    clear h hw hc hr hcl hmq hr32
    go_enter Tryz.func216, Tryz.ntmps216
    go_wp2_with fail
    refine HW.out.mono ?_
    rintro e w1 ⟨rfl, b1⟩
    have B1 := Lib.hid b1
    clear b1 HW
    go_wp2_with fail
    go_quiet (fail)
    go_wp2
    go_ret
    exact ⟨rfl, below_drewN B1.out _⟩
  · have hc4 := hcl.resolve_left hc
    obtain ⟨z, hz⟩ : ∃ z : Nat, z = wN (A.cls q) := ⟨_, rfl⟩
    have hwz : wordsC (A.cls q) = (z : Int) := by rw [hz]; rcases hc4 with e | e | e | e <;> rw [e] <;> rfl
    have hzz : 4 ≤ z ∧ z ≤ 32 ∧ z * sN (A.cls q) = 32 := by rw [hz]; rcases wN_pos hc4 with ⟨x, y⟩ | ⟨x, y⟩ | ⟨x, y⟩ | ⟨x, y⟩ <;> rw [x, y] <;> omega
    obtain ⟨z1, z2, z3⟩ := hzz
    rw [hwz] at hw
    have HW := Lib.hid hw
    have hdiv : r / z < sN (A.cls q) := by rw [Nat.div_lt_iff_lt_mul (by omega), Nat.mul_comm, z3]; exact hr32
    have hdm := Nat.div_add_mod r z
    have p1 : ((r : Int)).tmod (z : Int) = ((r % z : Nat) : Int) := by rw [Int.tmod_eq_emod_of_nonneg (by omega)]; exact (Int.natCast_emod r z).symm
    have p2 : ((r : Int)).tdiv (z : Int) = ((r / z : Nat) : Int) := by rw [Int.tdiv_eq_ediv_of_nonneg (by omega)]; exact (Int.natCast_ediv r z).symm
    have p1' : (r : Int) % (z : Int) = ((r % z : Nat) : Int) := (Int.natCast_emod r z).symm
    have p2' : (r : Int) / (z : Int) = ((r / z : Nat) : Int) := (Int.natCast_ediv r z).symm
    have hu : r % z = 0 → usedA A q (r / z) = (A.obj m).isSome := fun h0 => by
      unfold usedA
      rw [decide_eq_true hdiv, ← hz, show q * 32 + r / z * z = m from by rw [hmq, Nat.mul_comm (r / z)]; omega]; rfl
    have hsn : sN (A.cls q) ≤ 8 := by rcases wN_pos hc4 with ⟨x, y⟩ | ⟨x, y⟩ | ⟨x, y⟩ | ⟨x, y⟩ <;> omega
    have hus : r % z = 0 → ∀ w1, Below w.heap.size w w1 → Calls Tryz.prog 241 #[.pointer (some ⟨sb, 0, none⟩), iv q, iv ((r / z : Nat) : Int)] w1 fun e w' => e = .returned (.bool (A.obj m).isSome) ∧ w' = w1 := fun h0 w1 hb => by
      rw [← hu h0]
      exact (rused_c w1 (h.spans.below hb) q (r / z) hi (by omega)).mono fun e w' q => ⟨q.1, q.2.symm⟩
    have hno : r % z ≠ 0 → (A.obj m).isSome = false := fun h0 => by
      cases e : A.obj m with
      | none => rfl
      | some o =>
        obtain ⟨k, ws⟩ := o
        have := (h.wf.obj m k ws e).2.2.1
        rw [show m / 32 = q from by omega, show m % 32 = r from by omega, ← hz] at this
        exact absurd this h0
    have g5 : decide (0 < z) = true := by simp; omega
    have g7 : decide ((0 : Int) < (z : Int)) = true := by simp; omega
    have g6 : ((z : Int) == 0) = false := by simp; omega
    generalize hB : (A.obj m).isSome = B at hus hno ⊢
    have d8 : r / z ≤ 8 := by omega
    generalize r / z = d at p2 p2' hus d8
    generalize A.cls q = cq at k5 HW
    by_cases hz0 : r % z = 0
    · rw [hz0] at p1 p1'
      have HU := Lib.hid (hus hz0)
      clear h hw hc hcl hc4 hz hwz z3 hdiv hdm hu hus hno hB hsn hz0 hmq
      go_enter Tryz.func216, Tryz.ntmps216
      go_wp2_with fail
      refine HW.out.mono ?_
      rintro e w1 ⟨rfl, b1⟩
      have t0' := cell_later b1 t0
      have U1 := Lib.hid (fun k => HU.out (w1.drewN k) (below_drewN b1 k))
      have B1 := Lib.hid b1
      clear b1 HW HU
      go_wp2_with fail
      go_quiet ((go_at_call 241; exact Calls.quiet_of_same (U1.out _)))
      go_wp2
      go_ret
      exact ⟨rfl, below_drewN B1.out _⟩
    · have hr := hno hz0
      have g3 : (((r % z : Nat) : Int) == 0) = false := by simp; omega
      generalize r % z = rz at p1 p1' g3
      subst hr
      clear h hw hc hcl hc4 hz hwz z3 hdiv hdm hu hus hno hB hsn hz0 hmq
      go_enter Tryz.func216, Tryz.ntmps216
      go_wp2_with fail
      refine HW.out.mono ?_
      rintro e w1 ⟨rfl, b1⟩
      have B1 := Lib.hid b1
      clear b1 HW
      go_wp2_with fail
      go_quiet (fail)
      go_wp2
      go_ret
      exact ⟨rfl, below_drewN B1.out _⟩
end Go.Proofs.YtcnppdbgieaddaaGreat

namespace Go.Proofs.YtcnppdbgieaddaaGreat
open Go.RowKit
set_option linter.unusedVariables false
set_option linter.unusedSimpArgs false
variable {A : AS}

theorem rslotN_eq {c : Int} {i : Nat} (hc : A.cls i = c) : ∀ (d p : Nat), p + d ≤ sN c → rslotN (usedA A) i d p = slotN A c i d p
  | 0, p, h => rfl
  | d + 1, p, h => by
    have hu : usedA A i p = (A.obj (i * 32 + p * wN c)).isSome := by
      unfold usedA; rw [hc, decide_eq_true (by omega : p < sN c), Bool.true_and]
    simp only [rslotN, slotN, hu, rslotN_eq hc d (p + 1) (by omega)]
theorem rfindN_eq {c : Int} : ∀ (d p : Nat), rfindN A.cls (usedA A) c d p = findN A c d p
  | 0, p => rfl
  | d + 1, p => by
    simp only [rfindN, findN]
    by_cases h : A.cls p = c
    · rw [if_pos h, if_pos h, rslotN_eq h _ _ (by omega), rfindN_eq d (p + 1)]
      cases slotN A c p (sN c) 0 <;> rfl
    · rw [if_neg h, if_neg h, rfindN_eq d (p + 1)]
theorem rfreshN_eq (hw : WfAS A) : ∀ (d p : Nat), p + d ≤ A.n → rfreshN A.cls d p = freshN A d p
  | 0, p, _ => rfl
  | d + 1, p, h => by
    have := hw.cls p (by omega)
    simp only [rfreshN, freshN]
    by_cases e : A.cls p = -1
    · rw [if_pos e, if_pos (by omega)]
    · rw [if_neg e, if_neg (by omega), rfreshN_eq hw d (p + 1) (by omega)]
theorem rspot_eq (hw : WfAS A) (c : Int) : rspot A.n A.cls (usedA A) c = spotA A c := by
  unfold rspot spotA
  rw [rfindN_eq, rfreshN_eq hw _ _ (by omega)]
  cases findN A c A.n 0 with
  | some q => rfl
  | none => cases freshN A A.n 0 <;> rfl

theorem usedA_add (hw : WfAS A) {c : Int} (hc : c = 0 ∨ c = 1 ∨ c = 2 ∨ c = 3) {i s : Nat} (hi : i < A.n) (hs : s < sN c)
    (ho : (A.cls i = c ∧ A.obj (i * 32 + s * wN c) = none) ∨ (A.cls i = -1 ∧ s = 0)) {k : Int} {ws : List Int} : ∀ i' k', i' < A.n → k' < 8 → usedA (addA A c i s k ws) i' k' = updU (usedA A) i s true i' k' := by
  intro i' k' hi' hk'
  have hcl : (addA A c i s k ws).cls i' = if i' = i then c else A.cls i' := rfl
  simp only [usedA, updU]
  rw [hcl, add_get]
  by_cases e : i' = i
  · subst e
    rw [if_pos rfl]
    by_cases e2 : k' = s
    · subst e2
      rw [if_pos rfl, if_pos ⟨rfl, rfl⟩, decide_eq_true hs]; rfl
    · have hpos : i' * 32 + k' * wN c ≠ i' * 32 + s * wN c := by
        rcases wN_pos hc with ⟨w1, _⟩ | ⟨w1, _⟩ | ⟨w1, _⟩ | ⟨w1, _⟩ <;> rw [w1] <;> omega
      rw [if_neg hpos, if_neg (show ¬ (i' = i' ∧ k' = s) from fun q => e2 q.2)]
      rcases ho with ⟨o1, o2⟩ | ⟨o1, o2⟩
      · rw [o1]
      · rw [o1]
        have z : sN (-1) = 0 := rfl
        rw [z]
        simp only [Nat.not_lt_zero, decide_false, Bool.false_and]
        by_cases hk2 : k' < sN c
        · cases e3 : A.obj (i' * 32 + k' * wN c) with
          | none => simp
          | some o =>
            obtain ⟨k2, us⟩ := o
            have := (hw.obj _ _ _ e3).2.1
            rw [(spot_at hc hk2 (i := i')).1] at this
            exact absurd o1 this
        · simp [hk2]
  · rw [if_neg e, if_neg (show ¬ (i' = i ∧ k' = s) from fun q => e q.1)]
    by_cases e1 : A.cls i' = -1
    · rw [e1]
      have z : sN (-1) = 0 := rfl
      rw [z]; simp
    · have hc' := (hw.cls i' hi').resolve_left e1
      by_cases hk2 : k' < sN (A.cls i')
      · have hpos : i' * 32 + k' * wN (A.cls i') ≠ i * 32 + s * wN c := fun q => by
          have h1 := (spot_at hc' hk2 (i := i')).1
          have h2 := (spot_at hc hs (i := i)).1
          rw [q] at h1; omega
        rw [if_neg hpos]
      · simp [hk2]

variable {w w' : World} {ab sb cb tb wb : Nat} {f : Nat → Int}
/-- The words of a new object. -/
def newF (f : Nat → Int) (a m : Nat) (h : Int) : Nat → Int := fun x => if x = a then h else if a < x ∧ x < a + m then 0 else f x
theorem RAr.add (h : RAr w ab sb cb tb wb A f) {c : Int} (hc : c = 0 ∨ c = 1 ∨ c = 2 ∨ c = 3) {i s n : Nat} (hi : i < A.n) (hs : s < sN c)
    (ho : (A.cls i = c ∧ A.obj (i * 32 + s * wN c) = none) ∨ (A.cls i = -1 ∧ s = 0)) {k : Int} (hk : 1 ≤ k ∧ k ≤ 6) (hn : n < wN c) (htop : Blk w' ab [.pointer (some ⟨sb, 0, none⟩), .slice (some ⟨wb, 0, none⟩) (32 * A.n) (32 * A.n)])
    (hsp : RSp w' sb cb tb A.n (updN A.cls i c) (updU (usedA A) i s true)) (hce : Blk w' wb ((List.range (32 * A.n)).map fun j => iv (newF f (i * 32 + s * wN c) (wN c) (k + 16 * n) j))) :
    RAr w' ab sb cb tb wb (addA A c i s k (List.replicate n 0)) (newF f (i * 32 + s * wN c) (wN c) (k + 16 * n)) := by
  refine ⟨htop, hsp.congr (fun j _ => rfl) (usedA_add h.wf hc hi hs ho), hce, h.wf.add hc hi hs ho hk (by simpa using hn), fun a k' us ha => ?_, h.ne⟩
  rw [add_get] at ha
  by_cases e : a = i * 32 + s * wN c
  · rw [if_pos e] at ha
    cases ha
    subst e
    refine ⟨by simp [newF], fun j v hj => ?_⟩
    have hj' := (List.getElem?_eq_some_iff.1 hj).1
    simp only [List.length_replicate] at hj'
    simp only [newF]
    rw [if_neg (by omega), if_pos (by omega)]
    rw [List.getElem?_replicate, if_pos hj'] at hj
    cases hj; rfl
  · rw [if_neg e] at ha
    obtain ⟨y1, y2⟩ := h.obj a k' us ha
    have hwf' := h.wf.add hc hi hs ho hk (ws := List.replicate (wN c - 1) 0) (by simp; rcases wN_pos hc with ⟨w1, _⟩ | ⟨w1, _⟩ | ⟨w1, _⟩ | ⟨w1, _⟩ <;> omega)
    have hnew : (addA A c i s k (List.replicate (wN c - 1) 0)).obj (i * 32 + s * wN c) = some (k, List.replicate (wN c - 1) 0) := by rw [add_get, if_pos rfl]
    have hold : (addA A c i s k (List.replicate (wN c - 1) 0)).obj a = some (k', us) := by rw [add_get, if_neg e]; exact ha
    have ap : ∀ t, t ≤ us.length → ∀ j, j ≤ wN c - 1 → i * 32 + s * wN c + j ≠ a + t := fun t ht j hj => hwf'.apart hnew hold (fun q => e q.symm) (by simpa using hj) ht
    have hw1 : 1 ≤ wN c := by rcases wN_pos hc with ⟨w1, _⟩ | ⟨w1, _⟩ | ⟨w1, _⟩ | ⟨w1, _⟩ <;> omega
    have key : ∀ t, t ≤ us.length → newF f (i * 32 + s * wN c) (wN c) (k + 16 * n) (a + t) = f (a + t) := fun t ht => by
      unfold newF
      rw [if_neg (fun q => ap t ht 0 (by omega) (by omega)), if_neg (fun q => ap t ht (a + t - (i * 32 + s * wN c)) (by omega) (by omega))]
    refine ⟨by rw [← y1]; exact key 0 (by omega), fun j v hj => ?_⟩
    have hj' := (List.getElem?_eq_some_iff.1 hj).1
    rw [← y2 j v hj, Nat.add_assoc]
    exact key (1 + j) (by omega)

/-- A word is turned. -/
theorem RAr.setWord (h : RAr w ab sb cb tb wb A f) {a : Nat} {k : Int} {ws : List Int} (e : A.obj a = some (k, ws)) {i : Nat} (hi : i < ws.length) (v : Int) :
    RAr (w.setCell ⟨wb, a + 1 + i, none⟩ (iv v)) ab sb cb tb wb { A with obj := updO A.obj a (some (k, ws.set i v)) } (fun x => if x = a + 1 + i then v else f x) := by
  obtain ⟨n1, n2, n3, n4, n5, n6, n7⟩ := h.ne
  obtain ⟨s, p1, p2, p3, p4, p5⟩ := h.wf.slot e
  have hlt : a + 1 + i < 32 * A.n := by omega
  refine ⟨h.top.set_other n4 _ _, (h.spans.keep fun b hb => Below.heap_setCell _ _ _ _ (by rcases hb with rfl | rfl | rfl; exact fun q => n5 q.symm; exact fun q => n6 q.symm; exact fun q => n7 q.symm)).congr (fun _ _ => rfl) (fun i' k' _ _ => ?_), ?_, h.wf.upd e (by simp), fun b k' us hb => ?_, h.ne⟩
  · unfold usedA updO
    simp only
    by_cases q : i' * 32 + k' * wN (A.cls i') = a
    · rw [if_pos q, q, e]; rfl
    · rw [if_neg q]
  · have := h.cells.set (a + 1 + i) (iv v)
    have h2 := set_range_map (fun j => iv (f j)) (32 * A.n) (a + 1 + i) (iv v) [] hlt
    simp only [List.append_nil] at h2
    rw [h2] at this
    rw [show (List.range (32 * A.n)).map (fun j => iv (if j = a + 1 + i then v else f j)) = (List.range (32 * A.n)).map (fun j => if j = a + 1 + i then iv v else iv (f j)) from List.map_congr_left fun j _ => by by_cases q : j = a + 1 + i <;> simp [q]]
    exact this
  · simp only [updO] at hb
    by_cases e2 : b = a
    · rw [if_pos e2] at hb
      cases hb
      subst e2
      obtain ⟨y1, y2⟩ := h.obj b k ws e
      refine ⟨by rw [if_neg (by omega), y1, List.length_set], fun t x ht => ?_⟩
      rw [List.getElem?_set] at ht
      by_cases e3 : i = t
      · subst e3
        rw [if_pos rfl] at ht
        simp only [hi, if_true] at ht
        cases ht
        rw [if_pos rfl]
      · rw [if_neg e3] at ht
        rw [if_neg (by omega)]
        exact y2 t x ht
    · rw [if_neg e2] at hb
      obtain ⟨z1, z2⟩ := h.obj b k' us hb
      have ap : ∀ t, t ≤ us.length → a + (i + 1) ≠ b + t := fun t ht => h.wf.apart e hb (fun x => e2 x.symm) (by omega) ht
      refine ⟨by rw [if_neg (by have := ap 0 (by omega); omega)]; exact z1, fun t x ht => ?_⟩
      have ht' := getElem?_lt ht
      rw [if_neg (by have := ap (t + 1) (by omega); omega)]; exact z2 t x ht
end Go.Proofs.YtcnppdbgieaddaaGreat

namespace Go.Proofs.YtcnppdbgieaddaaGreat
open Go.RowKit
set_option linter.unusedVariables false
set_option linter.unusedSimpArgs false
variable {w w' w1 : World} {R : RLay} {s : PH}

theorem RLay.head_nodup (h : R.own.Nodup) : [R.hb, R.ab, R.sb, R.cb, R.tb, R.wb, R.kb].Nodup := (List.nodup_append.1 h).1
theorem RLay.ne_grey (h : R.own.Nodup) {b : Nat} (hb : b ∈ greyOwn R.gb R.gv) : b ≠ R.hb ∧ b ≠ R.ab ∧ b ≠ R.sb ∧ b ≠ R.cb ∧ b ≠ R.tb ∧ b ≠ R.wb ∧ b ≠ R.kb := by
  have key : ∀ x ∈ [R.hb, R.ab, R.sb, R.cb, R.tb, R.wb, R.kb], x ≠ b := fun x hx e => not_mem_of_nodup h hx (e ▸ hb)
  exact ⟨fun e => key _ (by simp) e.symm, fun e => key _ (by simp) e.symm, fun e => key _ (by simp) e.symm, fun e => key _ (by simp) e.symm, fun e => key _ (by simp) e.symm, fun e => key _ (by simp) e.symm, fun e => key _ (by simp) e.symm⟩

theorem range_set {f : Nat → Int} {n i : Nat} (hi : i < n) (x : Int) : ((List.range n).map fun j => iv (f j)).set i (iv x) = (List.range n).map fun j => iv (if j = i then x else f j) := by
  have h := set_range_map (fun j => iv (f j)) n i (iv x) [] hi
  simp only [List.append_nil] at h
  rw [h]
  exact List.map_congr_left fun j _ => by by_cases q : j = i <;> simp [q]

/-- A colour is laid. -/
theorem RefAt.setCol (h : RefAt w R s) {a : Nat} (ha : a < 32 * s.A.n) (c : Int) : RefAt (w.setCell ⟨R.kb, a, none⟩ (iv c)) R { s with m := updM s.m a c } := by
  have hh := RLay.head_nodup h.nodup
  simp only [List.nodup_cons, List.mem_cons, List.not_mem_nil, or_false, not_or] at hh
  obtain ⟨⟨_, _, _, _, _, n1⟩, ⟨_, _, _, _, n2⟩, ⟨_, _, _, n3⟩, ⟨_, _, n4⟩, ⟨_, n5⟩, n6, _⟩ := hh
  obtain ⟨f, hf⟩ := h.arena
  obtain ⟨g, hg, hc⟩ := h.cols
  have hk : ∀ b, b ≠ R.kb → (w.setCell ⟨R.kb, a, none⟩ (iv c)).heap[b]? = w.heap[b]? := fun b hb => Below.heap_setCell _ _ _ _ hb
  refine ⟨h.top.keep (hk _ n1), ⟨f, hf.keep fun b hb => hk b ?_⟩, ⟨fun j => if j = a then c else g j, ?_, fun b hb => ?_⟩, h.grey.keep fun b hb => hk b (RLay.ne_grey h.nodup hb).2.2.2.2.2.2, h.nodup, h.i64⟩
  · rcases hb with rfl | rfl | rfl | rfl | rfl <;> assumption
  · have := hg.set a (iv c)
    rw [range_set ha] at this
    exact this
  · simp only [updM]
    by_cases q : b = a
    · subst q; simp
    · rw [if_neg q, if_neg (by omega)]; exact hc b hb

/-- The arena is another one, with no more objects. -/
theorem RefAt.arenaTo (h : RefAt w R s) {A' : AS} {f' : Nat → Int} (ha : RAr w' R.ab R.sb R.cb R.tb R.wb A' f') (hn : A'.n = s.A.n) (st : Stp [R.cb, R.tb, R.wb] [R.cb, R.tb, R.wb] w w')
    (ho : ∀ a, (A'.obj a).isSome = true → (s.A.obj a).isSome = true) (h64 : A'.I64) : RefAt w' R { s with A := A' } := by
  have hh := RLay.head_nodup h.nodup
  simp only [List.nodup_cons, List.mem_cons, List.not_mem_nil, or_false, not_or] at hh
  obtain ⟨⟨_, _, a1, a2, a3, _⟩, ⟨_, b1, b2, b3, _⟩, ⟨_, _, _, _⟩, ⟨_, _, n4⟩, ⟨_, n5⟩, n6, _⟩ := hh
  obtain ⟨g, hg, hc⟩ := h.cols
  have key : ∀ b, b < w.heap.size → b ≠ R.cb → b ≠ R.tb → b ≠ R.wb → w'.heap[b]? = w.heap[b]? := fun b hb x y z => st.block b hb (by simp [x, y, z])
  refine ⟨?_, ⟨f', ha⟩, ⟨g, ?_, fun b hb => hc b (ho b hb)⟩, h.grey.keep fun b hb => ?_, h.nodup, h64⟩
  · show Blk w' R.hb [.pointer (some ⟨R.ab, 0, none⟩), .slice (some ⟨R.kb, 0, none⟩) (32 * A'.n) (32 * A'.n), .pointer (some ⟨R.gb, 0, none⟩), iv s.phase, iv s.span, iv s.cycles]
    rw [hn]; exact h.top.keep (key _ h.top.lt a1 a2 a3)
  · show Blk w' R.kb ((List.range (32 * A'.n)).map fun i => iv (g i))
    rw [hn]; exact hg.keep (key _ hg.lt (fun e => n4 e.symm) (fun e => n5 e.symm) (fun e => n6 e.symm))
  · obtain ⟨_, _, _, x, y, z, _⟩ := RLay.ne_grey h.nodup hb
    exact key b (h.grey.lt b hb) x y z
/-- An object more, and its colour. -/
theorem RefAt.allocTo (h : RefAt w R s) {A' : AS} {f' : Nat → Int} (ha : RAr w' R.ab R.sb R.cb R.tb R.wb A' f') (hn : A'.n = s.A.n) (st : Stp [R.cb, R.tb, R.wb] [R.cb, R.tb, R.wb] w w')
    {a : Nat} (hlt : a < 32 * s.A.n) (ho : ∀ b, b ≠ a → (A'.obj b).isSome = true → (s.A.obj b).isSome = true) (h64 : A'.I64) (c : Int) : RefAt (w'.setCell ⟨R.kb, a, none⟩ (iv c)) R { s with A := A', m := updM s.m a c } := by
  have hh := RLay.head_nodup h.nodup
  simp only [List.nodup_cons, List.mem_cons, List.not_mem_nil, or_false, not_or] at hh
  obtain ⟨⟨_, _, a1, a2, a3, n1⟩, ⟨_, b1, b2, b3, n2⟩, ⟨_, _, _, n3⟩, ⟨_, _, n4⟩, ⟨_, n5⟩, n6, _⟩ := hh
  obtain ⟨g, hg, hc⟩ := h.cols
  have key : ∀ b, b < w.heap.size → b ≠ R.cb → b ≠ R.tb → b ≠ R.wb → w'.heap[b]? = w.heap[b]? := fun b hb x y z => st.block b hb (by simp [x, y, z])
  have hk : ∀ b, b ≠ R.kb → (w'.setCell ⟨R.kb, a, none⟩ (iv c)).heap[b]? = w'.heap[b]? := fun b hb => Below.heap_setCell _ _ _ _ hb
  refine ⟨?_, ⟨f', ha.keep fun b hb => hk b ?_⟩, ⟨fun j => if j = a then c else g j, ?_, fun b hb => ?_⟩, h.grey.keep fun b hb => ?_, h.nodup, h64⟩
  · show Blk _ R.hb [.pointer (some ⟨R.ab, 0, none⟩), .slice (some ⟨R.kb, 0, none⟩) (32 * A'.n) (32 * A'.n), .pointer (some ⟨R.gb, 0, none⟩), iv s.phase, iv s.span, iv s.cycles]
    rw [hn]; exact (h.top.keep (key _ h.top.lt a1 a2 a3)).keep (hk _ n1)
  · rcases hb with rfl | rfl | rfl | rfl | rfl <;> assumption
  · show Blk _ R.kb ((List.range (32 * A'.n)).map fun i => iv (if i = a then c else g i))
    have := (hg.keep (key _ hg.lt (fun e => n4 e.symm) (fun e => n5 e.symm) (fun e => n6 e.symm))).set a (iv c)
    rw [range_set hlt] at this
    rw [hn]; exact this
  · simp only [updM]
    by_cases q : b = a
    · subst q; simp
    · rw [if_neg q, if_neg (by omega)]; exact hc b (ho b q hb)
  · obtain ⟨_, _, _, x, y, z, u⟩ := RLay.ne_grey h.nodup hb
    exact (hk b u).trans (key b (h.grey.lt b hb) x y z)
/-- The grey list is another one. -/
theorem rown_grey {v : Value} (hn : R.own.Nodup) (hl : ∀ b ∈ R.own, b < w.heap.size) (st : Stp (greyOwn R.gb R.gv) (greyOwn R.gb v) w w') (hne : v.ownBlock ≠ some R.gb) :
    ({ R with gv := v } : RLay).own.Nodup ∧ Stp R.own ({ R with gv := v } : RLay).own w w' := by
  have hd : ∀ b ∈ greyOwn R.gb v, b ∉ [R.hb, R.ab, R.sb, R.cb, R.tb, R.wb, R.kb] := by
    intro b hb hm
    rcases st.own b hb with h | h
    · exact not_mem_of_nodup hn hm h
    · have := hl b (by simp only [RLay.own, List.mem_append]; exact .inl hm)
      omega
  refine ⟨?_, ?_⟩
  · show ([R.hb, R.ab, R.sb, R.cb, R.tb, R.wb, R.kb] ++ greyOwn R.gb v).Nodup
    refine List.nodup_append.2 ⟨RLay.head_nodup hn, ?_, fun x hx y hy e => hd y hy (e ▸ hx)⟩
    unfold greyOwn
    cases e : v.ownBlock with
    | none => simp
    | some g => simp only [Option.toList_some, List.nodup_cons, List.mem_singleton, List.not_mem_nil, not_false_eq_true, List.nodup_nil, and_true]; intro h; exact hne (by rw [e, h])
  · refine ⟨st.os, st.tape, st.output, st.size, fun b hb hn => st.block b hb fun e => hn (by simp only [RLay.own, List.mem_append]; exact .inr e), fun b hb => ?_⟩
    have hb' : b ∈ [R.hb, R.ab, R.sb, R.cb, R.tb, R.wb, R.kb] ++ greyOwn R.gb v := hb
    rw [List.mem_append] at hb'
    rcases hb' with h | h
    · exact .inl (by simp only [RLay.own, List.mem_append]; exact .inl h)
    · rcases st.own b h with h | h
      · exact .inl (by simp only [RLay.own, List.mem_append]; exact .inr h)
      · exact .inr h
theorem RefAt.greyTo (h : RefAt w R s) {v : Value} {l : List Int} {over : Bool} (hg : RGrey w' R.gb v l over) (st : Stp (greyOwn R.gb R.gv) (greyOwn R.gb v) w w') :
    RefAt w' { R with gv := v } { s with l := l, over := over } ∧ Stp R.own ({ R with gv := v } : RLay).own w w' := by
  obtain ⟨hn, hs⟩ := rown_grey h.nodup h.lt st hg.ne
  have hk : ∀ b ∈ [R.hb, R.ab, R.sb, R.cb, R.tb, R.wb, R.kb], w'.heap[b]? = w.heap[b]? := fun b hb =>
    st.block b (h.lt b (by simp only [RLay.own, List.mem_append]; exact .inl hb)) fun e => not_mem_of_nodup h.nodup hb e
  obtain ⟨f, ha⟩ := h.arena
  obtain ⟨g, hc, hcc⟩ := h.cols
  refine ⟨⟨h.top.keep (hk _ (by simp)), ⟨f, ha.keep fun b hb => hk b ?_⟩, ⟨g, hc.keep (hk _ (by simp)), hcc⟩, hg, hn, h.i64⟩, hs⟩
  rcases hb with rfl | rfl | rfl | rfl | rfl <;> simp
theorem RefAt.c (h : RefAt w R s) (i : Nat) : w.cell? ⟨R.hb, i, none⟩ = [Value.pointer (some ⟨R.ab, 0, none⟩), .slice (some ⟨R.kb, 0, none⟩) (32 * s.A.n) (32 * s.A.n), .pointer (some ⟨R.gb, 0, none⟩), iv s.phase, iv s.span, iv s.cycles][i]? := h.top.cell i
theorem RefAt.c0 (h : RefAt w R s) : w.cell? ⟨R.hb, 0, none⟩ = some (.pointer (some ⟨R.ab, 0, none⟩)) := h.c 0
theorem RefAt.c1 (h : RefAt w R s) : w.cell? ⟨R.hb, 1, none⟩ = some (.slice (some ⟨R.kb, 0, none⟩) (32 * s.A.n) (32 * s.A.n)) := h.c 1
theorem RefAt.c2 (h : RefAt w R s) : w.cell? ⟨R.hb, 2, none⟩ = some (.pointer (some ⟨R.gb, 0, none⟩)) := h.c 2
theorem RefAt.c3 (h : RefAt w R s) : w.cell? ⟨R.hb, 3, none⟩ = some (iv s.phase) := h.c 3
theorem RefAt.c4 (h : RefAt w R s) : w.cell? ⟨R.hb, 4, none⟩ = some (iv s.span) := h.c 4
theorem RefAt.c5 (h : RefAt w R s) : w.cell? ⟨R.hb, 5, none⟩ = some (iv s.cycles) := h.c 5
end Go.Proofs.YtcnppdbgieaddaaGreat

namespace Go.Proofs.YtcnppdbgieaddaaGreat
open Go.RowKit
set_option linter.unusedVariables false
set_option linter.unusedSimpArgs false
variable {w w' : World}
/-- w' is w with new blocks. -/
def Ext (w w' : World) : Prop := Below w.heap.size w w'
theorem Ext.refl (w : World) : Ext w w := Below.refl _ _
theorem Ext.alloc (h : Ext w w') (o : Obj) : Ext w (w'.alloc o) := Below.alloc h h.size o
theorem Ext.drew (h : Ext w w') : Ext w w'.drew := Below.drew h
theorem Ext.drewN (h : Ext w w') (n : Nat) : Ext w (w'.drewN n) := below_drewN h n
theorem Ext.trans {w2 : World} (h : Ext w w') (k : Ext w' w2) : Ext w w2 := Below.trans h (Below.mono k h.size)
theorem Ext.of (h : Below w.heap.size w w') : Ext w w' := h
theorem Ext.toBelow (h : Ext w w') : Below w.heap.size w w' := h

theorem wp_append2 {P : Program} {w : World} {o : Oper} {a : Act} {K : Act → World → Prop} {Q : Exit → Act → World → Prop} (s x : Operand) (t : TypeId)
    (ho : o.op = .call { callee := .builtin .append, args := #[s, x], argTypes := #[t, t] })
    (base : Nat) (e : TypeId) (z : Value) (size bytes : Nat) (ht : P.underlying t = some (.slice e)) (hi : (P.info? e).map (fun i => (i.zero, i.size, i.bytes)) = some (some z, size, bytes))
    (hzs : z.cells.size = size) (hsz : 0 < size)
    {v : Value} {n : Nat} {xs : List Value} (hs : a.eval s = v) (hown : w.ownsRow base e size v n xs)
    (ad : Addr) (m c : Nat) (news : List Value) (hx : a.eval x = .slice (some ad) m c) (hl : news.length = m * size) (hnews : ∀ j u, news[j]? = some u → w.cell? (ad.add j) = some u) (h1 : ∀ u ∈ news, u.oneCell' = true)
    (h63 : n + m ≤ maxLen) (hbytes : (n + m) * bytes ≤ 140737488355328) (hbase : base ≤ w.heap.size)
    (h : ∀ v' w', w'.ownsRow base e size v' (n + m) (xs ++ news) → w.grownBy w' v.ownBlock → (v'.ownBlock = v.ownBlock ∨ v'.ownBlock = some w.heap.size) → K (a.put o.dst v') w') : o.wp P a w K Q := by
  obtain ⟨i0, hi0, hz0, hz1, hz2⟩ := info_parts hi
  obtain ⟨v', w', hr, h2, h3, h4⟩ := run_append2 (P := P) w base t o.type e i0 z size bytes ht hi0 hz0 hz1 hz2 hzs hsz v n xs hown ad m c news hl hnews h1 h63 hbytes hbase
  unfold Oper.wp execOp
  simp only [ho, resolve, invoke, builtin, Sem.run_bind, Sem.run_pure, Result.andThen_ok, List.map_toArray, List.map_cons, List.map_nil, hs, hx, hr]
  exact h v' w' h2 h3 h4
end Go.Proofs.YtcnppdbgieaddaaGreat
