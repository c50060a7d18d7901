/- The document's side: spans, made. The document's side: an arena, a heap, made. -/
import Derived.Test.YtcnppdbgieaddaaGreatQ3
import Derived.Test.YtcnppdbgieaddaaGreatQ2
import Derived.Test.YtcnppdbgieaddaaGreatQ4
namespace Go.Proofs.YtcnppdbgieaddaaGreat
open Go.RowKit
set_option linter.unusedVariables false
set_option linter.unusedSimpArgs false
variable {w w' : World}

theorem b8Info : (Tryz.prog.info? 285).map (fun i => (i.zero, i.size, i.bytes)) = some (some (.agg #[.bool false, .bool false, .bool false, .bool false, .bool false, .bool false, .bool false, .bool false]), 8, 8) := by kernel_rfl
/-- While the spans are made: their two slices; either may have a row more already. -/
structure QS (w0 : World) (sb : Nat) (v1 v2 : Value) (p : Nat) (x1 x2 : Option Value) (w : World) : Prop where
  below : Below w0.heap.size w0 w
  base : w0.heap.size ≤ sb
  top : Blk w sb [v1, v2]
  cls : w.ownsRow (sb + 1) 3 1 (x1.getD v1) (p + x1.toList.length) (List.replicate (p + x1.toList.length) (iv (-1)))
  slots : w.ownsRow (sb + 1) 285 8 (x2.getD v2) (p + x2.toList.length) (List.replicate (8 * (p + x2.toList.length)) (.bool false))
  ne : ∀ b, (x1.getD v1).ownBlock = some b → (x2.getD v2).ownBlock ≠ some b
variable {w0 : World} {sb p : Nat} {v1 v2 : Value} {x1 x2 : Option Value}
theorem QS.ext (h : QS w0 sb v1 v2 p x1 x2 w) (he : Ext w w') : QS w0 sb v1 v2 p x1 x2 w' :=
  ⟨h.below.trans (he.toBelow.mono h.below.size), h.base, h.top.keep (he.toBelow.block _ h.top.lt), ownsRow_keep h.cls fun b e => he.toBelow.block b (h.cls.lt b e).2, ownsRow_keep h.slots fun b e => he.toBelow.block b (h.slots.lt b e).2, h.ne⟩
theorem QS.done {a b : Value} (h : QS w0 sb v1 v2 p (some a) (some b) w) : QS w0 sb a b (p + 1) none none ((w.setCell ⟨sb, 0, none⟩ a).setCell ⟨sb, 1, none⟩ b) := by
  have h1 := h.cls; have h2 := h.slots; have h3 := h.ne
  simp only [Option.getD_some, Option.toList_some, List.length_singleton] at h1 h2 h3
  have k1 : ∀ c, a.ownBlock = some c → c ≠ sb := fun c e q => by have := (h1.lt c e).1; omega
  have k2 : ∀ c, b.ownBlock = some c → c ≠ sb := fun c e q => by have := (h2.lt c e).1; omega
  refine ⟨(h.below.setCell (p := ⟨sb, 0, none⟩) h.base _).setCell (p := ⟨sb, 1, none⟩) h.base _, h.base, by have := (h.top.set 0 a).set 1 b; exact this, ?_, ?_, h3⟩
  · exact ownsRow_keep h1 fun c e => (Below.heap_setCell _ _ _ _ (k1 c e)).trans (Below.heap_setCell _ _ _ _ (k1 c e))
  · exact ownsRow_keep h2 fun c e => (Below.heap_setCell _ _ _ _ (k2 c e)).trans (Below.heap_setCell _ _ _ _ (k2 c e))
theorem sz_drew (w : World) : w.drew.heap.size = w.heap.size := rfl
theorem Blk.newAt {w : World} {vs : List Value} {t : TypeId} {b : Nat} (h : w.heap.size = b) : Blk (w.alloc (.cells vs.toArray t)) b vs := h ▸ Blk.new w vs t
theorem step_q1 {ops : Array Oper} {o : Oper} {a : Act} {K : Act → World → Prop} {Q : Exit → Act → World → Prop} {E : Prop} (hgd : o.guard = none) (s x : Operand)
    (ho : o.op = .call { callee := .builtin .append, args := #[s, x], argTypes := #[25, 25] }) {W w : World} (hq : QS w0 sb v1 v2 p none x2 W) (hs : a.eval s = v1) (b : Nat) (hx : a.eval x = .slice (some ⟨b, 0, none⟩) 1 1) (he : Ext W w) (hc : Blk w b [iv (-1)]) (hp : p ≤ 1000)
    (h : ∀ v' w', QS w0 sb v1 v2 p (some v') x2 w' → (∀ c vs, W.heap.size ≤ c → Blk w c vs → Blk w' c vs) → K (a.put o.dst v') w') : if Region.wanted o (yielded ops a.tmps) = true then Oper.wp Tryz.prog o a w K Q else E := by
  rw [if_pos (show Region.wanted o (yielded ops a.tmps) = true by simp [Region.wanted, hgd])]
  have hqw := hq.ext he
  have hsz := hqw.top.lt
  have hown := hqw.cls
  simp only [Option.getD_none, Option.toList_none, List.length_nil, Nat.add_zero] at hown
  refine wp_append2 s x 25 ho (sb + 1) 3 (.int .i64 0) 1 8 Tryz.underlying25 intInfo rfl (by decide) hs hown ⟨b, 0, none⟩ 1 1 [iv (-1)] hx rfl (fun j u hu => ?_) (fun u hu => by simp at hu; subst hu; rfl) (by unfold maxLen; omega) (by omega) (by omega) ?_
  · match j, hu with
    | 0, hu => simp at hu; subst hu; exact hc.at 0 rfl
  · intro v' w' hown' hg halt
    have hv1 : ∀ c, v1.ownBlock = some c → sb + 1 ≤ c ∧ c < w.heap.size := fun c e => hown.lt c e
    refine h v' w' ⟨hqw.below.grown hg hqw.below.size (fun k hk => by have := (hv1 k hk).1; have := hq.base; omega), hq.base, hqw.top.keep (hg.block _ hsz (fun e => by have := (hv1 _ e.symm).1; omega)), ?_, ownsRow_keep hqw.slots fun c e => hg.block c (hqw.slots.lt c e).2 (fun q => hqw.ne c q.symm e), fun c e e2 => ?_⟩ (fun c vs hc hb => hb.keep (hg.block c hb.lt fun q => by have := (hq.cls.lt c q.symm).2; omega))
    · simp only [Option.getD_some, Option.toList_some, List.length_singleton]
      rw [List.replicate_succ']; exact hown'
    · simp only [Option.getD_some] at e
      rcases halt with q | q
      · rw [q] at e; exact hqw.ne c e e2
      · rw [q] at e; cases e; have := (hqw.slots.lt _ e2).2; omega
theorem step_q2 {ops : Array Oper} {o : Oper} {a : Act} {K : Act → World → Prop} {Q : Exit → Act → World → Prop} {E : Prop} (hgd : o.guard = none) (s x : Operand)
    (ho : o.op = .call { callee := .builtin .append, args := #[s, x], argTypes := #[276, 276] }) {W w : World} (hq : QS w0 sb v1 v2 p x1 none W) (hs : a.eval s = v2) (b : Nat) (hx : a.eval x = .slice (some ⟨b, 0, none⟩) 1 1) (he : Ext W w) (hc : Blk w b [.bool false, .bool false, .bool false, .bool false, .bool false, .bool false, .bool false, .bool false]) (hp : p ≤ 1000)
    (h : ∀ v' w', QS w0 sb v1 v2 p x1 (some v') w' → (∀ c vs, W.heap.size ≤ c → Blk w c vs → Blk w' c vs) → K (a.put o.dst v') w') : if Region.wanted o (yielded ops a.tmps) = true then Oper.wp Tryz.prog o a w K Q else E := by
  rw [if_pos (show Region.wanted o (yielded ops a.tmps) = true by simp [Region.wanted, hgd])]
  have hqw := hq.ext he
  have hsz := hqw.top.lt
  have hown := hqw.slots
  simp only [Option.getD_none, Option.toList_none, List.length_nil, Nat.add_zero] at hown
  refine wp_append2 s x 276 ho (sb + 1) 285 (.agg #[.bool false, .bool false, .bool false, .bool false, .bool false, .bool false, .bool false, .bool false]) 8 8 Tryz.underlying276 b8Info rfl (by decide) hs hown ⟨b, 0, none⟩ 1 1 [.bool false, .bool false, .bool false, .bool false, .bool false, .bool false, .bool false, .bool false] hx rfl (fun j u hu => ?_) (fun u hu => by simp at hu; subst hu; rfl) (by unfold maxLen; omega) (by omega) (by omega) ?_
  · have hadd : (⟨b, 0, none⟩ : Addr).add j = ⟨b, j, none⟩ := by unfold Addr.add; split <;> simp_all
    rw [hadd, hc.cell]; exact hu
  · intro v' w' hown' hg halt
    have hv2 : ∀ c, v2.ownBlock = some c → sb + 1 ≤ c ∧ c < w.heap.size := fun c e => hown.lt c e
    refine h v' w' ⟨hqw.below.grown hg hqw.below.size (fun k hk => by have := (hv2 k hk).1; have := hq.base; omega), hq.base, hqw.top.keep (hg.block _ hsz (fun e => by have := (hv2 _ e.symm).1; omega)), ownsRow_keep hqw.cls fun c e => hg.block c (hqw.cls.lt c e).2 (fun q => hqw.ne c e q.symm), ?_, fun c e e2 => ?_⟩ (fun c vs hc hb => hb.keep (hg.block c hb.lt fun q => by have := (hq.slots.lt c q.symm).2; omega))
    · simp only [Option.getD_some, Option.toList_some, List.length_singleton]
      have : List.replicate (8 * (p + 1)) (Value.bool false) = List.replicate (8 * p) (.bool false) ++ [.bool false, .bool false, .bool false, .bool false, .bool false, .bool false, .bool false, .bool false] := by
        rw [show 8 * (p + 1) = 8 * p + 8 from by omega, ← List.replicate_append_replicate]; rfl
      rw [this]; exact hown'
    · simp only [Option.getD_some] at e2
      rcases halt with q | q
      · rw [q] at e2; exact hqw.ne c e e2
      · rw [q] at e2; cases e2; have := (hqw.cls.lt _ e).2; omega

set_option maxRecDepth 100000 in
set_option maxHeartbeats 8000000 in
theorem rspans_new_c (n : Nat) (h1 : 2 ≤ n) (h2 : n ≤ 128) (w : World) : Calls Tryz.prog 237 #[iv n] w fun e w' => ∃ v1 v2, e = .returned (.tuple #[.pointer (some ⟨w.heap.size, 0, none⟩), iv 0]) ∧ QS w w.heap.size v1 v2 n none none w' := by
  go_enter Tryz.func237, Tryz.ntmps237
  go_wp2
  have hS : QS w w.heap.size (.slice none 0 0) (.slice none 0 0) 0 none none (w.alloc (.cells #[.slice none 0 0, .slice none 0 0] 278)) := by
    refine ⟨(Below.refl _ _).alloc (Nat.le_refl _) _, Nat.le_refl _, Blk.new w _ _, World.ownsRow_nil _ _ _ _, World.ownsRow_nil _ _ _ _, fun b e => by cases e⟩
  go_loopw [5] (fun v5 wr => ∃ p : Nat, p ≤ n ∧ v5 = iv p ∧ ∃ v1 v2, Hid (QS w w.heap.size v1 v2 p none none wr)) (fun v5 _ => n - (intOf v5).toNat)
  case atStart => exact ⟨0, Nat.zero_le _, rfl, _, _, hS⟩
  case round =>
    obtain ⟨p, hp, rfl, v1, v2, hh⟩ := hrel
    clear hS
    by_cases hlt : p < n
    · have k0 := hh.out.top.at 0 rfl; have k1 := hh.out.top.at 1 rfl
      obtain ⟨o1, c1, e1⟩ := own_form hh.out.cls
      obtain ⟨o2, c2, e2⟩ := own_form hh.out.slots
      simp only [Option.getD_none] at e1 e2
      subst e1; subst e2
      have hlt' : (p : Int) < n := by omega
      go_wp2_with fail
      have l0 := hh.out.top.lt
      have l1 := Nat.ne_of_lt l0
      have n0 := World.new_ne _ _ k0
      have n1 := World.new_ne _ _ k1
      go_region_law ((first | (refine step_q1 rfl (.tmp 24) (.tmp 25) rfl HQ01 rfl _ rfl ?_ ?_ ?_ ?_; (repeat (first | exact Ext.refl _ | refine Ext.alloc ?_ _ | refine Ext.drew ?_)); (first | exact Blk.newAt (by simp [sz_drew]) | exact (Blk.newAt (by simp [sz_drew])).alloc _ | exact (Blk.newAt (by simp [sz_drew])).drew | exact ((Blk.newAt (by simp [sz_drew])).alloc _).drew | exact ((Blk.newAt (by simp [sz_drew])).drew).alloc _ | exact (((Blk.newAt (by simp [sz_drew])).drew).alloc _).drew | (refine HK01 _ _ ?_ ?_; (simp [World.size_alloc]); exact Blk.newAt (by simp [sz_drew])) | (refine HK01 _ _ ?_ ?_; (simp [World.size_alloc]); exact (Blk.newAt (by simp [sz_drew])).alloc _) | (refine HK01 _ _ ?_ ?_; (simp [World.size_alloc]); exact (Blk.newAt (by simp [sz_drew])).drew) | (refine HK01 _ _ ?_ ?_; (simp [World.size_alloc]); exact ((Blk.newAt (by simp [sz_drew])).alloc _).drew) | (refine HK01 _ _ ?_ ?_; (simp [World.size_alloc]); exact ((Blk.newAt (by simp [sz_drew])).drew).alloc _) | (refine HK01 _ _ ?_ ?_; (simp [World.size_alloc]); exact (((Blk.newAt (by simp [sz_drew])).drew).alloc _).drew)); omega; intro v' w' HQ11 HK11; obtain ⟨oa, ca, ea⟩ := own_form HQ11.cls; simp only [Option.getD_some, Option.toList_some, List.length_singleton] at ea; subst ea; have k0' := HQ11.top.at 0 rfl; have k1' := HQ11.top.at 1 rfl; have f0' := HQ11.top.free 0; have f1' := HQ11.top.free 1; have l0' := HQ11.top.lt; have l1' := Nat.ne_of_lt l0'; have n0' := World.new_ne _ _ k0'; have n1' := World.new_ne _ _ k1') | (refine step_q1 rfl (.tmp 24) (.tmp 25) rfl hh.out rfl _ rfl ?_ ?_ ?_ ?_; (repeat (first | exact Ext.refl _ | refine Ext.alloc ?_ _ | refine Ext.drew ?_)); (first | exact Blk.newAt (by simp [sz_drew]) | exact (Blk.newAt (by simp [sz_drew])).alloc _ | exact (Blk.newAt (by simp [sz_drew])).drew | exact ((Blk.newAt (by simp [sz_drew])).alloc _).drew | exact ((Blk.newAt (by simp [sz_drew])).drew).alloc _ | exact (((Blk.newAt (by simp [sz_drew])).drew).alloc _).drew); omega; intro v' w' HQ10 HK10; obtain ⟨oa, ca, ea⟩ := own_form HQ10.cls; simp only [Option.getD_some, Option.toList_some, List.length_singleton] at ea; subst ea; have k0' := HQ10.top.at 0 rfl; have k1' := HQ10.top.at 1 rfl; have f0' := HQ10.top.free 0; have f1' := HQ10.top.free 1; have l0' := HQ10.top.lt; have l1' := Nat.ne_of_lt l0'; have n0' := World.new_ne _ _ k0'; have n1' := World.new_ne _ _ k1') | (refine step_q2 rfl (.tmp 30) (.tmp 32) rfl HQ10 rfl _ rfl ?_ ?_ ?_ ?_; (repeat (first | exact Ext.refl _ | refine Ext.alloc ?_ _ | refine Ext.drew ?_)); (first | exact Blk.newAt (by simp [sz_drew]) | exact (Blk.newAt (by simp [sz_drew])).alloc _ | exact (Blk.newAt (by simp [sz_drew])).drew | exact ((Blk.newAt (by simp [sz_drew])).alloc _).drew | exact ((Blk.newAt (by simp [sz_drew])).drew).alloc _ | exact (((Blk.newAt (by simp [sz_drew])).drew).alloc _).drew | (refine HK10 _ _ ?_ ?_; (simp [World.size_alloc]); exact Blk.newAt (by simp [sz_drew])) | (refine HK10 _ _ ?_ ?_; (simp [World.size_alloc]); exact (Blk.newAt (by simp [sz_drew])).alloc _) | (refine HK10 _ _ ?_ ?_; (simp [World.size_alloc]); exact (Blk.newAt (by simp [sz_drew])).drew) | (refine HK10 _ _ ?_ ?_; (simp [World.size_alloc]); exact ((Blk.newAt (by simp [sz_drew])).alloc _).drew) | (refine HK10 _ _ ?_ ?_; (simp [World.size_alloc]); exact ((Blk.newAt (by simp [sz_drew])).drew).alloc _) | (refine HK10 _ _ ?_ ?_; (simp [World.size_alloc]); exact (((Blk.newAt (by simp [sz_drew])).drew).alloc _).drew)); omega; intro v' w' HQ11 HK11; obtain ⟨oa, ca, ea⟩ := own_form HQ11.slots; simp only [Option.getD_some, Option.toList_some, List.length_singleton] at ea; subst ea; have k0' := HQ11.top.at 0 rfl; have k1' := HQ11.top.at 1 rfl; have f0' := HQ11.top.free 0; have f1' := HQ11.top.free 1; have l0' := HQ11.top.lt; have l1' := Nat.ne_of_lt l0'; have n0' := World.new_ne _ _ k0'; have n1' := World.new_ne _ _ k1') | (refine step_q2 rfl (.tmp 30) (.tmp 32) rfl hh.out rfl _ rfl ?_ ?_ ?_ ?_; (repeat (first | exact Ext.refl _ | refine Ext.alloc ?_ _ | refine Ext.drew ?_)); (first | exact Blk.newAt (by simp [sz_drew]) | exact (Blk.newAt (by simp [sz_drew])).alloc _ | exact (Blk.newAt (by simp [sz_drew])).drew | exact ((Blk.newAt (by simp [sz_drew])).alloc _).drew | exact ((Blk.newAt (by simp [sz_drew])).drew).alloc _ | exact (((Blk.newAt (by simp [sz_drew])).drew).alloc _).drew); omega; intro v' w' HQ01 HK01; obtain ⟨oa, ca, ea⟩ := own_form HQ01.slots; simp only [Option.getD_some, Option.toList_some, List.length_singleton] at ea; subst ea; have k0' := HQ01.top.at 0 rfl; have k1' := HQ01.top.at 1 rfl; have f0' := HQ01.top.free 0; have f1' := HQ01.top.free 1; have l0' := HQ01.top.lt; have l1' := Nat.ne_of_lt l0'; have n0' := World.new_ne _ _ k0'; have n1' := World.new_ne _ _ k1')))
      all_goals
        have HD := Lib.hid HQ11.done
        clear HQ11 k0' k1' f0' f1' l0' l1' n0' n1' k0 k1 n0 n1 l0 l1
        go_wp2
        go_roundw
        case rel => exact ⟨p + 1, by omega, by go_num, _, _, HD⟩
        case measure => simp [intOf]; omega
    · obtain rfl : p = n := by omega
      go_wp2
      go_ret2
      exact ⟨_, _, rfl, hh.out⟩
end Go.Proofs.YtcnppdbgieaddaaGreat

namespace Go.Proofs.YtcnppdbgieaddaaGreat
open Go.RowKit
set_option linter.unusedVariables false
set_option linter.unusedSimpArgs false
variable {w w' w0 : World} {sb n : Nat} {v1 v2 : Value}

theorem own_block {base : Nat} {e : TypeId} {size : Nat} {v : Value} {n : Nat} {xs : List Value} (h : w.ownsRow base e size v n xs) (hn : 0 < n) : ∃ g cap t, v = .slice (some ⟨g, 0, none⟩) n cap ∧ n ≤ cap ∧ base ≤ g ∧ Blk w g (xs ++ t) := by
  obtain ⟨h1, ⟨_, h3⟩ | ⟨g, cap, cur, hv, hb, hg, hc, hm, hs, ht⟩⟩ := h
  · omega
  · refine ⟨g, cap, cur.toList.drop (n * size), hv, hc, hb, ⟨e, ?_⟩⟩
    rw [hg, ← ht]; simp
theorem QS.rsp (h : QS w0 sb v1 v2 n none none w) (h1 : 2 ≤ n) (h2 : n ≤ 128) : ∃ cb tb, RSp w sb cb tb n (fun _ => -1) (fun _ _ => false) ∧ sb < cb ∧ sb < tb := by
  have hc := h.cls; have hs := h.slots
  simp only [Option.getD_none, Option.toList_none, List.length_nil, Nat.add_zero] at hc hs
  have hne := h.ne
  simp only [Option.getD_none] at hne
  obtain ⟨cb, c1, t1, e1, k1, b1, B1⟩ := own_block hc (by omega)
  obtain ⟨tb, c2, t2, e2, k2, b2, B2⟩ := own_block hs (by omega)
  subst e1; subst e2
  have q := hne cb rfl
  refine ⟨cb, tb, ⟨⟨c1, c2, h.top, k1, k2⟩, ⟨t1, ?_⟩, ⟨t2, ?_⟩, ⟨by omega, by omega, fun e => q (by rw [e]; rfl)⟩, h2⟩, by omega, by omega⟩
  · rw [show (List.range n).map (fun i => iv (-1)) = List.replicate n (iv (-1)) from by rw [List.map_const', List.length_range]]; exact B1
  · rw [show (List.range (8 * n)).map (fun j => Value.bool false) = List.replicate (8 * n) (.bool false) from by rw [List.map_const', List.length_range]]; exact B2
theorem make_ints (m : Nat) (hm : m ≤ 4096) (w : World) : (Instr.makeSlice 25 (.int .i64 (m : Int)) (.int .i64 (m : Int))).run Tryz.prog w =
    .ok (.slice (some ⟨w.heap.size, 0, none⟩) m m) (w.alloc (.cells ((List.range m).map fun _ => iv 0).toArray 3)) := by
  obtain ⟨i0, hi, hz0, hz1, hz2⟩ := info_parts intInfo
  have := run_make (P := Tryz.prog) w 25 3 i0 (.int .i64 0) Tryz.underlying25 hi hz0 .i64 .i64 (m : Int) (m : Int) (by omega) (by omega) (by rw [hz2]; omega) (by omega)
  rw [this, hz1]
  have e1 : ((m : Int)).toNat = m := by omega
  rw [e1, Nat.mul_one]
  have e2 : madeCells (Value.int .i64 0).cells m = ((List.range m).map fun _ => iv 0).toArray := by
    apply Array.ext
    · simp [madeCells]
    · intro i h1 h2
      simp [madeCells, Value.cells, Nat.mod_one]
  rw [e2]
theorem usedA_empty (n i k : Nat) : usedA (AS.empty n) i k = false := by
  unfold usedA AS.empty; simp
def RNewPost (n : Nat) (w : World) (e : Ending) (w' : World) : Prop := ∃ ab sb cb tb wb, e = .returned (.tuple #[.pointer (some ⟨ab, 0, none⟩), iv 0]) ∧ RAr w' ab sb cb tb wb (AS.empty n) (fun _ => 0) ∧ (w.heap.size ≤ ab ∧ w.heap.size ≤ sb ∧ w.heap.size ≤ cb ∧ w.heap.size ≤ tb ∧ w.heap.size ≤ wb) ∧ Below w.heap.size w w'
theorem rarena_new_c (n : Nat) (h1 : 2 ≤ n) (h2 : n ≤ 128) (w : World) : Calls Tryz.prog 195 #[iv n] w (RNewPost n w) := by
  have hs := Lib.hid (rspans_new_c n h1 h2 w)
  have hm := make_ints (32 * n) (by omega)
  have e1 : ((32 * n : Nat) : Int) = (n : Int) * 32 := by omega
  rw [e1] at hm
  clear e1
  go_enter Tryz.func195, Tryz.ntmps195
  go_wp2_with fail
  refine hs.out.mono ?_
  rintro e w1 ⟨v1, v2, rfl, Q1⟩
  have HQ := Lib.hid Q1; clear Q1 hs
  go_wp2
  go_ret2
  obtain ⟨cb, tb, S, l1, l2⟩ := HQ.out.rsp h1 h2
  have hb := HQ.out.below
  have hsz := hb.size
  obtain ⟨p1, p2, p3⟩ := S.lt
  refine ⟨w1.heap.size + 1, w.heap.size, cb, tb, w1.heap.size, rfl, ⟨?_, ?_, ?_, (RepA.empty n).wf, fun a k ws h => (by cases h), by omega⟩, ⟨by omega, by omega, by omega, by omega, by omega⟩, (hb.alloc hsz _).alloc (by simp; omega) _⟩
  · have := Blk.new (w1.alloc (.cells ((List.range (32 * n)).map fun _ => iv 0).toArray 3)) [.pointer (some ⟨w.heap.size, 0, none⟩), .slice (some ⟨w1.heap.size, 0, none⟩) (32 * n) (32 * n)] 221
    simp only [World.size_alloc] at this
    exact this
  · have S2 := (S.below ((Below.refl _ _).alloc (Nat.le_refl _) (.cells ((List.range (32 * n)).map fun _ => iv 0).toArray 3))).below ((Below.refl _ _).alloc (Nat.le_refl _) (.cells #[.pointer (some ⟨w.heap.size, 0, none⟩), .slice (some ⟨w1.heap.size, 0, none⟩) (32 * n) (32 * n)] 221))
    exact S2.congr (fun _ _ => rfl) (fun i k _ _ => usedA_empty n i k)
  · exact (Blk.new w1 _ _).alloc _
theorem rheap_new_c (n : Nat) (h1 : 2 ≤ n) (h2 : n ≤ 128) (w : World) : Calls Tryz.prog 101 #[iv n] w fun e w' => ∃ R, e = .returned (.tuple #[rptr R, iv 0]) ∧ RefAt w' R { A := AS.empty n, m := fun _ => 0, l := [], over := false, phase := 0, span := 0, cycles := 0 } ∧ (∀ b ∈ R.own, w.heap.size ≤ b) ∧ Below w.heap.size w w' := by
  have hs := Lib.hid (rarena_new_c n h1 h2 w)
  have hm := make_ints (32 * n) (by omega)
  have e1 : ((32 * n : Nat) : Int) = 32 * (n : Int) := by omega
  have hm2 := hm
  rw [e1] at hm2
  clear e1
  go_enter Tryz.func101, Tryz.ntmps101
  go_wp2_with fail
  refine hs.out.mono ?_
  rintro e w1 ⟨ab, sb, cb, tb, wb, rfl, A1, ⟨l1, l2, l3, l4, l5⟩, b1⟩
  have c1 : w1.cell? ⟨ab, 1, none⟩ = some (.slice (some ⟨wb, 0, none⟩) (32 * n) (32 * n)) := A1.top.at 1 rfl
  have HA1 := Lib.hid A1; have HB1 := Lib.hid b1; clear A1 b1 hs
  go_wp2
  go_ret2
  have hsz := HB1.out.size
  obtain ⟨p1, p2, p3, p4, p5⟩ := HA1.out.lt
  obtain ⟨n1, n2, n3, n4, n5, n6, n7⟩ := HA1.out.ne
  obtain ⟨m1, m2, m3⟩ := HA1.out.spans.ne
  have A3 := ((HA1.out.below ((Below.refl _ _).alloc (Nat.le_refl _) (.cells ((List.range (32 * n)).map fun _ => iv 0).toArray 3))).below ((Below.refl _ _).alloc (Nat.le_refl _) (.cells #[.slice none 0 0, .bool false] 205))).below ((Below.refl _ _).alloc (Nat.le_refl _) (.cells #[.pointer (some ⟨ab, 0, none⟩), .slice (some ⟨w1.heap.size, 0, none⟩) (32 * n) (32 * n), .pointer (some ⟨w1.heap.size + 1, 0, none⟩), iv 0, iv 0, iv 0] 88))
  refine ⟨⟨w1.heap.size + 2, ab, sb, cb, tb, wb, w1.heap.size, w1.heap.size + 1, .slice none 0 0⟩, rfl, ⟨?_, ⟨_, A3⟩, ⟨fun _ => 0, ?_, fun a h => by cases h⟩, ⟨?_, World.ownsRow_nil _ _ _ _, by simp [Value.ownBlock], by simp⟩, ?_, fun _ _ _ h => (by cases h)⟩, ?_, ((HB1.out.alloc hsz _).alloc (by simp; omega) _).alloc (by simp; omega) _⟩
  · have := Blk.new ((w1.alloc (.cells ((List.range (32 * n)).map fun _ => iv 0).toArray 3)).alloc (.cells #[.slice none 0 0, .bool false] 205)) [.pointer (some ⟨ab, 0, none⟩), .slice (some ⟨w1.heap.size, 0, none⟩) (32 * n) (32 * n), .pointer (some ⟨w1.heap.size + 1, 0, none⟩), iv 0, iv 0, iv 0] 88
    simp only [World.size_alloc] at this
    exact this
  · exact ((Blk.new w1 _ _).alloc _).alloc _
  · have := Blk.new (w1.alloc (.cells ((List.range (32 * n)).map fun _ => iv 0).toArray 3)) [.slice none 0 0, .bool false] 205
    simp only [World.size_alloc] at this
    exact this.alloc _
  · simp only [RLay.own, greyOwn, Value.ownBlock, Option.toList_none]
    simp only [List.cons_append, List.nil_append, List.nodup_cons, List.mem_cons, List.not_mem_nil, or_false, not_or, not_false_eq_true, List.nodup_nil, and_true]
    refine ⟨⟨by omega, by omega, by omega, by omega, by omega, by omega, by omega⟩, ⟨n1, n2, n3, n4, by omega, by omega⟩, ⟨m1, m2, fun e => n5 e.symm, by omega, by omega⟩, ⟨m3, fun e => n6 e.symm, by omega, by omega⟩, ⟨fun e => n7 e.symm, by omega, by omega⟩, ⟨by omega, by omega⟩, by omega⟩
  · intro b hb
    simp only [RLay.own, greyOwn, Value.ownBlock, Option.toList_none, List.mem_append, List.mem_cons, List.not_mem_nil, or_false] at hb
    omega
end Go.Proofs.YtcnppdbgieaddaaGreat
