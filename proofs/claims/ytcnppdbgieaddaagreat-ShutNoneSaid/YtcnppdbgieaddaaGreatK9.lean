/- Who waits at a channel: the ends of a list, a sudog, its next. Who waits at a channel: all of them. From one world on: the heap stands at s now, variables at V; the contracts so. Who waits at a channel: one more. -/
import Derived.Test.YtcnppdbgieaddaaGreatK7
import Derived.Test.YtcnppdbgieaddaaGreatK8
namespace Go.Proofs.YtcnppdbgieaddaaGreat
open Go.RowKit
set_option linter.unusedVariables false
set_option linter.unusedSimpArgs false
variable {w w' : World} {L : Lay} {s : PH}
attribute [local go_sem ↓] Go.wp_at_zero Go.wp_at_succ

def endsC (c : PChan) (send : Bool) : Int × Int := if send = true then (c.sh, c.st) else (c.th, c.tt)
def intoC (c : PChan) (send : Bool) (x : Int × Int) : PChan := if send = true then { c with sh := x.1, st := x.2 } else { c with th := x.1, tt := x.2 }
abbrev endsV (x : Int × Int) : Value := .agg #[iv x.1, iv x.2]

theorem of_list_c (c : PChan) (send : Bool) (w : World) : Calls Tryz.prog 114 #[c.v, .bool send] w fun e w' => e = .returned (endsV (endsC c send)) ∧ Below w.heap.size w w' := by
  obtain ⟨x0, x1, x2, x3, x4, x5, x6, x7, x8⟩ := c
  cases send with
  | true =>
    go_enter Tryz.func114, Tryz.ntmps114
    go_wp2
    refine bodyPost_ret (v := endsV (x7, x8)) (by simp [results, Tryz.results114, go_sem]) rfl ⟨rfl, ?_⟩
    exact ((Below.refl _ _).alloc (Nat.le_refl _) _).alloc (by simp) _
  | false =>
    go_enter Tryz.func114, Tryz.ntmps114
    go_wp2
    refine bodyPost_ret (v := endsV (x5, x6)) (by simp [results, Tryz.results114, go_sem]) rfl ⟨rfl, ?_⟩
    exact ((Below.refl _ _).alloc (Nat.le_refl _) _).alloc (by simp) _

set_option maxHeartbeats 1000000 in
theorem into_c (c : PChan) (send : Bool) (x : Int × Int) (w : World) : Calls Tryz.prog 116 #[c.v, .bool send, endsV x] w fun e w' => e = .returned (intoC c send x).v ∧ Below w.heap.size w w' := by
  obtain ⟨x0, x1, x2, x3, x4, x5, x6, x7, x8⟩ := c
  obtain ⟨y0, y1⟩ := x
  cases send with
  | true =>
    go_enter Tryz.func116, Tryz.ntmps116
    go_wp2_with fail
    go_region
    all_goals
      go_wp2
      refine bodyPost_ret (v := (PChan.mk x0 x1 x2 x3 x4 x5 x6 y0 y1).v) (by simp [results, Tryz.results116, go_sem]) rfl ⟨rfl, ?_⟩
      exact ((((Below.refl _ _).alloc (Nat.le_refl _) _).alloc (by simp) _).alloc (by simp; omega) _).drew
  | false =>
    go_enter Tryz.func116, Tryz.ntmps116
    go_wp2_with fail
    go_region
    all_goals
      go_wp2
      refine bodyPost_ret (v := (PChan.mk x0 x1 x2 x3 x4 y0 y1 x7 x8).v) (by simp [results, Tryz.results116, go_sem]) rfl ⟨rfl, ?_⟩
      exact ((((Below.refl _ _).alloc (Nat.le_refl _) _).alloc (by simp) _).alloc (by simp; omega) _).drew

abbrev lookV : Option PSudog → Value | none => .nilIface | some x => .iface 36 x.v
theorem llook_c (w : World) (h : HeapAt w L s) (a : Int) : Calls Tryz.prog 125 #[hptr L, iv a] w fun e w' => e = .returned (lookV (sudogA s.A a)) ∧ Below w.heap.size w w' := by
  have hs := vsudog_c w h a
  unfold sudogR at hs
  cases e : sudogA s.A a with
  | none =>
    rw [e] at hs
    have HS := Lib.hid hs; clear hs h e
    go_enter Tryz.func125, Tryz.ntmps125
    go_wp2_with fail
    refine HS.out.mono ?_
    rintro e w1 ⟨rfl, b1⟩
    go_wp2
    go_ret
    exact ⟨rfl, b1.alloc b1.size _⟩
  | some x =>
    rw [e] at hs
    obtain ⟨x0, x1, x2, x3, x4, x5, x6⟩ := x
    have HS := Lib.hid hs; clear hs h e
    go_enter Tryz.func125, Tryz.ntmps125
    go_wp2_with fail
    refine HS.out.mono ?_
    rintro e w1 ⟨rfl, b1⟩
    go_wp2
    go_ret
    exact ⟨rfl, b1.alloc b1.size _⟩

/-- A sudog's next is laid. -/
def followH (s : PH) (a next : Int) : PH := match sudogA s.A a with | some x => (putSudogH s a { x with next := next }).1 | none => s
theorem sudogA_value (h : s.A.I64) {a : Int} {x : PSudog} (e : sudogA s.A a = some x) : I64 x.value := by
  unfold sudogA at e
  cases e2 : seenA s.A a 3 with
  | none => rw [e2] at e; cases e
  | some ws =>
    rw [e2] at e
    cases e
    have h64 := seenA_i64 h e2
    obtain ⟨x0, x1, x2, x3, x4, x5, x6, rfl⟩ := list7 (seenA_some e2).2
    exact h64 x2 (by simp)
theorem follow_c (w : World) (h : HeapAt w L s) (a next : Int) : Calls Tryz.prog 115 #[hptr L, iv a, iv next] w (HPost L (followH s a next) (.tuple #[]) w) := by
  have hl := llook_c w h a
  unfold followH
  cases e : sudogA s.A a with
  | none =>
    rw [e] at hl
    have hend := fun w1 (hb : Below w.heap.size w w1) => HPost.same h (.tuple #[]) hb
    have HL := Lib.hid hl; have HE := Lib.hid hend; clear hl h e hend
    go_enter Tryz.func115, Tryz.ntmps115
    go_wp2_with fail
    refine HL.out.mono ?_
    rintro e w1 ⟨rfl, b1⟩
    go_wp2
    exact bodyPost_ret (results_none rfl _ _ _) rfl (HE.out _ (b1.alloc b1.size _))
  | some x =>
    rw [e] at hl
    simp only
    have hp := fun w1 (hb : Below w.heap.size w w1) => putSudog_c w1 (h.below hb) a { x with next := next } (show I64 x.value from sudogA_value h.i64 e)
    generalize putSudogH s a { x with next := next } = R at hp ⊢
    have hend : ∀ (w1 w2 : World) (L' : Lay), Below w.heap.size w w1 → HeapAt w2 L' R.1 → L'.hb = L.hb → L'.ab = L.ab → Stp L.own L'.own w1 w2 → HPost L R.1 (.tuple #[]) w (.returned (.tuple #[])) w2 := fun w1 w2 L' hb h1 h2 h3 h4 => ⟨rfl, L', h1, h2, h3, (Stp.below hb).trans h4⟩
    obtain ⟨x0, x1, x2, x3, x4, x5, x6⟩ := x
    have HL := Lib.hid hl; have HE := Lib.hid hend; have HP := Lib.hid hp; clear hl h e hend hp
    go_enter Tryz.func115, Tryz.ntmps115
    go_wp2_with fail
    refine HL.out.mono ?_
    rintro e w1 ⟨rfl, b1⟩
    go_wp2_with fail
    have b2 : Below w.heap.size w (w1.alloc (.cells #[iv x0, iv x1, iv x2, iv next, iv x4, iv x5, iv x6] 36)) := b1.alloc b1.size _
    refine (HP.out _ b2).mono ?_
    rintro e w2 ⟨rfl, L', h1, h2, h3, h4⟩
    have HX := Lib.hid (HE.out _ w2 L' b2 h1 h2 h3 h4)
    clear h1 h2 h3 h4 b1 b2 HE HP HL
    go_wp2
    exact bodyPost_ret (results_none rfl _ _ _) rfl HX.out
end Go.Proofs.YtcnppdbgieaddaaGreat

namespace Go.Proofs.YtcnppdbgieaddaaGreat
open Go.RowKit
set_option linter.unusedVariables false
set_option linter.unusedSimpArgs false
variable {w w' : World} {L : Lay} {s : PH}

/-- Who waits, from somebody on, behind those that were seen. -/
def allN (A : AS) : Nat → Int → List Int → List Int
  | 0, _, l => l
  | d + 1, a, l => if a ∈ l then l else match sudogA A a with | none => l | some x => allN A d x.next (l ++ [a])
def fuelA (A : AS) : Nat := 32 * A.n + 1
def allA (A : AS) (ch : Int) (send : Bool) : List Int := match chanA A ch with | none => [] | some c => allN A (fuelA A) (endsC c send).1 []

theorem sudogA_lt {A : AS} (hw : WfAS A) {a : Int} {x : PSudog} (e : sudogA A a = some x) : 0 ≤ a ∧ a < 32 * A.n := by
  unfold sudogA at e
  cases e2 : seenA A a 3 with
  | none => rw [e2] at e; cases e
  | some ws =>
    obtain ⟨h1, h2⟩ := objA_nonneg (seenA_some e2).1
    have := (hw.obj _ _ _ h2).1
    omega
theorem nodup_le : ∀ (N : Nat) (l : List Int), l.Nodup → (∀ x ∈ l, 0 ≤ x ∧ x < (N : Int)) → l.length ≤ N
  | 0, l, _, h => by
    cases l with
    | nil => exact Nat.le_refl _
    | cons a l => have := h a (by simp); omega
  | N + 1, l, hn, h => by
    by_cases hm : (N : Int) ∈ l
    · have h1 := nodup_le N (l.erase (N : Int)) (hn.erase _) (fun x hx => by
        have h2 := h x (List.mem_of_mem_erase hx)
        have h3 : x ≠ (N : Int) := by intro e; subst e; exact (hn.not_mem_erase) hx
        omega)
      rw [List.length_erase_of_mem hm] at h1
      omega
    · have h1 := nodup_le N l hn (fun x hx => by
        have h2 := h x hx
        have h3 : x ≠ (N : Int) := by intro e; subst e; exact hm hx
        omega)
      omega

theorem allN_ok {A : AS} (hw : WfAS A) : ∀ (d : Nat) (a : Int) (l : List Int), l.Nodup → (∀ x ∈ l, 0 ≤ x ∧ x < ((32 * A.n : Nat) : Int)) → (allN A d a l).Nodup ∧ ∀ x ∈ allN A d a l, 0 ≤ x ∧ x < ((32 * A.n : Nat) : Int)
  | 0, a, l, h1, h2 => ⟨h1, h2⟩
  | d + 1, a, l, h1, h2 => by
    simp only [allN]
    by_cases hm : a ∈ l
    · rw [if_pos hm]; exact ⟨h1, h2⟩
    · rw [if_neg hm]
      cases e : sudogA A a with
      | none => exact ⟨h1, h2⟩
      | some x =>
        have hr := sudogA_lt hw e
        refine allN_ok hw d x.next (l ++ [a]) ?_ (fun y hy => ?_)
        · rw [List.nodup_append]
          exact ⟨h1, by simp, fun x hx y hy => by simp at hy; subst hy; intro e; subst e; exact hm hx⟩
        · rcases List.mem_append.1 hy with h | h
          · exact h2 y h
          · simp at h; subst h; omega
theorem allA_ok {A : AS} (hw : WfAS A) (ch : Int) (send : Bool) : (allA A ch send).Nodup ∧ ∀ x ∈ allA A ch send, 0 ≤ x ∧ x < ((32 * A.n : Nat) : Int) := by
  unfold allA
  cases chanA A ch with
  | none => exact ⟨List.nodup_nil, by simp⟩
  | some c => exact allN_ok hw _ _ _ List.nodup_nil (by simp)
theorem allA_le {A : AS} (hw : WfAS A) (hn : A.n ≤ 128) (ch : Int) (send : Bool) : (allA A ch send).length ≤ 4096 := by
  have h := allA_ok hw ch send
  have := nodup_le _ _ h.1 h.2
  omega

theorem contains_c (w : World) {v : Value} {l : List Int} (h : IntsAt w v l) (hl : l.length ≤ 9223372036854775807) (x : Int) : Calls Tryz.prog 124 #[v, iv x] w fun e w' => e = .returned (.bool (l.contains x)) ∧ w' = w := by
  rcases h with ⟨rfl, rfl⟩ | ⟨b, off, cap, rfl, hb, hx⟩
  · exact Tryz.slices_Contains_int_empty none 0 x w
  · have := Tryz.slices_Contains_int b off l.length cap l x w (Nat.le_refl _) hl (fun j hj => by
      rw [hx j l[j] (List.getElem?_eq_getElem hj)]
      simp [List.getD, hj])
    rw [List.take_length] at this
    exact this

set_option maxRecDepth 100000 in
@[go_sem] theorem run_ends0 (a b : Int) (w : World) : (Instr.field 172 (.agg #[iv a, iv b]) 0).run Tryz.prog w = .ok (iv a) w := by rfl
set_option maxRecDepth 100000 in
@[go_sem] theorem run_ends1 (a b : Int) (w : World) : (Instr.field 172 (.agg #[iv a, iv b]) 1).run Tryz.prog w = .ok (iv b) w := by rfl
def sliceLen : Value → Nat | .slice _ n _ => n | _ => 0
def AllPost (l : List Int) (w : World) (e : Ending) (w' : World) : Prop := Below w.heap.size w w' ∧ ∃ v, e = .returned v ∧ w'.ownsRow w.heap.size 3 1 v l.length (intsV l)

set_option maxRecDepth 100000 in
theorem lall_c (w : World) (h : HeapAt w L s) (ch : Int) (send : Bool) : Calls Tryz.prog 31 #[hptr L, iv ch, .bool send] w (AllPost (allA s.A ch send) w) := by
  have hc := vchan_c w h ch
  unfold chanR at hc
  unfold allA
  cases e : chanA s.A ch with
  | none =>
    rw [e] at hc
    have HC := Lib.hid hc; clear hc h e
    go_enter Tryz.func31, Tryz.ntmps31
    go_wp2_with fail
    refine HC.out.mono ?_
    rintro e w1 ⟨rfl, b1⟩
    go_wp2
    go_ret
    exact ⟨b1.alloc b1.size _, _, rfl, World.ownsRow_nil _ _ _ _⟩
  | some c =>
    rw [e] at hc
    simp only at hc ⊢
    have hof := fun w1 => of_list_c c send w1
    have hlk := fun w1 (hb : Below w.heap.size w w1) a => llook_c w1 (h.below hb) a
    have hwf := (h.arena.wf)
    have hn := h.arena.few
    generalize endsC c send = x at hof ⊢
    obtain ⟨hd, tl⟩ := x
    obtain ⟨x0, x1, x2, x3, x4, x5, x6, x7, x8⟩ := c
    have HC := Lib.hid hc; have HOF := Lib.hid hof; have HLK := Lib.hid hlk; have HWF := Lib.hid hwf; clear hc h e hof hlk hwf
    go_enter Tryz.func31, Tryz.ntmps31
    go_wp2_with fail
    refine HC.out.mono ?_
    rintro e w1 ⟨rfl, b1⟩
    go_wp2_with fail
    refine (HOF.out _).mono ?_
    rintro e w2 ⟨rfl, b2⟩
    have g1 : Below w.heap.size w w2 := (b1.alloc b1.size _).trans (b2.mono (by rw [World.size_alloc]; have := b1.size; omega))
    have G1 := Lib.hid g1
    clear b1 b2 g1
    go_wp2_with fail
    go_loopw [9, 10] (fun v9 v10 wr => ∃ (a : Int) (l : List Int) (d : Nat), v10 = iv a ∧ allN s.A d a l = allN s.A (fuelA s.A) hd [] ∧ l.length + d = fuelA s.A ∧ l.Nodup ∧ (∀ x ∈ l, 0 ≤ x ∧ x < ((32 * s.A.n : Nat) : Int)) ∧ Below w.heap.size w wr ∧ wr.ownsRow w.heap.size 3 1 v9 l.length (intsV l)) (fun v9 _ _ => 4097 - sliceLen v9)
    case atStart => exact ⟨hd, [], fuelA s.A, rfl, rfl, by simp, List.nodup_nil, by simp, G1.out, World.ownsRow_nil _ _ _ _⟩
    case round =>
      obtain ⟨a, l, d, rfl, hal, hld, hnd, hra, hb, hown⟩ := hrel
      clear G1
      have hle := nodup_le _ l hnd hra
      have hd : ∃ d', d = d' + 1 := ⟨d - 1, by unfold fuelA at hld; omega⟩
      obtain ⟨d, rfl⟩ := hd
      simp only [allN] at hal
      have hct := contains_c wr (IntsAt.ofOwn hown) (by omega) a
      have hsz := hb.size
      obtain ⟨o3, c3, hv3⟩ := own_form hown
      subst hv3
      by_cases hm : a ∈ l
      · rw [if_pos hm] at hal
        have t1 : l.contains a = true := by simpa using hm
        rw [t1] at hct
        have HCT := Lib.hid hct; have HB := Lib.hid hb; have HO := Lib.hid hown; have HA := Lib.hid hal
        clear hct hb hown hal hnd hra hm t1
        go_wp2_with fail
        refine HCT.out.mono ?_
        rintro e w3 ⟨rfl, rfl⟩
        go_wp2
        go_ret
        exact ⟨HB.out, _, rfl, by rw [← HA.out]; exact HO.out⟩
      · rw [if_neg hm] at hal
        have t1 : l.contains a = false := by simpa using hm
        rw [t1] at hct
        have hlk := HLK.out wr hb a
        have HCT := Lib.hid hct
        clear hct t1
        cases e : sudogA s.A a with
        | none =>
          rw [e] at hlk hal
          have HLK1 := Lib.hid hlk; have HB := Lib.hid hb; have HO := Lib.hid hown; have HA := Lib.hid hal
          clear hb hown hal hnd hra hm hlk e
          go_wp2_with fail
          refine HCT.out.mono ?_
          rintro e w3 ⟨rfl, rfl⟩
          go_wp2_with fail
          refine HLK1.out.mono ?_
          rintro e w4 ⟨rfl, b4⟩
          have g1 : Below w.heap.size w w4 := HB.out.trans (b4.mono hsz)
          have g2 := ownsRow_keep HO.out (w' := w4) (fun b hb => b4.block b ((HO.out.lt b hb).2))
          have hs4 := g1.size
          have G1 := Lib.hid g1; have G2 := Lib.hid g2
          clear b4 g1 g2
          go_wp2
          go_ret
          exact ⟨G1.out.alloc hs4 _, _, rfl, by rw [← HA.out]; exact G2.out.alloc _⟩
        | some x =>
          rw [e] at hlk hal
          simp only at hal
          obtain ⟨q1, q2⟩ := sudogA_lt HWF.out e
          have hnd2 : (l ++ [a]).Nodup := by
            rw [List.nodup_append]
            exact ⟨hnd, by simp, fun x hx y hy => by simp at hy; subst hy; intro e; subst e; exact hm hx⟩
          have hra2 : ∀ x ∈ l ++ [a], 0 ≤ x ∧ x < ((32 * s.A.n : Nat) : Int) := by
            intro x hx
            rcases List.mem_append.1 hx with h | h
            · exact hra x h
            · simp at h; subst h; omega
          have hle2 := nodup_le _ _ hnd2 hra2
          rw [List.length_append] at hle2
          simp only [List.length_cons, List.length_nil] at hle2
          obtain ⟨y0, y1, y2, y3, y4, y5, y6⟩ := x
          have HLK1 := Lib.hid hlk; have HB := Lib.hid hb; have HO := Lib.hid hown; have HA := Lib.hid hal; have HN2 := Lib.hid hnd2; have HR2 := Lib.hid hra2
          clear hb hown hal hnd hra hm hlk e hnd2 hra2
          go_wp2_with fail
          refine HCT.out.mono ?_
          rintro e w3 ⟨rfl, rfl⟩
          go_wp2_with fail
          refine HLK1.out.mono ?_
          rintro e w4 ⟨rfl, b4⟩
          have g1 : Below w.heap.size w w4 := HB.out.trans (b4.mono hsz)
          have g2 := ownsRow_keep HO.out (w' := w4) (fun b hb => b4.block b ((HO.out.lt b hb).2))
          have hs4 := g1.size
          have G1 := Lib.hid g1; have G2 := Lib.hid g2
          clear b4 g1 g2
          go_wp2_with (at_builtin; refine wpList_append2 rfl _ _ 25 rfl w.heap.size 3 (.int .i64 0) 1 8 Tryz.underlying25 intInfo rfl (by decide) _ _ _ rfl ((G2.out.alloc _).alloc _) ⟨w4.heap.size + 1, 0, none⟩ 1 1 [iv a] rfl rfl ?c1 ?c2 ?c3 ?c4 ?c5 ?next)
          case c1 =>
            have := cell_one_new (w4.alloc (.cells #[iv y0, iv y1, iv y2, iv y3, iv y4, iv y5, iv y6] 36)) (iv a) 3
            rw [World.size_alloc] at this
            exact this
          case c2 => intro u hu; simp at hu; subst hu; rfl
          case c3 => unfold maxLen; omega
          case c4 => omega
          case c5 => simp; omega
          case next =>
            intro v' w5 hown5 hg halt
            have k3 : w5.cell? ⟨w4.heap.size, 3, none⟩ = some (iv y3) := by
              have hb1 := ((Blk.new w4 [iv y0, iv y1, iv y2, iv y3, iv y4, iv y5, iv y6] 36).alloc (.cells #[iv a] 3))
              exact (hb1.keep (hg.block _ hb1.lt (fun e => by have := (G2.out.lt _ e.symm).2; omega))).at 3 rfl
            have g3 : Below w.heap.size w w5 := ((G1.out.alloc hs4 _).alloc (by rw [World.size_alloc]; omega) _).grown hg (by rw [World.size_alloc, World.size_alloc]; omega) (fun k hk => (G2.out.lt k hk).1)
            have g4 : w5.ownsRow w.heap.size 3 1 v' (l ++ [a]).length (intsV (l ++ [a])) := by rw [List.length_append]; simpa [intsV] using hown5
            obtain ⟨o5, c5, hv5⟩ := own_form g4
            subst hv5
            have G3 := Lib.hid g3; have G4 := Lib.hid g4
            have hll : (l ++ [a]).length = l.length + 1 := by simp
            clear g3 g4 hown5 hg halt
            go_wp2
            go_roundw
            case rel => exact ⟨y3, l ++ [a], d, rfl, HA.out, by rw [hll]; omega, HN2.out, HR2.out, G3.out, G4.out⟩
            case measure => simp only [sliceLen, hll]; omega
end Go.Proofs.YtcnppdbgieaddaaGreat

namespace Go.Proofs.YtcnppdbgieaddaaGreat
open Go.RowKit
set_option linter.unusedVariables false
variable {w w' w0 : World} {L : Lay} {s : PH} {V : List (Nat × List Value)}

/-- The heap that lay as L in w0 has come to s in w, nothing else of w0 has turned; the blocks of V hold what is said. -/
def HS (L : Lay) (s : PH) (w0 w : World) (V : List (Nat × List Value)) : Prop := ∃ L', HeapAt w L' s ∧ L'.hb = L.hb ∧ L'.ab = L.ab ∧ Stp L.own L'.own w0 w ∧ ∀ p ∈ V, Blk w p.1 p.2 ∧ p.1 ∉ L'.own
theorem HS.refl (h : HeapAt w L s) : HS L s w w [] := ⟨L, h, rfl, rfl, Stp.refl _ _, by simp⟩
theorem HS.below (h : HS L s w0 w V) (hb : Below w.heap.size w w') : HS L s w0 w' V := by
  obtain ⟨L', h1, h2, h3, h4, h5⟩ := h
  exact ⟨L', h1.below hb, h2, h3, h4.trans (Stp.below hb), fun p hp => ⟨(h5 p hp).1.keep (hb.block _ (h5 p hp).1.lt), (h5 p hp).2⟩⟩
theorem HS.alloc (h : HS L s w0 w V) (o : Obj) : HS L s w0 (w.alloc o) V := h.below ((Below.refl _ _).alloc (Nat.le_refl _) _)
theorem HS.drew (h : HS L s w0 w V) : HS L s w0 w.drew V := h.below (Below.refl _ _).drew
/-- One variable more: a block that no owner has. -/
theorem HS.with (h : HS L s w0 w V) (b : Nat) (vs : List Value) (hb : Below w.heap.size w w') (hn : w.heap.size ≤ b) (hv : Blk w' b vs) : HS L s w0 w' ((b, vs) :: V) := by
  obtain ⟨L', h1, h2, h3, h4, h5⟩ := h
  refine ⟨L', h1.below hb, h2, h3, h4.trans (Stp.below hb), fun p hp => ?_⟩
  rcases List.mem_cons.1 hp with rfl | hp
  · exact ⟨hv, fun hm => by have := h1.lt _ hm; simp only at this; omega⟩
  · exact ⟨(h5 p hp).1.keep (hb.block _ (h5 p hp).1.lt), (h5 p hp).2⟩
theorem HS.new (h : HS L s w0 w V) (vs : List Value) (t : TypeId) : HS L s w0 (w.alloc (.cells vs.toArray t)) ((w.heap.size, vs) :: V) :=
  h.with w.heap.size vs ((Below.refl _ _).alloc (Nat.le_refl _) _) (Nat.le_refl _) (Blk.new w vs t)
theorem HS.blk (h : HS L s w0 w V) {b : Nat} {vs : List Value} (hm : (b, vs) ∈ V) : Blk w b vs := by obtain ⟨L', h1, h2, h3, h4, h5⟩ := h; exact (h5 _ hm).1
theorem HS.sub (h : HS L s w0 w V) {V' : List (Nat × List Value)} (hs : ∀ p ∈ V', p ∈ V) : HS L s w0 w V' := by
  obtain ⟨L', h1, h2, h3, h4, h5⟩ := h
  exact ⟨L', h1, h2, h3, h4, fun p hp => h5 p (hs p hp)⟩
theorem HS.tail (h : HS L s w0 w V) : HS L s w0 w [] := h.sub (by simp)
/-- A variable is turned. -/
theorem HS.set {b : Nat} {vs : List Value} (h : HS L s w0 w ((b, vs) :: V)) (hw : w0.heap.size ≤ b) (hd : ∀ p ∈ V, p.1 ≠ b) (i : Nat) (v : Value) : HS L s w0 (w.setCell ⟨b, i, none⟩ v) ((b, vs.set i v) :: V) := by
  obtain ⟨L', h1, h2, h3, h4, h5⟩ := h
  have hb := h5 (b, vs) (by simp)
  have hst : Stp [b] [b] w (w.setCell ⟨b, i, none⟩ v) := Stp.set (by simp) i v
  refine ⟨L', h1.stp hst (fun x hx e => by simp at e; subst e; exact hb.2 hx), h2, h3, ?_, fun p hp => ?_⟩
  · refine ⟨hst.os.trans h4.os, hst.tape.trans h4.tape, hst.output.trans h4.output, Nat.le_trans h4.size hst.size, fun x hx hn => ?_, h4.own⟩
    rw [hst.block x (Nat.lt_of_lt_of_le hx h4.size) (by simp; omega)]
    exact h4.block x hx hn
  · rcases List.mem_cons.1 hp with rfl | hp
    · exact ⟨hb.1.set i v, hb.2⟩
    · exact ⟨(h5 p (List.mem_cons_of_mem _ hp)).1.set_other (hd p hp) i v, (h5 p (List.mem_cons_of_mem _ hp)).2⟩
theorem HS.lt (h : HS L s w0 w V) : ∀ p ∈ V, p.1 < w.heap.size := by obtain ⟨_, _, _, _, _, h5⟩ := h; exact fun p hp => (h5 p hp).1.lt
theorem HS.size (h : HS L s w0 w V) : w0.heap.size ≤ w.heap.size := by obtain ⟨_, _, _, _, h4, _⟩ := h; exact h4.size
theorem HS.post (h : HS L s w0 w V) (r : Value) : HPost L s r w0 (.returned r) w := by obtain ⟨L', h1, h2, h3, h4, _⟩ := h; exact ⟨rfl, L', h1, h2, h3, h4⟩
theorem HPost.hs {s' : PH} {r : Value} {e : Ending} (h : HPost L s' r w e w') : e = .returned r ∧ HS L s' w w' [] := by obtain ⟨h0, L', h1, h2, h3, h4⟩ := h; exact ⟨h0, L', h1, h2, h3, h4, by simp⟩
theorem HS.wf (h : HS L s w0 w V) : WfAS s.A := by obtain ⟨_, h1, _⟩ := h; exact h1.arena.wf
theorem HS.few (h : HS L s w0 w V) : s.A.n ≤ 128 := by obtain ⟨_, h1, _⟩ := h; exact h1.arena.few
theorem HS.i64 (h : HS L s w0 w V) : s.A.I64 := by obtain ⟨_, h1, _⟩ := h; exact h1.i64
/-- A reading contract from a step on. -/
theorem HS.read {f : Nat} {args : Array Value} {r : Value} (h : HS L s w0 w V) (hc : ∀ L', HeapAt w L' s → L'.hb = L.hb → L'.ab = L.ab → Calls Tryz.prog f args w fun e w' => e = .returned r ∧ Below w.heap.size w w') :
    Calls Tryz.prog f args w fun e w' => e = .returned r ∧ HS L s w0 w' V := by
  have hh := h
  obtain ⟨L', h1, h2, h3, h4, h5⟩ := h
  exact (hc L' h1 h2 h3).mono fun e w' hq => ⟨hq.1, hh.below hq.2⟩
theorem HS.write {f : Nat} {args : Array Value} {r : Value} {s' : PH} (h : HS L s w0 w V) (hc : ∀ L', HeapAt w L' s → L'.hb = L.hb → L'.ab = L.ab → Calls Tryz.prog f args w (HPost L' s' r w)) :
    Calls Tryz.prog f args w fun e w' => e = .returned r ∧ HS L s' w0 w' V := by
  obtain ⟨L', h1, h2, h3, h4, h5⟩ := h
  refine (hc L' h1 h2 h3).mono fun e w' hq => ?_
  obtain ⟨q0, L2, q1, q2, q3, q4⟩ := hq
  refine ⟨q0, L2, q1, q2.trans h2, q3.trans h3, h4.trans q4, fun p hp => ⟨(h5 p hp).1.keep (q4.block _ (h5 p hp).1.lt (h5 p hp).2), fun hm => ?_⟩⟩
  rcases q4.own _ hm with hm | hm
  · exact (h5 p hp).2 hm
  · have := (h5 p hp).1.lt; omega
theorem hptr_eq {L' : Lay} (h : L'.hb = L.hb) : hptr L' = hptr L := by unfold hptr; rw [h]
theorem aptr_eq {L' : Lay} (h : L'.ab = L.ab) : aptr L' = aptr L := by unfold aptr; rw [h]

/-- A contract of a function that reads, writes: from a step on. -/
def Rd (L : Lay) (s : PH) (f : Nat) (args : Array Value) (r : Value) : Prop := ∀ w0 w V, HS L s w0 w V → Calls Tryz.prog f args w fun e w' => e = .returned r ∧ HS L s w0 w' V
def Wr (L : Lay) (s : PH) (f : Nat) (args : Array Value) (s' : PH) (r : Value) : Prop := ∀ w0 w V, HS L s w0 w V → Calls Tryz.prog f args w fun e w' => e = .returned r ∧ HS L s' w0 w' V

theorem arena_s : Rd L s 102 #[hptr L] (aptr L) := fun w0 w V h =>
  h.read fun L' h1 h2 h3 => by rw [← hptr_eq h2, ← aptr_eq h3]; exact (arena_c w h1).mono fun e w' q => ⟨q.1, by rw [← q.2]; exact Below.refl _ _⟩
theorem akind_s (a : Int) : Rd L s 123 #[aptr L, iv a] (iv (kindA s.A a)) := fun w0 w V h =>
  h.read fun L' h1 h2 h3 => by rw [← aptr_eq h3]; exact akind_c w h1.arena a
theorem alen_s (a : Int) : Rd L s 129 #[aptr L, iv a] (iv (lenA s.A a)) := fun w0 w V h =>
  h.read fun L' h1 h2 h3 => by rw [← aptr_eq h3]; exact alen_c w h1.arena a
theorem chan_s (a : Int) : Rd L s 40 #[hptr L, iv a] (.tuple #[(chanR s.A a).1.v, iv (chanR s.A a).2]) := fun w0 w V h =>
  h.read fun L' h1 h2 h3 => by rw [← hptr_eq h2]; exact vchan_c w h1 a
theorem sudog_s (a : Int) : Rd L s 113 #[hptr L, iv a] (.tuple #[(sudogR s.A a).1.v, iv (sudogR s.A a).2]) := fun w0 w V h =>
  h.read fun L' h1 h2 h3 => by rw [← hptr_eq h2]; exact vsudog_c w h1 a
theorem gor_s (a : Int) : Rd L s 29 #[hptr L, iv a] (.tuple #[(gorR s.A a).1.v, iv (gorR s.A a).2]) := fun w0 w V h =>
  h.read fun L' h1 h2 h3 => by rw [← hptr_eq h2]; exact vgor_c w h1 a
theorem llook_s (a : Int) : Rd L s 125 #[hptr L, iv a] (lookV (sudogA s.A a)) := fun w0 w V h =>
  h.read fun L' h1 h2 h3 => by rw [← hptr_eq h2]; exact llook_c w h1 a
theorem of_list_s (c : PChan) (send : Bool) : Rd L s 114 #[c.v, .bool send] (endsV (endsC c send)) := fun w0 w V h => h.read fun L' h1 h2 h3 => of_list_c c send w
theorem into_s (c : PChan) (send : Bool) (x : Int × Int) : Rd L s 116 #[c.v, .bool send, endsV x] (intoC c send x).v := fun w0 w V h => h.read fun L' h1 h2 h3 => into_c c send x w
theorem putChan_s (a : Int) (c : PChan) : Wr L s 42 #[hptr L, iv a, c.v] (putChanH s a c).1 (iv (putChanH s a c).2) := fun w0 w V h =>
  h.write fun L' h1 h2 h3 => by rw [← hptr_eq h2]; exact putChan_c w h1 a c
theorem putSudog_s (a : Int) (c : PSudog) (hv : I64 c.value) : Wr L s 22 #[hptr L, iv a, c.v] (putSudogH s a c).1 (iv (putSudogH s a c).2) := fun w0 w V h =>
  h.write fun L' h1 h2 h3 => by rw [← hptr_eq h2]; exact putSudog_c w h1 a c hv
theorem putGor_s (a : Int) (c : PGor) (hv : ∀ x ∈ c.regs, I64 x) : Wr L s 104 #[hptr L, iv a, c.v] (putGorH s a c).1 (iv (putGorH s a c).2) := fun w0 w V h =>
  h.write fun L' h1 h2 h3 => by rw [← hptr_eq h2]; exact putGor_c w h1 a c hv
theorem follow_s (a n : Int) : Wr L s 115 #[hptr L, iv a, iv n] (followH s a n) (.tuple #[]) := fun w0 w V h =>
  h.write fun L' h1 h2 h3 => by rw [← hptr_eq h2]; exact follow_c w h1 a n
theorem shade_s (a : Int) : Wr L s 118 #[hptr L, iv a] (shadeH s a) (.tuple #[]) := fun w0 w V h =>
  h.write fun L' h1 h2 h3 => by rw [← hptr_eq h2]; exact shade_c w h1 a
/-- All who wait: a new slice. -/
theorem lall_s (ch : Int) (send : Bool) (w0 w : World) (V : List (Nat × List Value)) (h : HS L s w0 w V) : Calls Tryz.prog 31 #[hptr L, iv ch, .bool send] w fun e w' => HS L s w0 w' V ∧ ∃ v, e = .returned v ∧ IntsAt w' v (allA s.A ch send) := by
  have hh := h
  obtain ⟨L', h1, h2, h3, h4⟩ := h
  rw [← hptr_eq h2]
  refine (lall_c w h1 ch send).mono ?_
  rintro e w' ⟨hb, v, rfl, ho⟩
  exact ⟨hh.below hb, v, rfl, IntsAt.ofOwn ho⟩
end Go.Proofs.YtcnppdbgieaddaaGreat

namespace Go.Proofs.YtcnppdbgieaddaaGreat
open Go.RowKit
set_option linter.unusedVariables false
set_option linter.unusedSimpArgs false
variable {w w' w0 : World} {L : Lay} {s : PH} {V : List (Nat × List Value)}

def pushH (s : PH) (ch : Int) (send : Bool) (t : Int) : PH × Int :=
  match chanA s.A ch with
  | none => (s, 10)
  | some c => match sudogA s.A t with
    | none => (s, 10)
    | some _ => match (allA s.A ch send).getLast? with
      | some z => putChanH (followH (followH s z t) t (-1)) ch (intoC c send ((endsC c send).1, t))
      | none => putChanH (followH s t (-1)) ch (intoC c send (t, t))
theorem HS.chanCells {b : Nat} {x0 x1 x2 x3 x4 x5 x6 x7 x8 : Int} (h : HS L s w0 w V) (hm : (b, [iv x0, iv x1, iv x2, iv x3, iv x4, iv x5, iv x6, iv x7, iv x8]) ∈ V) :
    w.cell? ⟨b, 0, none⟩ = some (iv x0) ∧ w.cell? ⟨b, 1, none⟩ = some (iv x1) ∧ w.cell? ⟨b, 2, none⟩ = some (iv x2) ∧ w.cell? ⟨b, 3, none⟩ = some (iv x3) ∧ w.cell? ⟨b, 4, none⟩ = some (iv x4) ∧ w.cell? ⟨b, 5, none⟩ = some (iv x5) ∧ w.cell? ⟨b, 6, none⟩ = some (iv x6) ∧ w.cell? ⟨b, 7, none⟩ = some (iv x7) ∧ w.cell? ⟨b, 8, none⟩ = some (iv x8) := by
  have k := h.blk hm
  exact ⟨k.at 0 rfl, k.at 1 rfl, k.at 2 rfl, k.at 3 rfl, k.at 4 rfl, k.at 5 rfl, k.at 6 rfl, k.at 7 rfl, k.at 8 rfl⟩
theorem HS.sudogCells {b : Nat} {x0 x1 x2 x3 x4 x5 x6 : Int} (h : HS L s w0 w V) (hm : (b, [iv x0, iv x1, iv x2, iv x3, iv x4, iv x5, iv x6]) ∈ V) :
    w.cell? ⟨b, 0, none⟩ = some (iv x0) ∧ w.cell? ⟨b, 1, none⟩ = some (iv x1) ∧ w.cell? ⟨b, 2, none⟩ = some (iv x2) ∧ w.cell? ⟨b, 3, none⟩ = some (iv x3) ∧ w.cell? ⟨b, 4, none⟩ = some (iv x4) ∧ w.cell? ⟨b, 5, none⟩ = some (iv x5) ∧ w.cell? ⟨b, 6, none⟩ = some (iv x6) := by
  have k := h.blk hm
  exact ⟨k.at 0 rfl, k.at 1 rfl, k.at 2 rfl, k.at 3 rfl, k.at 4 rfl, k.at 5 rfl, k.at 6 rfl⟩

/-- The last element of a slice. -/
theorem IntsAt.last {v : Value} {l : List Int} {z : Int} (h : IntsAt w v (l ++ [z])) : ∃ b off cap, v = .slice (some ⟨b, off, none⟩) (l.length + 1) cap ∧ w.cell? ⟨b, off + l.length, none⟩ = some (iv z) := by
  rcases h with ⟨_, h⟩ | ⟨b, off, cap, rfl, hb, hx⟩
  · simp at h
  · exact ⟨b, off, cap, by simp, hx l.length z (by simp)⟩
set_option maxRecDepth 100000 in
set_option maxHeartbeats 1000000 in
theorem push_s (ch : Int) (send : Bool) (t : Int) : Wr L s 25 #[hptr L, iv ch, .bool send, iv t] (pushH s ch send t).1 (iv (pushH s ch send t).2) := by
  intro w0 w V h
  have hc := chan_s (L := L) (s := s) ch
  unfold chanR at hc
  unfold pushH
  cases e : chanA s.A ch with
  | none =>
    rw [e] at hc
    have HC := Lib.hid (hc _ _ _ h); clear hc h e
    go_enter Tryz.func25, Tryz.ntmps25
    go_wp2_with fail
    refine HC.out.mono ?_
    rintro e w1 ⟨rfl, h1⟩
    have H1 := Lib.hid (h1.alloc (.cells #[iv 0, iv 0, iv 0, iv 0, iv 0, iv 0, iv 0, iv 0, iv 0] 63)); clear h1
    go_wp2
    go_ret
    exact ⟨rfl, H1.out⟩
  | some c =>
    rw [e] at hc
    simp only at hc ⊢
    have hs := sudog_s (L := L) (s := s) t
    unfold sudogR at hs
    have HC := Lib.hid (hc _ _ _ h)
    cases e2 : sudogA s.A t with
    | none =>
      simp only [e2] at hs
      obtain ⟨x0, x1, x2, x3, x4, x5, x6, x7, x8⟩ := c
      have HS1 := Lib.hid hs; clear hc h e hs e2
      go_enter Tryz.func25, Tryz.ntmps25
      go_wp2_with fail
      refine HC.out.mono ?_
      rintro e w1 ⟨rfl, h1⟩
      have h2 := h1.alloc (.cells #[iv x0, iv x1, iv x2, iv x3, iv x4, iv x5, iv x6, iv x7, iv x8] 63)
      have S1 := Lib.hid (HS1.out _ _ _ h2); clear h1 h2
      go_wp2_with fail
      refine S1.out.mono ?_
      rintro e w2 ⟨rfl, h1⟩
      have H1 := Lib.hid h1; clear h1
      go_wp2
      go_ret
      exact ⟨rfl, H1.out⟩
    | some y =>
      simp only [e2] at hs
      have hall := lall_s (L := L) (s := s) ch send
      have hof := of_list_s (L := L) (s := s) c send
      cases e3 : (allA s.A ch send).getLast? with
      | none =>
        have e4 : allA s.A ch send = [] := List.getLast?_eq_none_iff.1 e3
        rw [e4] at hall
        simp only
        have hfo := follow_s (L := L) (s := s) t (-1)
        have hin := into_s (L := L) (s := followH s t (-1)) c send (t, t)
        have hpu := putChan_s (L := L) (s := followH s t (-1)) ch (intoC c send (t, t))
        generalize intoC c send (t, t) = c' at hin hpu ⊢
        generalize followH s t (-1) = s1 at hfo hin hpu ⊢
        generalize putChanH s1 ch c' = R at hpu ⊢
        generalize endsC c send = x at hof
        obtain ⟨x0, x1, x2, x3, x4, x5, x6, x7, x8⟩ := c
        obtain ⟨hd, tl⟩ := x
        obtain ⟨y0, y1, y2, y3, y4, y5, y6, y7, y8⟩ := c'
        have HS1 := Lib.hid hs; have HALL := Lib.hid hall; have HOF := Lib.hid hof; have HFO := Lib.hid hfo; have HIN := Lib.hid hin; have HPU := Lib.hid hpu
        clear hc h e hs e2 e3 e4 hall hof hfo hin hpu
        go_enter Tryz.func25, Tryz.ntmps25
        go_wp2_with fail
        refine HC.out.mono ?_
        rintro e w1 ⟨rfl, h1⟩
        have h2 := h1.new [iv x0, iv x1, iv x2, iv x3, iv x4, iv x5, iv x6, iv x7, iv x8] 63
        have S1 := Lib.hid (HS1.out _ _ _ h2); clear h1 h2
        go_wp2_with fail
        refine S1.out.mono ?_
        rintro e w2 ⟨rfl, h1⟩
        obtain ⟨k0, k1, k2, k3, k4, k5, k6, k7, k8⟩ := h1.chanCells (.head _)
        have S2 := Lib.hid (HOF.out _ _ _ h1); clear h1 S1
        go_wp2_with fail
        refine S2.out.mono ?_
        rintro e w3 ⟨rfl, h1⟩
        have h2 := h1.new [iv hd, iv tl] 172
        have hlt := h1.lt
        have hsz := h1.size
        have S3 := Lib.hid (HALL.out _ _ _ h2); have HLT := Lib.hid hlt; clear h1 h2 S2 k0 k1 k2 k3 k4 k5 k6 k7 k8 hlt
        go_wp2_with fail
        refine S3.out.mono ?_
        rintro e w4 ⟨h1, v, rfl, hv⟩
        obtain ⟨o3, c3, hv3⟩ := hv.form
        subst hv3
        have kb := h1.blk (b := w3.heap.size) (vs := [iv hd, iv tl]) (.head _)
        have k0 := kb.at 0 rfl; have k1 := kb.at 1 rfl; have g0 := kb.free 0; have g1 := kb.free 1
        have h2 : HS L s w0 ((w4.setCell ⟨w3.heap.size, 0, none⟩ (iv t)).setCell ⟨w3.heap.size, 1, none⟩ (iv t)) ((w3.heap.size, [iv t, iv t]) :: (w1.heap.size, [iv x0, iv x1, iv x2, iv x3, iv x4, iv x5, iv x6, iv x7, iv x8]) :: V) := (h1.set hsz (fun p hp => Nat.ne_of_lt (HLT.out p hp)) 0 (iv t)).set hsz (fun p hp => Nat.ne_of_lt (HLT.out p hp)) 1 (iv t)
        have S4 := Lib.hid (HFO.out _ _ _ h2); clear h1 h2 hv kb S3 HLT
        go_wp2_with fail
        refine S4.out.mono ?_
        rintro e w5 ⟨rfl, h1⟩
        obtain ⟨k0, k1, k2, k3, k4, k5, k6, k7, k8⟩ := h1.chanCells (.tail _ (.head _))
        have kb := h1.blk (b := w3.heap.size) (vs := [iv t, iv t]) (.head _)
        have j0 := kb.at 0 rfl; have j1 := kb.at 1 rfl
        have S5 := Lib.hid (HIN.out _ _ _ h1); clear h1 kb S4
        go_wp2_with fail
        refine S5.out.mono ?_
        rintro e w6 ⟨rfl, h1⟩
        have S6 := Lib.hid (HPU.out _ _ _ h1); clear h1 k0 k1 k2 k3 k4 k5 k6 k7 k8 j0 j1 S5
        go_wp2_with fail
        refine S6.out.mono ?_
        rintro e w7 ⟨rfl, h1⟩
        have H1 := Lib.hid (h1.sub (V' := V) (fun p hp => .tail _ (.tail _ hp))); clear h1 S6
        go_wp2
        go_ret
        exact ⟨rfl, H1.out⟩
      | some z =>
        have hz : ∃ l', allA s.A ch send = l' ++ [z] := by
          obtain ⟨l', hl⟩ := List.getLast?_eq_some_iff.1 e3
          exact ⟨l', hl⟩
        obtain ⟨l', hz⟩ := hz
        have hle := allA_le h.wf h.few ch send
        rw [hz, List.length_append] at hle
        simp only [List.length_cons, List.length_nil] at hle
        have hwr : wrap64 (l'.length : Int) = l'.length := by unfold wrap64; omega
        have hge : ((l'.length : Int) + 1 > 0) := by omega
        rw [hz] at hall
        simp only
        have hf2 := follow_s (L := L) (s := s) z t
        generalize followH s z t = s0 at hf2 ⊢
        have hfo := follow_s (L := L) (s := s0) t (-1)
        generalize hx : endsC c send = x at hof ⊢
        obtain ⟨hd, tl⟩ := x
        simp only
        have hin := into_s (L := L) (s := followH s0 t (-1)) c send (hd, t)
        have hpu := putChan_s (L := L) (s := followH s0 t (-1)) ch (intoC c send (hd, t))
        generalize intoC c send (hd, t) = c' at hin hpu ⊢
        generalize followH s0 t (-1) = s1 at hfo hin hpu ⊢
        generalize putChanH s1 ch c' = R at hpu ⊢
        clear hx hz e3
        obtain ⟨x0, x1, x2, x3, x4, x5, x6, x7, x8⟩ := c
        obtain ⟨y0, y1, y2, y3, y4, y5, y6, y7, y8⟩ := c'
        have HS1 := Lib.hid hs; have HALL := Lib.hid hall; have HOF := Lib.hid hof; have HFO := Lib.hid hfo; have HF2 := Lib.hid hf2; have HIN := Lib.hid hin; have HPU := Lib.hid hpu
        clear hc h e hs e2 hf2 hall hof hfo hin hpu
        go_enter Tryz.func25, Tryz.ntmps25
        go_wp2_with fail
        refine HC.out.mono ?_
        rintro e w1 ⟨rfl, h1⟩
        have h2 := h1.new [iv x0, iv x1, iv x2, iv x3, iv x4, iv x5, iv x6, iv x7, iv x8] 63
        have S1 := Lib.hid (HS1.out _ _ _ h2); clear h1 h2
        go_wp2_with fail
        refine S1.out.mono ?_
        rintro e w2 ⟨rfl, h1⟩
        obtain ⟨k0, k1, k2, k3, k4, k5, k6, k7, k8⟩ := h1.chanCells (.head _)
        have S2 := Lib.hid (HOF.out _ _ _ h1); clear h1 S1
        go_wp2_with fail
        refine S2.out.mono ?_
        rintro e w3 ⟨rfl, h1⟩
        have h2 := h1.new [iv hd, iv tl] 172
        have hlt := h1.lt
        have hsz := h1.size
        have S3 := Lib.hid (HALL.out _ _ _ h2); have HLT := Lib.hid hlt; clear h1 h2 S2 k0 k1 k2 k3 k4 k5 k6 k7 k8 hlt
        go_wp2_with fail
        refine S3.out.mono ?_
        rintro e w4 ⟨h1, v, rfl, hv⟩
        obtain ⟨b3, o3, c3, hv3, hc3⟩ := hv.last
        subst hv3
        have kb := h1.blk (b := w3.heap.size) (vs := [iv hd, iv tl]) (.head _)
        have k0 := kb.at 0 rfl; have k1 := kb.at 1 rfl; have g0 := kb.free 0; have g1 := kb.free 1
        have S3b := Lib.hid (HF2.out _ _ _ h1)
        clear h1 hv S3 kb k0 k1 g0 g1
        go_wp2_with fail
        refine S3b.out.mono ?_
        rintro e w4b ⟨rfl, h1⟩
        have kb := h1.blk (b := w3.heap.size) (vs := [iv hd, iv tl]) (.head _)
        have k0 := kb.at 0 rfl; have k1 := kb.at 1 rfl; have g0 := kb.free 0; have g1 := kb.free 1
        have h2 : HS L s0 w0 (w4b.setCell ⟨w3.heap.size, 1, none⟩ (iv t)) ((w3.heap.size, [iv hd, iv t]) :: (w1.heap.size, [iv x0, iv x1, iv x2, iv x3, iv x4, iv x5, iv x6, iv x7, iv x8]) :: V) := h1.set hsz (fun p hp => Nat.ne_of_lt (HLT.out p hp)) 1 (iv t)
        have S4 := Lib.hid (HFO.out _ _ _ h2); clear h1 h2 kb S3b HLT hc3
        go_wp2_with fail
        refine S4.out.mono ?_
        rintro e w5 ⟨rfl, h1⟩
        obtain ⟨k0, k1, k2, k3, k4, k5, k6, k7, k8⟩ := h1.chanCells (.tail _ (.head _))
        have kb := h1.blk (b := w3.heap.size) (vs := [iv hd, iv t]) (.head _)
        have j0 := kb.at 0 rfl; have j1 := kb.at 1 rfl
        have S5 := Lib.hid (HIN.out _ _ _ h1); clear h1 kb S4
        go_wp2_with fail
        refine S5.out.mono ?_
        rintro e w6 ⟨rfl, h1⟩
        have S6 := Lib.hid (HPU.out _ _ _ h1); clear h1 k0 k1 k2 k3 k4 k5 k6 k7 k8 j0 j1 S5
        go_wp2_with fail
        refine S6.out.mono ?_
        rintro e w7 ⟨rfl, h1⟩
        have H1 := Lib.hid (h1.sub (V' := V) (fun p hp => .tail _ (.tail _ hp))); clear h1 S6
        go_wp2
        go_ret
        exact ⟨rfl, H1.out⟩
end Go.Proofs.YtcnppdbgieaddaaGreat
