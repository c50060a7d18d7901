/- The document's side: somebody waits. Both heaps in one world, variables' blocks, and slices of one's own. Both heaps: making a thing; the document's Park does what the program's does. -/
import Derived.Test.YtcnppdbgieaddaaGreatQ8
import Derived.Test.YtcnppdbgieaddaaGreatK12
import Derived.Test.YtcnppdbgieaddaaGreatQ2
import Derived.Test.YtcnppdbgieaddaaGreatK13
namespace Go.Proofs.YtcnppdbgieaddaaGreat
open Go.RowKit
set_option linter.unusedVariables false
set_option linter.unusedSimpArgs false
variable {w w' w0 : World} {R : RLay} {s : PH} {V : List (Nat × List Value)}

/-- Sudogs hang together, from the first on. -/
def rlinkF (s : PH) (l : List Int) : Nat → PH
  | 0 => s
  | p + 1 => (putSudogH (rlinkF s l p) (nthI l p) { (sudogR (rlinkF s l p).A (nthI l p)).1 with more := (l[p + 1]?).getD (-1) }).1
def rparkH (s : PH) (g : Int) (l : List Int) : PH × Int :=
  match gorA s.A g with
  | none => (s, 10)
  | some x => if l.all (fun a => (sudogA s.A a).isSome) then putGorH (rlinkF s l l.length) g { x with status := 1, sudogs := l.headD (-1) } else (s, 10)
set_option maxRecDepth 100000 in
set_option maxHeartbeats 2000000 in
theorem rpark_s (g : Int) (l : List Int) (hl : l.length ≤ 4096) (v : Value) (w0 w : World) (V : List (Nat × List Value)) (h : RS R s w0 w V) (hv : SlV V v l) : Calls Tryz.prog 133 #[rptr R, iv g, v] w fun e w' => e = .returned (iv (rparkH s g l).2) ∧ RS R (rparkH s g l).1 w0 w' V := by
  have hg := rgor_s (R := R) (s := s) g
  unfold gorR at hg
  unfold rparkH
  obtain ⟨o, cap, rfl, hx⟩ := hv
  cases e : gorA s.A g with
  | none =>
    rw [e] at hg
    have HG := Lib.hid (hg _ _ _ h); clear hg h e hx
    go_enter Tryz.func133, Tryz.ntmps133
    go_wp2_with fail
    refine HG.out.mono ?_
    rintro e w1 ⟨rfl, h1⟩
    have H1 := Lib.hid (h1.alloc (.cells #[iv 0, iv 0, iv 0, iv 0, iv 0, iv 0, iv 0, iv 0, iv 0, iv 0] 44)); clear h1
    go_wp2_with fail
    go_loopw [8, 9] (fun v8 v9 wr => v8 = iv 10 ∧ v9 = iv 0 ∧ wr = (w1.alloc (.cells #[iv 0, iv 0, iv 0, iv 0, iv 0, iv 0, iv 0, iv 0, iv 0, iv 0] 44))) (fun _ _ _ => 0)
    case atStart => exact ⟨rfl, rfl, rfl⟩
    case round =>
      obtain ⟨rfl, rfl, rfl⟩ := hrel
      go_wp2
      all_goals
        go_ret
        exact ⟨rfl, H1.out⟩
  | some y =>
    rw [e] at hg
    simp only at hg ⊢
    have hregs := gorA_regs h.i64 e
    have HG := Lib.hid (hg _ _ _ h)
    have hsud := fun a => rsudog_s (R := R) (s := s) a
    have hx' : ∀ (V' : List (Nat × List Value)) (s' : PH) (w' : World), (∀ p ∈ V, p ∈ V') → RS R s' w0 w' V' → ∀ (i : Nat) (x : Int), l[i]? = some x → ∃ b, o = some ⟨b, 0, none⟩ ∧ w'.cell? ⟨b, i, none⟩ = some (iv x) := fun V' s' w' hs hh i x hi => by
      obtain ⟨b, bc, h1, h2, h3⟩ := hx i x hi
      exact ⟨b, h1, (hh.blk (hs _ h2)).at i h3⟩
    have hput := rputGor_s (R := R) (s := rlinkF s l l.length) g { y with status := 1, sudogs := l.headD (-1) } (show ∀ z ∈ y.regs, I64 z from hregs)
    obtain ⟨y0, y1, y2, y3, y4, y5, y6, y7, y8, y9⟩ := y
    have HX := Lib.hid hx'; have HSUD := Lib.hid hsud; have HPUT := Lib.hid hput
    simp only
    generalize hRR : (if l.all (fun a => (sudogA s.A a).isSome) then putGorH (rlinkF s l l.length) g ⟨y0, 1, y2, y3, y4, y5, y6, y7, y8, l.headD (-1)⟩ else (s, 10)) = RR
    have HRES := Lib.hid hRR
    clear hRR
    clear hg h e hx hx' hsud hput hregs
    go_enter Tryz.func133, Tryz.ntmps133
    go_wp2_with fail
    refine HG.out.mono ?_
    rintro e w1 ⟨rfl, h1⟩
    have H1 := Lib.hid (h1.new [iv y0, iv y1, iv y2, iv y3, iv y4, iv y5, iv y6, iv y7, iv y8, iv y9] 44)
    have hs1 := h1.size
    have hl1 := Lib.hid h1.lt
    clear h1 HG
    go_wp2_with fail
    go_loopw [8, 9] (fun v8 v9 wr => ∃ p : Nat, p ≤ l.length ∧ v9 = iv p ∧ Hid (RS R s w0 wr ((w1.heap.size, [iv y0, iv y1, iv y2, iv y3, iv y4, iv y5, iv y6, iv y7, iv y8, iv y9]) :: V)) ∧ ((v8 = iv 0 ∧ (l.take p).all (fun a => (sudogA s.A a).isSome) = true) ∨ (v8 = iv 10 ∧ RR = (s, 10)))) (fun _ v9 _ => l.length - (intOf v9).toNat)
    case atStart => exact ⟨0, Nat.zero_le _, rfl, H1, .inl ⟨rfl, rfl⟩⟩
    case round =>
      obtain ⟨p, hp, rfl, hh, hor⟩ := hrel
      clear H1
      rcases hor with ⟨rfl, hal⟩ | ⟨rfl, hbad⟩
      · by_cases hlt : p < l.length
        · obtain ⟨x, hx⟩ : ∃ x, l[p]? = some x := ⟨_, List.getElem?_eq_getElem hlt⟩
          obtain ⟨b, rfl, c1⟩ := HX.out _ _ _ (fun p hp => .tail _ hp) hh.out p x hx
          have hsx := HSUD.out x _ _ _ hh.out
          unfold sudogR at hsx
          have htk : l.take (p + 1) = l.take p ++ [x] := by rw [List.take_add_one, hx]; rfl
          have hlt' : (p : Int) < l.length := by omega
          cases e2 : sudogA s.A x with
          | none =>
            rw [e2] at hsx
            have hfin : RR = (s, 10) := by
              rw [← HRES.out, if_neg]
              intro hq
              rw [List.all_eq_true] at hq
              have := hq x (List.mem_of_getElem? hx)
              rw [e2] at this; cases this
            have HFIN := Lib.hid hfin
            have HSX := Lib.hid hsx
            clear hh hal hsx hx htk e2 hfin
            go_wp2_with fail
            refine HSX.out.mono ?_
            rintro e w2 ⟨rfl, h1⟩
            have HF := Lib.hid h1; clear h1
            go_wp2
            go_roundw
            case rel => exact ⟨p + 1, by omega, by go_num, HF, .inr ⟨rfl, HFIN.out⟩⟩
            case measure => simp [intOf]; omega
          | some z =>
            rw [e2] at hsx
            have hal2 : (l.take (p + 1)).all (fun a => (sudogA s.A a).isSome) = true := by rw [htk, List.all_append, hal]; simp [e2]
            have HSX := Lib.hid hsx; have HAL := Lib.hid hal2
            clear hh hal hsx hx htk e2 hal2
            go_wp2_with fail
            refine HSX.out.mono ?_
            rintro e w2 ⟨rfl, h1⟩
            have HF := Lib.hid h1; clear h1
            go_wp2
            go_roundw
            case rel => exact ⟨p + 1, by omega, by go_num, HF, .inl ⟨rfl, HAL.out⟩⟩
            case measure => simp [intOf]; omega
        · obtain rfl : p = l.length := by omega
          rw [List.take_length] at hal
          have hfin : RR = putGorH (rlinkF s l l.length) g ⟨y0, 1, y2, y3, y4, y5, y6, y7, y8, l.headD (-1)⟩ := by rw [← HRES.out, if_pos hal]
          have HFIN := Lib.hid hfin
          have kb := hh.out.blk (.head _)
          have k1 := kb.at 1 rfl; have k9 := kb.at 9 rfl
          have f1 := kb.free 1; have f9 := kb.free 9
          have h2 : RS R s w0 ((wr.setCell ⟨w1.heap.size, 1, none⟩ (iv 1)).setCell ⟨w1.heap.size, 9, none⟩ (iv (-1))) ((w1.heap.size, [iv y0, iv 1, iv y2, iv y3, iv y4, iv y5, iv y6, iv y7, iv y8, iv (-1)]) :: V) := (hh.out.set hs1 (fun p hp => Nat.ne_of_lt (hl1.out p hp)) 1 (iv 1)).set hs1 (fun p hp => Nat.ne_of_lt (hl1.out p hp)) 9 (iv (-1))
          have HH2 := Lib.hid h2
          clear hh hal hfin kb h2
          have hps := fun (s' : PH) (hi : s'.A.I64) (a m : Int) => rputSudog_s (R := R) (s := s') a { (sudogR s'.A a).1 with more := m } (show I64 (sudogR s'.A a).1.value from sudogR_value hi a)
          have hsd := fun (s' : PH) (a : Int) => rsudog_s (R := R) (s := s') a
          have HPS := Lib.hid hps; have HSD := Lib.hid hsd
          clear hps hsd HSUD
          go_wp2_with fail
          go_loopw [10] (fun v10 wr => ∃ p : Nat, p ≤ l.length ∧ v10 = iv p ∧ Hid (RS R (rlinkF s l p) w0 wr ((w1.heap.size, [iv y0, iv 1, iv y2, iv y3, iv y4, iv y5, iv y6, iv y7, iv y8, iv (-1)]) :: V))) (fun v10 _ => l.length - (intOf v10).toNat)
          case atStart => exact ⟨0, Nat.zero_le _, rfl, HH2⟩
          case round =>
            obtain ⟨p, hp, rfl, hh⟩ := hrel
            clear HH2 k1 k9 f1 f9
            by_cases hlt : p < l.length
            · obtain ⟨x, hx⟩ : ∃ x, l[p]? = some x := ⟨_, List.getElem?_eq_getElem hlt⟩
              obtain ⟨b, rfl, c1⟩ := HX.out _ _ _ (fun p hp => .tail _ hp) hh.out p x hx
              have hnx : nthI l p = x := by unfold nthI; rw [List.getD_eq_getElem?_getD, hx]; rfl
              have hlk : rlinkF s l (p + 1) = (putSudogH (rlinkF s l p) x { (sudogR (rlinkF s l p).A x).1 with more := (l[p + 1]?).getD (-1) }).1 := by simp only [rlinkF, hnx]
              have hss := HSD.out (rlinkF s l p) x _ _ _ hh.out
              have hpp := HPS.out (rlinkF s l p) hh.out.i64 x ((l[p + 1]?).getD (-1))
              rw [← hlk] at hpp
              have hcx : ∀ (i : Nat) (u : Int), l[i]? = some u → ∀ (s' : PH) (V' : List (Nat × List Value)) (w' : World), (∀ p ∈ V, p ∈ V') → RS R s' w0 w' V' → w'.cell? ⟨b, i, none⟩ = some (iv u) := fun i u hi s' V' w' hs hh => by
                obtain ⟨b', hb', hc'⟩ := HX.out V' s' w' hs hh i u hi
                cases hb'; exact hc'
              generalize rlinkF s l p = s1 at hh hss hpp hlk
              generalize sudogR s1.A x = SR at hss hpp
              obtain ⟨⟨z0, z1, z2, z3, z4, z5, z6⟩, ze⟩ := SR
              simp only at hss hpp
              have HSS := Lib.hid hss; have HPP := Lib.hid hpp; have HCX := Lib.hid hcx
              have hlt' : (p : Int) < l.length := by omega
              have hx0 := Lib.hid hx
              clear hh hss hpp hlk hx hcx hnx
              by_cases hlast : p + 1 < l.length
              · obtain ⟨u, hu⟩ : ∃ u, l[p + 1]? = some u := ⟨_, List.getElem?_eq_getElem hlast⟩
                rw [hu] at HPP
                simp only [Option.getD_some] at HPP
                have hu0 := Lib.hid hu; clear hu
                have t1 : decide (p + 1 < l.length) = true := by simpa using hlast
                have t2 : decide ((p : Int) + 1 < l.length) = true := by simp; omega
                have hlast' : (p : Int) + 1 < l.length := by omega
                go_wp2_with fail
                refine HSS.out.mono ?_
                rintro e w2 ⟨rfl, h1⟩
                have h2 := h1.new [iv z0, iv z1, iv z2, iv z3, iv z4, iv z5, iv u] 36
                have cx := HCX.out _ _ hx0.out _ _ _ (fun p hp => .tail _ hp) h1
                have cu := HCX.out _ _ hu0.out _ _ _ (fun p hp => .tail _ hp) h1
                have hbl : b < w2.heap.size := World.block_lt_of_cell? w2 _ cx
                have hbn := Nat.ne_of_lt hbl
                have hbn2 := hbn.symm
                have S3 := Lib.hid (HPP.out _ _ _ h2.drew)
                clear h1 h2 c1 HSS
                go_wp2_with fail
                go_region_with (go_at_call 131; refine S3.out.mono ?_; rintro e w3 ⟨rfl, h1⟩; have HF := Lib.hid (h1.sub (V' := (w1.heap.size, [iv y0, iv 1, iv y2, iv y3, iv y4, iv y5, iv y6, iv y7, iv y8, iv (-1)]) :: V) (fun p hp => .tail _ hp)); clear h1)
                all_goals
                  clear cx cu S3 hbl
                  go_wp2
                  go_roundw
                  case rel => exact ⟨p + 1, by omega, by go_num, HF⟩
                  case measure => simp [intOf]; omega
              · have hu : l[p + 1]? = none := List.getElem?_eq_none (by omega)
                rw [hu] at HPP
                simp only [Option.getD_none] at HPP
                clear hu
                have t1 : decide (p + 1 < l.length) = false := by simpa using hlast
                have t2 : decide ((p : Int) + 1 < l.length) = false := by simp; omega
                go_wp2_with fail
                refine HSS.out.mono ?_
                rintro e w2 ⟨rfl, h1⟩
                have h2 := h1.new [iv z0, iv z1, iv z2, iv z3, iv z4, iv z5, iv (-1)] 36
                have cx := HCX.out _ _ hx0.out _ _ _ (fun p hp => .tail _ hp) h1
                have hbl : b < w2.heap.size := World.block_lt_of_cell? w2 _ cx
                have hbn := Nat.ne_of_lt hbl
                have hbn2 := hbn.symm
                have S3 := Lib.hid (HPP.out _ _ _ h2.drew)
                clear h1 h2 c1 HSS
                go_wp2_with fail
                go_region_with (go_at_call 131; refine S3.out.mono ?_; rintro e w3 ⟨rfl, h1⟩; have HF := Lib.hid (h1.sub (V' := (w1.heap.size, [iv y0, iv 1, iv y2, iv y3, iv y4, iv y5, iv y6, iv y7, iv y8, iv (-1)]) :: V) (fun p hp => .tail _ hp)); clear h1)
                all_goals
                  clear cx S3 hbl
                  go_wp2
                  go_roundw
                  case rel => exact ⟨p + 1, by omega, by go_num, HF⟩
                  case measure => simp [intOf]; omega
            · obtain rfl : p = l.length := by omega
              have kb := hh.out.blk (.head _)
              have k0 := kb.at 0 rfl; have k1 := kb.at 1 rfl; have k2 := kb.at 2 rfl; have k3 := kb.at 3 rfl; have k4 := kb.at 4 rfl; have k5 := kb.at 5 rfl; have k6 := kb.at 6 rfl; have k7 := kb.at 7 rfl; have k8 := kb.at 8 rfl; have k9 := kb.at 9 rfl
              have f9 := kb.free 9
              cases l with
              | nil =>
                have S1 := Lib.hid (HPUT.out _ _ _ hh.out)
                clear hh kb
                go_wp2_with fail
                refine S1.out.mono ?_
                rintro e w2 ⟨rfl, h1⟩
                have HF := Lib.hid (h1.sub (V' := V) (fun p hp => .tail _ hp)); clear h1
                go_wp2
                go_ret
                rw [HFIN.out]
                exact ⟨rfl, HF.out⟩
              | cons x l' =>
                obtain ⟨b, rfl, c1⟩ := HX.out _ _ _ (fun p hp => .tail _ hp) hh.out 0 x rfl
                have h2 : RS R (rlinkF s (x :: l') (x :: l').length) w0 (wr.setCell ⟨w1.heap.size, 9, none⟩ (iv x)) ((w1.heap.size, [iv y0, iv 1, iv y2, iv y3, iv y4, iv y5, iv y6, iv y7, iv y8, iv x]) :: V) := hh.out.set hs1 (fun p hp => Nat.ne_of_lt (hl1.out p hp)) 9 (iv x)
                have S1 := Lib.hid (HPUT.out _ _ _ h2)
                have t1 : decide (0 < (x :: l').length) = true := rfl
                have t2 : decide ((((x :: l').length : Nat) : Int) > 0) = true := by simp
                have t3 : (0 : Int) < (((x :: l').length : Nat) : Int) := by simp
                clear hh h2 kb
                go_wp2_with fail
                refine S1.out.mono ?_
                rintro e w2 ⟨rfl, h1⟩
                have HF := Lib.hid (h1.sub (V' := V) (fun p hp => .tail _ hp)); clear h1
                go_wp2
                go_ret
                rw [HFIN.out]
                exact ⟨rfl, HF.out⟩
      · have HB := Lib.hid hbad
        clear hbad
        have HF := Lib.hid (hh.out.sub (V' := V) (fun p hp => .tail _ hp)); clear hh
        go_wp2
        all_goals
          go_ret
          rw [HB.out]
          exact ⟨rfl, HF.out⟩
end Go.Proofs.YtcnppdbgieaddaaGreat

namespace Go.Proofs.YtcnppdbgieaddaaGreat
open Go.RowKit
set_option linter.unusedVariables false
set_option linter.unusedSimpArgs false
variable {w w' w0 : World} {L : Lay} {R : RLay} {s t : PH} {V : List (Nat × List Value)} {O : List (Value × List Int)}

def apartO (q q' : Value × List Int) : Prop := ∀ b, q.1.ownBlock = some b → q'.1.ownBlock ≠ some b
/-- The program's heap has come to s, the document's to t; all that was in w0 is as it was; V: variables' blocks; O: slices of one's own. -/
def JS (L : Lay) (s : PH) (R : RLay) (t : PH) (w0 w : World) (V : List (Nat × List Value)) (O : List (Value × List Int)) : Prop :=
  ∃ L' R', (HeapAt w L' s ∧ L'.hb = L.hb ∧ L'.ab = L.ab) ∧ (RefAt w R' t ∧ R'.hb = R.hb ∧ R'.ab = R.ab) ∧ (∀ b ∈ L'.own, b ∉ R'.own ∧ w0.heap.size ≤ b) ∧ (∀ b ∈ R'.own, w0.heap.size ≤ b) ∧ Below w0.heap.size w0 w ∧
    (∀ p ∈ V, Blk w p.1 p.2 ∧ p.1 ∉ L'.own ∧ p.1 ∉ R'.own) ∧
    (∀ q ∈ O, w.ownsRow w0.heap.size 3 1 q.1 q.2.length (intsV q.2) ∧ ∀ b, q.1.ownBlock = some b → b ∉ L'.own ∧ b ∉ R'.own ∧ ∀ p ∈ V, p.1 ≠ b) ∧ O.Pairwise apartO

theorem JS.start (hL : HeapAt w L s) (hR : RefAt w R t) (hb : Below w0.heap.size w0 w) (h1 : ∀ b ∈ L.own, b ∉ R.own ∧ w0.heap.size ≤ b) (h2 : ∀ b ∈ R.own, w0.heap.size ≤ b) : JS L s R t w0 w [] [] :=
  ⟨L, R, ⟨hL, rfl, rfl⟩, ⟨hR, rfl, rfl⟩, h1, h2, hb, by simp, by simp, .nil⟩
/-- A step that turns nothing that was there. -/
theorem JS.below (h : JS L s R t w0 w V O) (hb : Below w.heap.size w w') : JS L s R t w0 w' V O := by
  obtain ⟨L', R', ⟨a1, a2, a3⟩, ⟨b1, b2, b3⟩, c1, c2, c3, v, o, pw⟩ := h
  refine ⟨L', R', ⟨a1.below hb, a2, a3⟩, ⟨b1.below hb, b2, b3⟩, c1, c2, c3.trans (hb.mono c3.size), fun p hp => ⟨(v p hp).1.keep (hb.block _ (v p hp).1.lt), (v p hp).2⟩, fun q hq => ⟨ownsRow_keep (o q hq).1 fun b e => hb.block b ((o q hq).1.lt b e).2, (o q hq).2⟩, pw⟩
theorem JS.alloc (h : JS L s R t w0 w V O) (x : Obj) : JS L s R t w0 (w.alloc x) V O := h.below ((Below.refl _ _).alloc (Nat.le_refl _) _)
theorem JS.drew (h : JS L s R t w0 w V O) : JS L s R t w0 w.drew V O := h.below (Below.refl _ _).drew
theorem JS.past (h : JS L s R t w0 w V O) : Below w0.heap.size w0 w := by obtain ⟨L', R', _, _, _, _, c3, _⟩ := h; exact c3
theorem JS.size (h : JS L s R t w0 w V O) : w0.heap.size ≤ w.heap.size := h.past.size
theorem JS.olt (h : JS L s R t w0 w V O) : ∀ q ∈ O, ∀ b, q.1.ownBlock = some b → b < w.heap.size := by
  obtain ⟨L', R', _, _, _, _, _, _, o, _⟩ := h; exact fun q hq b e => ((o q hq).1.lt b e).2
theorem JS.with (h : JS L s R t w0 w V O) (b : Nat) (vs : List Value) (hb : Below w.heap.size w w') (hn : w.heap.size ≤ b) (hv : Blk w' b vs) : JS L s R t w0 w' ((b, vs) :: V) O := by
  obtain ⟨L', R', ⟨a1, a2, a3⟩, ⟨b1, b2, b3⟩, c1, c2, c3, v, o, pw⟩ := h
  refine ⟨L', R', ⟨a1.below hb, a2, a3⟩, ⟨b1.below hb, b2, b3⟩, c1, c2, c3.trans (hb.mono c3.size), fun p hp => ?_, fun q hq => ⟨ownsRow_keep (o q hq).1 fun b e => hb.block b ((o q hq).1.lt b e).2, fun c e => ⟨((o q hq).2 c e).1, ((o q hq).2 c e).2.1, fun p hp => ?_⟩⟩, pw⟩
  · rcases List.mem_cons.1 hp with rfl | hp
    · exact ⟨hv, fun hm => by have := a1.lt _ hm; simp only at this; omega, fun hm => by have := b1.lt _ hm; simp only at this; omega⟩
    · exact ⟨(v p hp).1.keep (hb.block _ (v p hp).1.lt), (v p hp).2⟩
  · rcases List.mem_cons.1 hp with rfl | hp
    · have := ((o q hq).1.lt c e).2; simp only; omega
    · exact ((o q hq).2 c e).2.2 p hp
theorem JS.new (h : JS L s R t w0 w V O) (vs : List Value) (ty : TypeId) : JS L s R t w0 (w.alloc (.cells vs.toArray ty)) ((w.heap.size, vs) :: V) O :=
  h.with w.heap.size vs ((Below.refl _ _).alloc (Nat.le_refl _) _) (Nat.le_refl _) (Blk.new w vs ty)
theorem JS.blk (h : JS L s R t w0 w V O) {b : Nat} {vs : List Value} (hm : (b, vs) ∈ V) : Blk w b vs := by
  obtain ⟨L', R', _, _, _, _, _, v, _⟩ := h; exact (v _ hm).1
theorem JS.vlt (h : JS L s R t w0 w V O) : ∀ p ∈ V, p.1 < w.heap.size := fun p hp => (h.blk (b := p.1) (vs := p.2) hp).lt
theorem JS.own (h : JS L s R t w0 w V O) {q : Value × List Int} (hq : q ∈ O) : w.ownsRow w0.heap.size 3 1 q.1 q.2.length (intsV q.2) := by
  obtain ⟨L', R', _, _, _, _, _, _, o, _⟩ := h; exact (o q hq).1
theorem JS.ints (h : JS L s R t w0 w V O) {q : Value × List Int} (hq : q ∈ O) : IntsAt w q.1 q.2 := IntsAt.ofOwn (h.own hq)
theorem JS.sub (h : JS L s R t w0 w V O) {V' : List (Nat × List Value)} (hs : ∀ p ∈ V', p ∈ V) : JS L s R t w0 w V' O := by
  obtain ⟨L', R', a, b, c1, c2, c3, v, o, pw⟩ := h
  exact ⟨L', R', a, b, c1, c2, c3, fun p hp => v p (hs p hp), fun q hq => ⟨(o q hq).1, fun b e => ⟨((o q hq).2 b e).1, ((o q hq).2 b e).2.1, fun p hp => ((o q hq).2 b e).2.2 p (hs p hp)⟩⟩, pw⟩
/-- A variable is turned. -/
theorem JS.set {b : Nat} {vs : List Value} (h : JS L s R t w0 w ((b, vs) :: V) O) (hw : w0.heap.size ≤ b) (hd : ∀ p ∈ V, p.1 ≠ b) (i : Nat) (x : Value) : JS L s R t w0 (w.setCell ⟨b, i, none⟩ x) ((b, vs.set i x) :: V) O := by
  obtain ⟨L', R', ⟨a1, a2, a3⟩, ⟨b1, b2, b3⟩, c1, c2, c3, v, o, pw⟩ := h
  have hb := v (b, vs) (by simp)
  have hst : Stp [b] [b] w (w.setCell ⟨b, i, none⟩ x) := Stp.set (by simp) i x
  refine ⟨L', R', ⟨a1.stp hst (fun y hy e => by simp at e; subst e; exact hb.2.1 hy), a2, a3⟩, ⟨b1.stp hst (fun y hy e => by simp at e; subst e; exact hb.2.2 hy), b2, b3⟩, c1, c2, c3.setCell (p := ⟨b, i, none⟩) hw x, fun p hp => ?_, fun q hq => ⟨ownsRow_keep (o q hq).1 fun c e => Below.heap_setCell _ _ _ _ ?_, fun c e => ⟨((o q hq).2 c e).1, ((o q hq).2 c e).2.1, fun p hp => ?_⟩⟩, pw⟩
  · rcases List.mem_cons.1 hp with rfl | hp
    · exact ⟨hb.1.set i x, hb.2⟩
    · exact ⟨(v p (List.mem_cons_of_mem _ hp)).1.set_other (hd p hp) i x, (v p (List.mem_cons_of_mem _ hp)).2⟩
  · exact fun q2 => ((o q hq).2 c e).2.2 (b, vs) (by simp) q2.symm
  · rcases List.mem_cons.1 hp with rfl | hp
    · exact ((o q hq).2 c e).2.2 (b, vs) (by simp)
    · exact ((o q hq).2 c e).2.2 p (List.mem_cons_of_mem _ hp)
theorem JS.nilO (h : JS L s R t w0 w V O) : JS L s R t w0 w V ((.slice none 0 0, []) :: O) := by
  obtain ⟨L', R', a, b, c1, c2, c3, v, o, pw⟩ := h
  refine ⟨L', R', a, b, c1, c2, c3, v, fun q hq => ?_, .cons (fun q hq b e => by cases e) pw⟩
  rcases List.mem_cons.1 hq with rfl | hq
  · exact ⟨World.ownsRow_nil _ _ _ _, fun b e => by cases e⟩
  · exact o q hq
theorem JS.dropO {q : Value × List Int} (h : JS L s R t w0 w V (q :: O)) : JS L s R t w0 w V O := by
  obtain ⟨L', R', a, b, c1, c2, c3, v, o, pw⟩ := h
  exact ⟨L', R', a, b, c1, c2, c3, v, fun q hq => o q (List.mem_cons_of_mem _ hq), (List.pairwise_cons.1 pw).2⟩
theorem JS.swapO {q q' : Value × List Int} (h : JS L s R t w0 w V (q :: q' :: O)) : JS L s R t w0 w V (q' :: q :: O) := by
  obtain ⟨L', R', a, b, c1, c2, c3, v, o, pw⟩ := h
  obtain ⟨p1, p2⟩ := List.pairwise_cons.1 pw
  obtain ⟨p3, p4⟩ := List.pairwise_cons.1 p2
  refine ⟨L', R', a, b, c1, c2, c3, v, fun x hx => o x ?_, .cons (fun x hx => ?_) (.cons (fun x hx => p1 x (List.mem_cons_of_mem _ hx)) p4)⟩
  · simp only [List.mem_cons] at hx ⊢
    rcases hx with h | h | h
    · exact .inr (.inl h)
    · exact .inl h
    · exact .inr (.inr h)
  · rcases List.mem_cons.1 hx with rfl | hx
    · exact fun b e1 e2 => p1 q' (by simp) b e2 e1
    · exact p3 x hx
/-- A slice of one's own that lies behind it. -/
theorem JS.addO (h : JS L s R t w0 w V O) (hb : Below w.heap.size w w') {v : Value} {l : List Int} (ho : w'.ownsRow w.heap.size 3 1 v l.length (intsV l)) : JS L s R t w0 w' V ((v, l) :: O) := by
  have hs := h.size
  obtain ⟨L', R', ⟨a1, a2, a3⟩, ⟨b1, b2, b3⟩, c1, c2, c3, v', o, pw⟩ := h
  refine ⟨L', R', ⟨a1.below hb, a2, a3⟩, ⟨b1.below hb, b2, b3⟩, c1, c2, c3.trans (hb.mono c3.size), fun p hp => ⟨(v' p hp).1.keep (hb.block _ (v' p hp).1.lt), (v' p hp).2⟩, fun q hq => ?_, .cons (fun q hq b e e2 => ?_) pw⟩
  · rcases List.mem_cons.1 hq with rfl | hq
    · refine ⟨ownsRow_low ho hs, fun b e => ⟨fun hm => ?_, fun hm => ?_, fun p hp => ?_⟩⟩
      · have := a1.lt _ hm; have := (ho.lt b e).1; omega
      · have := b1.lt _ hm; have := (ho.lt b e).1; omega
      · have := (v' p hp).1.lt; have := (ho.lt b e).1; omega
    · exact ⟨ownsRow_keep (o q hq).1 fun b e => hb.block b ((o q hq).1.lt b e).2, (o q hq).2⟩
  · have := (ho.lt b e).1; have := ((o q hq).1.lt b e2).2; omega
/-- A slice of one's own has grown by one. -/
theorem JS.grow {v v' : Value} {l : List Int} {x : Int} {ty : TypeId} (h : JS L s R t w0 w V ((v, l) :: O)) (hg : (w.alloc (.cells #[iv x] ty)).grownBy w' v.ownBlock)
    (ho : w'.ownsRow w0.heap.size 3 1 v' (l ++ [x]).length (intsV (l ++ [x]))) (halt : v'.ownBlock = v.ownBlock ∨ v'.ownBlock = some (w.alloc (.cells #[iv x] ty)).heap.size) : JS L s R t w0 w' V ((v', l ++ [x]) :: O) := by
  obtain ⟨L', R', ⟨a1, a2, a3⟩, ⟨b1, b2, b3⟩, c1, c2, c3, vv, o, pw⟩ := h
  obtain ⟨p1, p2⟩ := List.pairwise_cons.1 pw
  obtain ⟨o1, o2⟩ := o (v, l) (by simp)
  have hk : ∀ b, b < w.heap.size → v.ownBlock ≠ some b → w'.heap[b]? = w.heap[b]? := fun b hb hn => by
    rw [hg.block b (by rw [World.size_alloc]; omega) (fun e => hn (by rw [e]))]; exact Below.heap_alloc _ _ _ hb
  have hsz : w.heap.size ≤ w'.heap.size := by have := hg.size; rw [World.size_alloc] at this; omega
  refine ⟨L', R', ⟨a1.keep (fun b hm => hk b (a1.lt b hm) (fun e => (o2 b e).1 hm)), a2, a3⟩, ⟨b1.keep (fun b hm => hk b (b1.lt b hm) (fun e => (o2 b e).2.1 hm)), b2, b3⟩, c1, c2, ?_, fun p hp => ⟨(vv p hp).1.keep (hk _ (vv p hp).1.lt (fun e => (o2 _ e).2.2 p hp rfl)), (vv p hp).2⟩, fun q hq => ?_, .cons (fun q hq b e e2 => ?_) p2⟩
  · refine ⟨hg.os.trans c3.os, hg.tape.trans c3.tape, hg.output.trans c3.output, Nat.le_trans c3.size hsz, fun b hb => ?_⟩
    rw [hk b (Nat.lt_of_lt_of_le hb c3.size) (fun e => by have := (o1.lt _ e).1; omega)]; exact c3.block b hb
  · rcases List.mem_cons.1 hq with rfl | hq
    · refine ⟨ho, fun b e => ?_⟩
      rcases halt with z | z
      · rw [z] at e; exact o2 b e
      · rw [z] at e; cases e
        refine ⟨fun hm => ?_, fun hm => ?_, fun p hp => ?_⟩
        · have := a1.lt _ hm; rw [World.size_alloc] at this; omega
        · have := b1.lt _ hm; rw [World.size_alloc] at this; omega
        · have := (vv p hp).1.lt; rw [World.size_alloc]; omega
    · obtain ⟨o3, o4⟩ := o q (List.mem_cons_of_mem _ hq)
      exact ⟨ownsRow_keep o3 fun b e => hk b (o3.lt b e).2 fun e2 => p1 q hq b e2 e, o4⟩
  · obtain ⟨o3, o4⟩ := o q (List.mem_cons_of_mem _ hq)
    rcases halt with z | z
    · rw [z] at e; exact p1 q hq b e e2
    · rw [z] at e; cases e
      have := (o3.lt _ e2).2; rw [World.size_alloc] at this; omega

/-! ### Steps of one heap -/
def blkO (w : World) (q : Value × List Int) : List (Nat × List Value) := match q.1.ownBlock with
  | none => []
  | some g => match w.heap[g]? with | some (.cells cur _ _) => [(g, cur.toList)] | _ => []
theorem ownsRow_blk {base : Nat} {v : Value} {l : List Int} (h : w.ownsRow base 3 1 v l.length (intsV l)) : (∀ p ∈ blkO w (v, l), Blk w p.1 p.2 ∧ v.ownBlock = some p.1) ∧ SlV (blkO w (v, l)) v l := by
  obtain ⟨h1, ⟨rfl, h3⟩ | ⟨g, cap, cur, rfl, hb, hg, hc, hm, hs, ht⟩⟩ := h
  · refine ⟨by simp [blkO, Value.ownBlock], ?_⟩
    have : l = [] := List.eq_nil_of_length_eq_zero h3
    subst this
    exact SlV.nil
  · have e : blkO w (Value.slice (some ⟨g, 0, none⟩) l.length cap, l) = [(g, cur.toList)] := by simp [blkO, Value.ownBlock, hg]
    rw [e]
    refine ⟨fun p hp => ?_, _, cap, rfl, fun i x hx => ⟨g, cur.toList, rfl, by simp, ?_⟩⟩
    · rw [List.mem_singleton] at hp; subst hp
      exact ⟨⟨_, by simpa using hg⟩, rfl⟩
    · have : (intsV l)[i]? = some (iv x) := by simp [intsV, hx]
      have hi := (List.getElem?_eq_some_iff.1 hx).1
      rw [← ht, List.getElem?_take, if_pos (by omega)] at this
      exact this
/-- The program's heap, by itself: what holds of it, and what a step of it leaves. -/
theorem JS.hs (h : JS L s R t w0 w V O) : ∃ L', hptr L' = hptr L ∧ aptr L' = aptr L ∧ HS L' s w w (V ++ O.flatMap (blkO w)) ∧ (∀ q ∈ O, SlV (V ++ O.flatMap (blkO w)) q.1 q.2) ∧
    ∀ s' w' V', HS L' s' w w' V' → (∀ p ∈ V', p ∈ V ∨ w.heap.size ≤ p.1) → JS L s' R t w0 w' V' O := by
  obtain ⟨L', R', ⟨a1, a2, a3⟩, ⟨b1, b2, b3⟩, c1, c2, c3, v, o, pw⟩ := h
  have hO : ∀ p ∈ O.flatMap (blkO w), ∃ q ∈ O, Blk w p.1 p.2 ∧ q.1.ownBlock = some p.1 := fun p hp => by
    obtain ⟨q, hq, hp⟩ := List.mem_flatMap.1 hp
    have := (ownsRow_blk (o q hq).1).1 p hp
    exact ⟨q, hq, this⟩
  refine ⟨L', hptr_eq a2, aptr_eq a3, ⟨L', a1, rfl, rfl, Stp.refl _ _, fun p hp => ?_⟩, fun q hq => ?_, ?_⟩
  · rcases List.mem_append.1 hp with hp | hp
    · exact ⟨(v p hp).1, (v p hp).2.1⟩
    · obtain ⟨q, hq, h1, h2⟩ := hO p hp
      exact ⟨h1, ((o q hq).2 _ h2).1⟩
  · exact (ownsRow_blk (o q hq).1).2.sub fun p hp => List.mem_append.2 (.inr (List.mem_flatMap.2 ⟨q, hq, hp⟩))
  · rintro s' w' V' ⟨L2, q1, q2, q3, st, hv⟩ hV
    have fresh : ∀ b, b ∈ L2.own → b ∈ L'.own ∨ w.heap.size ≤ b := st.own
    refine ⟨L2, R', ⟨q1, q2.trans a2, q3.trans a3⟩, ⟨b1.stp st (fun b hb hm => (c1 b hm).1 hb), b2, b3⟩, fun b hb => ?_, c2, ?_, fun p hp => ?_, fun q hq => ?_, pw⟩
    · rcases fresh b hb with h | h
      · exact c1 b h
      · exact ⟨fun hm => by have := b1.lt _ hm; omega, by have := c3.size; omega⟩
    · exact ⟨st.os.trans c3.os, st.tape.trans c3.tape, st.output.trans c3.output, Nat.le_trans c3.size st.size, fun b hb => (st.block b (Nat.lt_of_lt_of_le hb c3.size) (fun hm => by have := (c1 b hm).2; omega)).trans (c3.block b hb)⟩
    · refine ⟨(hv p hp).1, (hv p hp).2, fun hm => ?_⟩
      rcases hV p hp with h | h
      · exact (v p h).2.2 hm
      · have := b1.lt _ hm; omega
    · obtain ⟨o1, o2⟩ := o q hq
      refine ⟨ownsRow_keep o1 fun b e => st.block b (o1.lt b e).2 (o2 b e).1, fun b e => ⟨fun hm => ?_, (o2 b e).2.1, fun p hp => ?_⟩⟩
      · rcases fresh b hm with h | h
        · exact (o2 b e).1 h
        · have := (o1.lt b e).2; omega
      · rcases hV p hp with h | h
        · exact (o2 b e).2.2 p h
        · have := (o1.lt b e).2; omega
/-- The document's heap, by itself. -/
theorem JS.rs (h : JS L s R t w0 w V O) : ∃ R', rptr R' = rptr R ∧ raptr R' = raptr R ∧ RS R' t w w (V ++ O.flatMap (blkO w)) ∧ (∀ q ∈ O, SlV (V ++ O.flatMap (blkO w)) q.1 q.2) ∧
    ∀ t' w' V', RS R' t' w w' V' → (∀ p ∈ V', p ∈ V ∨ w.heap.size ≤ p.1) → JS L s R t' w0 w' V' O := by
  obtain ⟨L', R', ⟨a1, a2, a3⟩, ⟨b1, b2, b3⟩, c1, c2, c3, v, o, pw⟩ := h
  have hO : ∀ p ∈ O.flatMap (blkO w), ∃ q ∈ O, Blk w p.1 p.2 ∧ q.1.ownBlock = some p.1 := fun p hp => by
    obtain ⟨q, hq, hp⟩ := List.mem_flatMap.1 hp
    have := (ownsRow_blk (o q hq).1).1 p hp
    exact ⟨q, hq, this⟩
  refine ⟨R', rptr_eq b2, raptr_eq b3, ⟨R', b1, rfl, rfl, Stp.refl _ _, fun p hp => ?_⟩, fun q hq => ?_, ?_⟩
  · rcases List.mem_append.1 hp with hp | hp
    · exact ⟨(v p hp).1, (v p hp).2.2⟩
    · obtain ⟨q, hq, h1, h2⟩ := hO p hp
      exact ⟨h1, ((o q hq).2 _ h2).2.1⟩
  · exact (ownsRow_blk (o q hq).1).2.sub fun p hp => List.mem_append.2 (.inr (List.mem_flatMap.2 ⟨q, hq, hp⟩))
  · rintro t' w' V' ⟨R2, q1, q2, q3, st, hv⟩ hV
    have fresh : ∀ b, b ∈ R2.own → b ∈ R'.own ∨ w.heap.size ≤ b := st.own
    refine ⟨L', R2, ⟨a1.stp st (fun b hb hm => (c1 b hb).1 hm), a2, a3⟩, ⟨q1, q2.trans b2, q3.trans b3⟩, fun b hb => ⟨fun hm => ?_, (c1 b hb).2⟩, fun b hb => ?_, ?_, fun p hp => ?_, fun q hq => ?_, pw⟩
    · rcases fresh b hm with h | h
      · exact (c1 b hb).1 h
      · have := a1.lt _ hb; omega
    · rcases fresh b hb with h | h
      · exact c2 b h
      · have := c3.size; omega
    · exact ⟨st.os.trans c3.os, st.tape.trans c3.tape, st.output.trans c3.output, Nat.le_trans c3.size st.size, fun b hb => (st.block b (Nat.lt_of_lt_of_le hb c3.size) (fun hm => by have := c2 b hm; omega)).trans (c3.block b hb)⟩
    · refine ⟨(hv p hp).1, fun hm => ?_, (hv p hp).2⟩
      rcases hV p hp with h | h
      · exact (v p h).2.1 hm
      · have := a1.lt _ hm; omega
    · obtain ⟨o1, o2⟩ := o q hq
      refine ⟨ownsRow_keep o1 fun b e => st.block b (o1.lt b e).2 (o2 b e).2.1, fun b e => ⟨(o2 b e).1, fun hm => ?_, fun p hp => ?_⟩⟩
      · rcases fresh b hm with h | h
        · exact (o2 b e).2.1 h
        · have := (o1.lt b e).2; omega
      · rcases hV p hp with h | h
        · exact (o2 b e).2.2 p h
        · have := (o1.lt b e).2; omega
/-- A contract of one heap, in both. -/
theorem JS.wrL {f : Nat} {args : Lay → Array Value} {s' : PH} {r : Value} (h : JS L s R t w0 w V O) (hc : ∀ L, Wr L s f (args L) s' r) (ha : ∀ L', hptr L' = hptr L → aptr L' = aptr L → args L' = args L) :
    Calls Tryz.prog f (args L) w fun e w' => e = .returned r ∧ JS L s' R t w0 w' V O := by
  obtain ⟨L', e1, e2, hh, _, hb⟩ := h.hs
  rw [← ha L' e1 e2]
  exact (hc L' w w V (hh.sub fun p hp => List.mem_append.2 (.inl hp))).mono fun e w' q => ⟨q.1, hb _ _ _ q.2 fun p hp => .inl hp⟩
theorem JS.wrR {f : Nat} {args : RLay → Array Value} {t' : PH} {r : Value} (h : JS L s R t w0 w V O) (hc : ∀ R, RWr R t f (args R) t' r) (ha : ∀ R', rptr R' = rptr R → raptr R' = raptr R → args R' = args R) :
    Calls Tryz.prog f (args R) w fun e w' => e = .returned r ∧ JS L s R t' w0 w' V O := by
  obtain ⟨R', e1, e2, hh, _, hb⟩ := h.rs
  rw [← ha R' e1 e2]
  exact (hc R' w w V (hh.sub fun p hp => List.mem_append.2 (.inl hp))).mono fun e w' q => ⟨q.1, hb _ _ _ q.2 fun p hp => .inl hp⟩
end Go.Proofs.YtcnppdbgieaddaaGreat

namespace Go.Proofs.YtcnppdbgieaddaaGreat
open Go.RowKit
set_option linter.unusedVariables false
set_option linter.unusedSimpArgs false
variable {w w' w0 : World} {L : Lay} {R : RLay} {s t : PH} {V : List (Nat × List Value)} {O : List (Value × List Int)}

theorem halloc_s (k n : Int) : Wr L s 108 #[hptr L, iv k, iv n] (allocH s k n).2 (.tuple #[iv (allocH s k n).1.1, iv (allocH s k n).1.2]) := fun w0 w V h =>
  h.write fun L' h1 h2 h3 => by rw [← hptr_eq h2]; exact halloc_c w h1 k n
theorem hstore_s (a i v : Int) (hi : I64 i) (hv : I64 v) : Wr L s 48 #[hptr L, iv a, iv i, iv v] (storeH s a i v).1 (iv (storeH s a i v).2) := fun w0 w V h =>
  h.write fun L' h1 h2 h3 => by rw [← hptr_eq h2]; exact hstore_c w h1 a i v hi hv
theorem colour_s (a : Int) : Rd L s 30 #[hptr L, iv a] (iv (colourH s a)) := fun w0 w V h =>
  h.read fun L' h1 h2 h3 => by rw [← hptr_eq h2]; exact colour_c w h1 a
theorem hload_s (a i : Int) (hi : I64 i) : Rd L s 144 #[hptr L, iv a, iv i] (.tuple #[iv (loadS s.A a i).1, iv (loadS s.A a i).2]) := fun w0 w V h =>
  h.read fun L' h1 h2 h3 => by rw [← hptr_eq h2]; exact hload_c w h1 a i hi

/-! In both heaps at once: contracts of one of them. -/
theorem JS.l {f : Nat} {x : List Value} {s' : PH} {r : Value} (h : JS L s R t w0 w V O) (hc : ∀ L, Wr L s f (hptr L :: x).toArray s' r) :
    Calls Tryz.prog f (hptr L :: x).toArray w fun e w' => e = .returned r ∧ JS L s' R t w0 w' V O :=
  h.wrL (args := fun L => (hptr L :: x).toArray) hc fun L' e _ => by simp only [e]
theorem JS.r {f : Nat} {x : List Value} {t' : PH} {r : Value} (h : JS L s R t w0 w V O) (hc : ∀ R, RWr R t f (rptr R :: x).toArray t' r) :
    Calls Tryz.prog f (rptr R :: x).toArray w fun e w' => e = .returned r ∧ JS L s R t' w0 w' V O :=
  h.wrR (args := fun R => (rptr R :: x).toArray) hc fun R' e _ => by simp only [e]
theorem JS.ext (h : JS L s R t w0 w V O) (he : Ext w w') : JS L s R t w0 w' V O := h.below he.toBelow

theorem JS.arena (h : JS L s R t w0 w V O) : Calls Tryz.prog 102 #[hptr L] w fun e w' => e = .returned (aptr L) ∧ JS L s R t w0 w' V O := by
  obtain ⟨L', e1, e2, hh, _, hb⟩ := h.hs
  rw [← e1, ← e2]
  exact (arena_s (L := L') (s := s) w w V (hh.sub fun p hp => List.mem_append.2 (.inl hp))).mono fun e w' q => ⟨q.1, hb _ _ _ q.2 fun p hp => .inl hp⟩

theorem JS.nine {b : Nat} {x0 x1 x2 x3 x4 x5 x6 x7 x8 : Int} (h : JS L s R t w0 w V O) (hm : (b, [iv x0, iv x1, iv x2, iv x3, iv x4, iv x5, iv x6, iv x7, iv x8]) ∈ V) :
    w.cell? ⟨b, 0, none⟩ = some (iv x0) ∧ w.cell? ⟨b, 1, none⟩ = some (iv x1) ∧ w.cell? ⟨b, 2, none⟩ = some (iv x2) ∧ w.cell? ⟨b, 3, none⟩ = some (iv x3) ∧ w.cell? ⟨b, 4, none⟩ = some (iv x4) ∧ w.cell? ⟨b, 5, none⟩ = some (iv x5) ∧ w.cell? ⟨b, 6, none⟩ = some (iv x6) ∧ w.cell? ⟨b, 7, none⟩ = some (iv x7) ∧ w.cell? ⟨b, 8, none⟩ = some (iv x8) := by
  have k := h.blk hm
  exact ⟨k.at 0 rfl, k.at 1 rfl, k.at 2 rfl, k.at 3 rfl, k.at 4 rfl, k.at 5 rfl, k.at 6 rfl, k.at 7 rfl, k.at 8 rfl⟩
theorem JS.ten {b : Nat} {x0 x1 x2 x3 x4 x5 x6 x7 x8 x9 : Int} (h : JS L s R t w0 w V O) (hm : (b, [iv x0, iv x1, iv x2, iv x3, iv x4, iv x5, iv x6, iv x7, iv x8, iv x9]) ∈ V) :
    w.cell? ⟨b, 0, none⟩ = some (iv x0) ∧ w.cell? ⟨b, 1, none⟩ = some (iv x1) ∧ w.cell? ⟨b, 2, none⟩ = some (iv x2) ∧ w.cell? ⟨b, 3, none⟩ = some (iv x3) ∧ w.cell? ⟨b, 4, none⟩ = some (iv x4) ∧ w.cell? ⟨b, 5, none⟩ = some (iv x5) ∧ w.cell? ⟨b, 6, none⟩ = some (iv x6) ∧ w.cell? ⟨b, 7, none⟩ = some (iv x7) ∧ w.cell? ⟨b, 8, none⟩ = some (iv x8) ∧ w.cell? ⟨b, 9, none⟩ = some (iv x9) := by
  have k := h.blk hm
  exact ⟨k.at 0 rfl, k.at 1 rfl, k.at 2 rfl, k.at 3 rfl, k.at 4 rfl, k.at 5 rfl, k.at 6 rfl, k.at 7 rfl, k.at 8 rfl, k.at 9 rfl⟩
theorem JS.seven {b : Nat} {x0 x1 x2 x3 x4 x5 x6 : Int} (h : JS L s R t w0 w V O) (hm : (b, [iv x0, iv x1, iv x2, iv x3, iv x4, iv x5, iv x6]) ∈ V) :
    w.cell? ⟨b, 0, none⟩ = some (iv x0) ∧ w.cell? ⟨b, 1, none⟩ = some (iv x1) ∧ w.cell? ⟨b, 2, none⟩ = some (iv x2) ∧ w.cell? ⟨b, 3, none⟩ = some (iv x3) ∧ w.cell? ⟨b, 4, none⟩ = some (iv x4) ∧ w.cell? ⟨b, 5, none⟩ = some (iv x5) ∧ w.cell? ⟨b, 6, none⟩ = some (iv x6) := by
  have k := h.blk hm
  exact ⟨k.at 0 rfl, k.at 1 rfl, k.at 2 rfl, k.at 3 rfl, k.at 4 rfl, k.at 5 rfl, k.at 6 rfl⟩
/-- What 'bench.alloc' answers. -/
def allocB (s : PH) (k n : Int) : Int × PH := (if (allocH s k n).1.2 = 0 then (allocH s k n).1.1 else -1, (allocH s k n).2)

/-! ### Park, either way round -/
theorem putH_same {s : PH} {a k : Int} {l : List Int} (h : seenA s.A a k = some l) : (putH s a k l).1 = s := by
  unfold putH; rw [h]
  simp only
  have : ∀ (l : List Int) (i : Nat), layL s a i l l = s := by
    intro l
    induction l with
    | nil => intro i; unfold layL; rfl
    | cons x l ih => intro i; simp only [layL, if_true]; exact ih (i + 1)
  exact this l 0
theorem seenA_putA {A : AS} {a k : Int} {l : List Int} (hl : l.length = fieldsN k) {b : Int} (hb : b ≠ a) (k' : Int) : seenA (putA A a k l) b k' = seenA A b k' := by
  unfold putA
  cases e : seenA A a k with
  | none => rfl
  | some ws =>
    obtain ⟨eo, _⟩ := seenA_some e
    unfold seenA
    rw [objA_setA A (objA_nonneg eo).1, if_neg hb]
theorem rlink_two {s : PH} {a b : Int} (hab : a ≠ b) (hb : seenA s.A b 3 = some (sudogL { (sudogR s.A b).1 with more := -1 })) : rlinkF s [a, b] 2 = linkN s [a, b] := by
  have e1 : linkN s [b] = s := by
    simp only [linkN, List.headD_nil]
    exact putH_same hb
  have e2 : linkN s [a, b] = (putSudogH s a { (sudogR s.A a).1 with more := b }).1 := by
    have : linkN s [a, b] = (putSudogH (linkN s [b]) a { (sudogR (linkN s [b]).A a).1 with more := b }).1 := rfl
    rw [this, e1]
  have e3 : rlinkF s [a, b] 1 = linkN s [a, b] := by rw [e2]; rfl
  have e4 : rlinkF s [a, b] 2 = (putSudogH (rlinkF s [a, b] 1) b { (sudogR (rlinkF s [a, b] 1).A b).1 with more := -1 }).1 := rfl
  rw [e4, e3]
  have e5 : (linkN s [a, b]).A = putSudogA s.A a { (sudogR s.A a).1 with more := b } := by rw [e2, putSudogH_A']
  have e6 : seenA (linkN s [a, b]).A b 3 = seenA s.A b 3 := by rw [e5]; exact seenA_putA rfl hab.symm 3
  have e7 : sudogR (linkN s [a, b]).A b = sudogR s.A b := by unfold sudogR sudogA; rw [e6]
  rw [e7]
  exact putH_same (by rw [e6]; exact hb)
/-- Sudogs that hang together by one step, or none: one way or the other. -/
def Linked (s : PH) (l : List Int) : Prop := l.length ≤ 1 ∨ ∃ a b, l = [a, b] ∧ (a ≠ b ∧ seenA s.A b 3 = some (sudogL { (sudogR s.A b).1 with more := -1 }) ∨ sudogA s.A a = none ∨ sudogA s.A b = none)
theorem rpark_eq {s : PH} {l : List Int} (h : Linked s l) (g : Int) : rparkH s g l = parkH s g l := by
  unfold rparkH parkH
  cases gorA s.A g with
  | none => rfl
  | some x =>
    simp only
    by_cases hal : (l.all fun a => (sudogA s.A a).isSome) = true
    · rw [if_pos hal, if_pos hal]
      have e : rlinkF s l l.length = linkN s l := by
        rcases h with h | ⟨a, b, rfl, ⟨hab, hb⟩ | h | h⟩
        · match l, h with
          | [], _ => rfl
          | [a], _ => rfl
        · exact rlink_two hab hb
        · simp only [List.all_cons, h, Option.isSome_none, Bool.false_and] at hal; cases hal
        · simp [h] at hal
      rw [e]
    · rw [if_neg hal, if_neg hal]
end Go.Proofs.YtcnppdbgieaddaaGreat
