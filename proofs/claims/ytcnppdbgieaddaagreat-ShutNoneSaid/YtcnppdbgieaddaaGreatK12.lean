/- Who may go on: one waits. Plainly: what the steps of a heap do to its objects: words laid are an object set; the lists, who goes on, who waits. No walk. Plainly: no step turns a thing's kind or how many words it has; places that are told are none or below. No walk. Plainly: the phase stands through all that is laid; while no cycle marks, nothing but objects turns. No walk. -/
import Derived.Test.YtcnppdbgieaddaaGreatK11
namespace Go.Proofs.YtcnppdbgieaddaaGreat
open Go.RowKit
set_option linter.unusedVariables false
set_option linter.unusedSimpArgs false
variable {w w' w0 : World} {L : Lay} {s : PH} {V : List (Nat × List Value)}

/-- A slice whose block V has. -/
def SlV (V : List (Nat × List Value)) (v : Value) (l : List Int) : Prop :=
  ∃ o cap, v = .slice o l.length cap ∧ ∀ (i : Nat) (x : Int), l[i]? = some x → ∃ b bc, o = some ⟨b, 0, none⟩ ∧ (b, bc) ∈ V ∧ bc[i]? = some (iv x)
theorem SlV.nil : SlV V (.slice none 0 0) [] := ⟨none, 0, rfl, fun i x h => by simp at h⟩
theorem SlV.sub {v : Value} {l : List Int} (h : SlV V v l) {V' : List (Nat × List Value)} (hs : ∀ p ∈ V, p ∈ V') : SlV V' v l := by
  obtain ⟨o, cap, rfl, hx⟩ := h
  exact ⟨o, cap, rfl, fun i x hi => by obtain ⟨b, bc, h1, h2, h3⟩ := hx i x hi; exact ⟨b, bc, h1, hs _ h2, h3⟩⟩

def linkN (s : PH) : List Int → PH
  | [] => s
  | a :: l => (putSudogH (linkN s l) a { (sudogR (linkN s l).A a).1 with more := l.headD (-1) }).1
def parkH (s : PH) (g : Int) (l : List Int) : PH × Int :=
  match gorA s.A g with
  | none => (s, 10)
  | some x => if l.all (fun a => (sudogA s.A a).isSome) then putGorH (linkN s l) g { x with status := 1, sudogs := l.headD (-1) } else (s, 10)
theorem sudogR_value (h : s.A.I64) (a : Int) : I64 (sudogR s.A a).1.value := by
  unfold sudogR
  cases e : sudogA s.A a with
  | none => simp only [PSudog.zero]; unfold I64; omega
  | some x => exact sudogA_value h e

set_option maxRecDepth 100000 in
set_option maxHeartbeats 1000000 in
theorem park_s (g : Int) (l : List Int) (hl : l.length ≤ 4096) (v : Value) (w0 w : World) (V : List (Nat × List Value)) (h : HS L s w0 w V) (hv : SlV V v l) : Calls Tryz.prog 26 #[hptr L, iv g, v] w fun e w' => e = .returned (iv (parkH s g l).2) ∧ HS L (parkH s g l).1 w0 w' V := by
  have hg := gor_s (L := L) (s := s) g
  unfold gorR at hg
  unfold parkH
  obtain ⟨o, cap, rfl, hx⟩ := hv
  cases e : gorA s.A g with
  | none =>
    rw [e] at hg
    have HG := Lib.hid (hg _ _ _ h); clear hg h e hx
    go_enter Tryz.func26, Tryz.ntmps26
    go_wp2_with fail
    refine HG.out.mono ?_
    rintro e w1 ⟨rfl, h1⟩
    have H1 := Lib.hid (h1.alloc (.cells #[iv 0, iv 0, iv 0, iv 0, iv 0, iv 0, iv 0, iv 0, iv 0, iv 0] 44)); clear h1
    go_wp2
    go_ret
    exact ⟨rfl, H1.out⟩
  | some y =>
    rw [e] at hg
    simp only at hg ⊢
    have hregs := gorA_regs h.i64 e
    have HG := Lib.hid (hg _ _ _ h)
    have hsud := fun a => sudog_s (L := L) (s := s) a
    have hx' : ∀ (V' : List (Nat × List Value)) (s' : PH) (w' : World), (∀ p ∈ V, p ∈ V') → HS L s' w0 w' V' → ∀ (i : Nat) (x : Int), l[i]? = some x → ∃ b, o = some ⟨b, 0, none⟩ ∧ w'.cell? ⟨b, i, none⟩ = some (iv x) := fun V' s' w' hs hh i x hi => by
      obtain ⟨b, bc, h1, h2, h3⟩ := hx i x hi
      exact ⟨b, h1, (hh.blk (hs _ h2)).at i h3⟩
    have hput := putGor_s (L := L) (s := linkN s l) g { y with status := 1, sudogs := l.headD (-1) } (show ∀ z ∈ y.regs, I64 z from hregs)
    obtain ⟨y0, y1, y2, y3, y4, y5, y6, y7, y8, y9⟩ := y
    have HX := Lib.hid hx'; have HSUD := Lib.hid hsud; have HPUT := Lib.hid hput
    simp only
    generalize hRR : (if l.all (fun a => (sudogA s.A a).isSome) then putGorH (linkN s l) g ⟨y0, 1, y2, y3, y4, y5, y6, y7, y8, l.headD (-1)⟩ else (s, 10)) = RR
    have HRES := Lib.hid hRR
    clear hRR
    clear hg h e hx hx' hsud hput hregs
    go_enter Tryz.func26, Tryz.ntmps26
    go_wp2_with fail
    refine HG.out.mono ?_
    rintro e w1 ⟨rfl, h1⟩
    have H1 := Lib.hid (h1.new [iv y0, iv y1, iv y2, iv y3, iv y4, iv y5, iv y6, iv y7, iv y8, iv y9] 44)
    have hs1 := h1.size
    have hl1 := Lib.hid h1.lt
    clear h1 HG
    go_wp2_with fail
    go_loopw [26] (fun v26 wr => ∃ p : Nat, p ≤ l.length ∧ v26 = iv p ∧ HS L s w0 wr ((w1.heap.size, [iv y0, iv y1, iv y2, iv y3, iv y4, iv y5, iv y6, iv y7, iv y8, iv y9]) :: V) ∧ (l.take p).all (fun a => (sudogA s.A a).isSome) = true) (fun v26 _ => l.length - (intOf v26).toNat)
    case atStart => exact ⟨0, Nat.zero_le _, rfl, H1.out, rfl⟩
    case round =>
      obtain ⟨p, hp, rfl, hh, hal⟩ := hrel
      clear H1
      by_cases hlt : p < l.length
      · obtain ⟨x, hx⟩ : ∃ x, l[p]? = some x := ⟨_, List.getElem?_eq_getElem hlt⟩
        obtain ⟨b, rfl, c1⟩ := HX.out _ _ _ (fun p hp => .tail _ hp) hh p x hx
        have hsx := HSUD.out x _ _ _ hh
        unfold sudogR at hsx
        have htk : l.take (p + 1) = l.take p ++ [x] := by rw [List.take_add_one, hx]; rfl
        cases e2 : sudogA s.A x with
        | none =>
          rw [e2] at hsx
          have hfin : RR = (s, 10) := by
            rw [← HRES.out, if_neg]
            intro hq
            rw [List.all_eq_true] at hq
            have := hq x (List.mem_of_getElem? hx)
            rw [e2] at this; cases this
          have HFIN := Lib.hid hfin
          have HSX := Lib.hid hsx
          clear hh hal hsx hx htk e2 hfin
          go_wp2_with fail
          refine HSX.out.mono ?_
          rintro e w2 ⟨rfl, h1⟩
          have HF := Lib.hid (h1.sub (V' := V) (fun p hp => .tail _ hp)); clear h1
          go_wp2
          go_ret
          rw [HFIN.out]
          exact ⟨rfl, HF.out⟩
        | some z =>
          rw [e2] at hsx
          have hal2 : (l.take (p + 1)).all (fun a => (sudogA s.A a).isSome) = true := by rw [htk, List.all_append, hal]; simp [e2]
          have HSX := Lib.hid hsx; have HAL := Lib.hid hal2
          clear hh hal hsx hx htk e2 hal2
          go_wp2_with fail
          refine HSX.out.mono ?_
          rintro e w2 ⟨rfl, h1⟩
          have HF := Lib.hid h1; clear h1
          go_wp2
          go_roundw
          case rel => exact ⟨p + 1, by omega, by go_num, HF.out, HAL.out⟩
          case measure => simp [intOf]; omega
      · obtain rfl : p = l.length := by omega
        rw [List.take_length] at hal
        have hfin : RR = putGorH (linkN s l) g ⟨y0, 1, y2, y3, y4, y5, y6, y7, y8, l.headD (-1)⟩ := by rw [← HRES.out, if_pos hal]
        have HH := Lib.hid hh; have HFIN := Lib.hid hfin
        have hwr : wrap64 ((l.length : Int) - 1) = (l.length : Int) - 1 := by unfold wrap64; omega
        clear hh hal hfin
        have hps := fun (s' : PH) (hi : s'.A.I64) (a m : Int) => putSudog_s (L := L) (s := s') a { (sudogR s'.A a).1 with more := m } (show I64 (sudogR s'.A a).1.value from sudogR_value hi a)
        have hsd := fun (s' : PH) (a : Int) => sudog_s (L := L) (s := s') a
        have HPS := Lib.hid hps; have HSD := Lib.hid hsd
        clear hps hsd HSUD
        go_wp2_with fail
        go_loopw [11, 12] (fun v11 v12 wr => ∃ p : Nat, p ≤ l.length ∧ v12 = iv ((p : Int) - 1) ∧ v11 = iv ((l.drop p).headD (-1)) ∧ HS L (linkN s (l.drop p)) w0 wr ((w1.heap.size, [iv y0, iv y1, iv y2, iv y3, iv y4, iv y5, iv y6, iv y7, iv y8, iv y9]) :: V)) (fun _ v12 _ => (intOf v12 + 1).toNat)
        case atStart => exact ⟨l.length, Nat.le_refl _, rfl, by rw [List.drop_length]; rfl, by rw [List.drop_length]; exact HH.out⟩
        case round =>
          obtain ⟨p, hp, rfl, rfl, hh⟩ := hrel
          clear HH
          cases p with
          | zero =>
            rw [List.drop_zero] at hh ⊢
            have kb := hh.blk (.head _)
            have k0 := kb.at 0 rfl; have k1 := kb.at 1 rfl; have k2 := kb.at 2 rfl; have k3 := kb.at 3 rfl; have k4 := kb.at 4 rfl; have k5 := kb.at 5 rfl; have k6 := kb.at 6 rfl; have k7 := kb.at 7 rfl; have k8 := kb.at 8 rfl; have k9 := kb.at 9 rfl
            have f1 := kb.free 1; have f9 := kb.free 9
            generalize l.headD (-1) = fst at hh HPUT HFIN ⊢
            have h2 : HS L (linkN s l) w0 ((wr.setCell ⟨w1.heap.size, 1, none⟩ (iv 1)).setCell ⟨w1.heap.size, 9, none⟩ (iv fst)) ((w1.heap.size, [iv y0, iv 1, iv y2, iv y3, iv y4, iv y5, iv y6, iv y7, iv y8, iv fst]) :: V) := (hh.set hs1 (fun p hp => Nat.ne_of_lt (hl1.out p hp)) 1 (iv 1)).set hs1 (fun p hp => Nat.ne_of_lt (hl1.out p hp)) 9 (iv fst)
            have S1 := Lib.hid (HPUT.out _ _ _ h2)
            clear hh h2 kb
            have t1 : decide (((0 : Nat) : Int) - 1 ≥ 0) = false := rfl
            go_wp2_with fail
            refine S1.out.mono ?_
            rintro e w2 ⟨rfl, h1⟩
            have HF := Lib.hid (h1.sub (V' := V) (fun p hp => .tail _ hp)); clear h1
            go_wp2
            go_ret
            rw [HFIN.out]
            exact ⟨rfl, HF.out⟩
          | succ p =>
            obtain ⟨x, hx⟩ : ∃ x, l[p]? = some x := ⟨_, List.getElem?_eq_getElem (by omega)⟩
            obtain ⟨b, rfl, c1⟩ := HX.out _ _ _ (fun p hp => .tail _ hp) hh p x hx
            have hdr : l.drop p = x :: l.drop (p + 1) := by
              obtain ⟨h1, h2⟩ := List.getElem?_eq_some_iff.1 hx
              rw [← h2]; exact List.drop_eq_getElem_cons h1
            have hlk : linkN s (l.drop p) = (putSudogH (linkN s (l.drop (p + 1))) x { (sudogR (linkN s (l.drop (p + 1))).A x).1 with more := (l.drop (p + 1)).headD (-1) }).1 := by rw [hdr]; rfl
            have hhd : (l.drop p).headD (-1) = x := by rw [hdr]; rfl
            have hss := HSD.out (linkN s (l.drop (p + 1))) x _ _ _ hh
            have hpp := HPS.out (linkN s (l.drop (p + 1))) hh.i64 x ((l.drop (p + 1)).headD (-1))
            rw [← hlk] at hpp
            generalize (l.drop (p + 1)).headD (-1) = fst at hpp ⊢
            generalize linkN s (l.drop (p + 1)) = s1 at hh hss hpp hlk
            have hcx : ∀ (s' : PH) (V' : List (Nat × List Value)) (w' : World), (∀ p ∈ V, p ∈ V') → HS L s' w0 w' V' → w'.cell? ⟨b, p, none⟩ = some (iv x) := fun s' V' w' hs hh => by
              obtain ⟨b', hb', hc'⟩ := HX.out V' s' w' hs hh p x hx
              cases hb'; exact hc'
            generalize sudogR s1.A x = SR at hss hpp
            obtain ⟨⟨z0, z1, z2, z3, z4, z5, z6⟩, ze⟩ := SR
            simp only at hss hpp
            have HSS := Lib.hid hss; have HPP := Lib.hid hpp; have HCX := Lib.hid hcx; have HHD := Lib.hid hhd
            have t1 : decide (((p + 1 : Nat) : Int) - 1 ≥ 0) = true := by simp
            have hlt : (p : Int) < l.length := by omega
            have e1 : ((p + 1 : Nat) : Int) - 1 = p := by omega
            have hwp : wrap64 ((p : Int) - 1) = (p : Int) - 1 := by unfold wrap64; omega
            rw [e1]
            clear hh hss hpp hlk hdr hx hcx hhd t1 e1
            go_wp2_with fail
            refine HSS.out.mono ?_
            rintro e w2 ⟨rfl, h1⟩
            have h2 := h1.new [iv z0, iv z1, iv z2, iv z3, iv z4, iv z5, iv fst] 36
            have cx := HCX.out _ _ _ (fun p hp => .tail _ hp) h1
            have hbl : b < w2.heap.size := World.block_lt_of_cell? w2 _ cx
            have S3 := Lib.hid (HPP.out _ _ _ h2.drew)
            clear h1 h2 c1 HSS
            go_wp2_with fail
            go_region_with (go_at_call 22; refine S3.out.mono ?_; rintro e w3 ⟨rfl, h1⟩; have c3 := HCX.out _ _ _ (fun p hp => .tail _ (.tail _ hp)) h1; have HF := Lib.hid (h1.sub (V' := (w1.heap.size, [iv y0, iv y1, iv y2, iv y3, iv y4, iv y5, iv y6, iv y7, iv y8, iv y9]) :: V) (fun p hp => .tail _ hp)); clear h1)
            all_goals
              clear cx S3 hbl
              go_wp2
              go_roundw
              case rel => exact ⟨p, by omega, by go_num, by rw [HHD.out], HF.out⟩
              case measure => simp [intOf]
end Go.Proofs.YtcnppdbgieaddaaGreat

namespace Go.Proofs.YtcnppdbgieaddaaGreat
set_option linter.unusedVariables false
set_option linter.unusedSimpArgs false
variable {A : AS} {s : PH}

def setA (A : AS) (a k : Int) (l : List Int) : AS := { A with obj := updO A.obj a.toNat (some (k, l)) }
theorem setA_same {a k : Int} {l : List Int} (e : objA A a = some (k, l)) : setA A a k l = A := by
  obtain ⟨h0, h1⟩ := objA_nonneg e
  unfold setA updO
  have : (fun b => if b = a.toNat then some (k, l) else A.obj b) = A.obj := by funext b; by_cases q : b = a.toNat <;> simp [q, h1]
  rw [this]
theorem setA_setA (A : AS) (a k : Int) (l l' : List Int) : setA (setA A a k l) a k l' = setA A a k l' := by
  unfold setA updO
  congr 1
  funext b
  by_cases q : b = a.toNat <;> simp [q]
theorem objA_setA (A : AS) {a : Int} (ha : 0 ≤ a) (k : Int) (l : List Int) (b : Int) : objA (setA A a k l) b = if b = a then some (k, l) else objA A b := by
  unfold objA setA updO
  by_cases hb : b < 0
  · rw [if_pos hb, if_neg (by omega), if_pos hb]
  · rw [if_neg hb, if_neg hb]
    simp only
    by_cases q : b = a
    · subst q; simp
    · rw [if_neg (by omega), if_neg q]
theorem layL_A : ∀ (os xs : List Int) (s : PH) (a k : Int) (pre : List Int), objA s.A a = some (k, pre ++ os) → os.length = xs.length → (layL s a pre.length os xs).A = setA s.A a k (pre ++ xs)
  | [], [], s, a, k, pre, e, h => by
    simp only [layL]
    exact (setA_same e).symm
  | [], x :: xs, s, a, k, pre, e, h => by simp at h
  | o :: os, [], s, a, k, pre, e, h => by simp at h
  | o :: os, x :: xs, s, a, k, pre, e, h => by
    have hl : (pre ++ [x]).length = pre.length + 1 := by simp
    simp only [layL]
    by_cases q : x = o
    · rw [if_pos q]
      subst q
      have := layL_A os xs s a k (pre ++ [x]) (by simpa using e) (by simpa using h)
      rw [hl] at this
      rw [this]; simp
    · rw [if_neg q]
      have e1 := storeS_of e (i := pre.length) (by simp) x
      have hA : (storeH s a pre.length x).1.A = setA s.A a k (pre ++ x :: os) := by
        rw [storeH_A, e1.2]
        simp [setA, List.set_append]
      have h0 := (objA_nonneg e).1
      have := layL_A os xs (storeH s a pre.length x).1 a k (pre ++ [x]) (by rw [hA, objA_setA _ h0, if_pos rfl]; simp) (by simpa using h)
      rw [hl] at this
      rw [this, hA, setA_setA]; simp
def putA (A : AS) (a k : Int) (l : List Int) : AS := match seenA A a k with | none => A | some _ => setA A a k l
def putE (A : AS) (a k : Int) : Int := match seenA A a k with | none => 10 | some _ => 0
theorem putH_A' (s : PH) (a k : Int) {l : List Int} (hl : l.length = fieldsN k) : (putH s a k l).1.A = putA s.A a k l := by
  unfold putH putA
  cases e : seenA s.A a k with
  | none => rfl
  | some ws =>
    obtain ⟨eo, el⟩ := seenA_some e
    exact layL_A ws l s a k [] (by simpa using eo) (by omega)
theorem putH_E' (s : PH) (a k : Int) (l : List Int) : (putH s a k l).2 = putE s.A a k := by
  unfold putH putE; cases seenA s.A a k <;> rfl
def putChanA (A : AS) (a : Int) (c : PChan) : AS := putA A a 1 (chanL c)
def putSudogA (A : AS) (a : Int) (c : PSudog) : AS := putA A a 3 (sudogL c)
def putGorA (A : AS) (a : Int) (c : PGor) : AS := putA A a 4 (gorL c)
theorem putChanH_A' (s : PH) (a : Int) (c : PChan) : (putChanH s a c).1.A = putChanA s.A a c := putH_A' s a 1 rfl
theorem putSudogH_A' (s : PH) (a : Int) (c : PSudog) : (putSudogH s a c).1.A = putSudogA s.A a c := putH_A' s a 3 rfl
theorem putGorH_A' (s : PH) (a : Int) (c : PGor) : (putGorH s a c).1.A = putGorA s.A a c := putH_A' s a 4 rfl
def followA (A : AS) (a next : Int) : AS := match sudogA A a with | some x => putSudogA A a { x with next := next } | none => A
theorem followH_A' (s : PH) (a n : Int) : (followH s a n).A = followA s.A a n := by
  unfold followH followA
  cases sudogA s.A a with
  | none => rfl
  | some x => exact putSudogH_A' _ _ _
def pushA (A : AS) (ch : Int) (send : Bool) (t : Int) : AS × Int :=
  match chanA A ch with
  | none => (A, 10)
  | some c => match sudogA A t with
    | none => (A, 10)
    | some _ => match (allA A ch send).getLast? with
      | some z => (putChanA (followA (followA A z t) t (-1)) ch (intoC c send ((endsC c send).1, t)), putE (followA (followA A z t) t (-1)) ch 1)
      | none => (putChanA (followA A t (-1)) ch (intoC c send (t, t)), putE (followA A t (-1)) ch 1)
theorem pushH_A' (s : PH) (ch : Int) (send : Bool) (t : Int) : (pushH s ch send t).1.A = (pushA s.A ch send t).1 ∧ (pushH s ch send t).2 = (pushA s.A ch send t).2 := by
  unfold pushH pushA
  cases chanA s.A ch with
  | none => exact ⟨rfl, rfl⟩
  | some c =>
    cases sudogA s.A t with
    | none => exact ⟨rfl, rfl⟩
    | some x =>
      cases (allA s.A ch send).getLast? with
      | none => exact ⟨by simp only [putChanH_A', followH_A'], by simp only [putChanH, putH_E', followH_A']⟩
      | some z => exact ⟨by simp only [putChanH_A', followH_A'], by simp only [putChanH, putH_E', followH_A']⟩
def popA (A : AS) (ch : Int) (send : Bool) : AS × Int × Bool :=
  match chanA A ch with
  | none => (A, 0, false)
  | some c => match sudogA A (endsC c send).1 with
    | none => (A, 0, false)
    | some x => (followA (putChanA A ch (intoC c send (x.next, if x.next = -1 then -1 else (endsC c send).2))) (endsC c send).1 (-1), (endsC c send).1, true)
theorem popH_A' (s : PH) (ch : Int) (send : Bool) : (popH s ch send).1.A = (popA s.A ch send).1 ∧ (popH s ch send).2 = (popA s.A ch send).2 := by
  unfold popH popA
  cases chanA s.A ch with
  | none => exact ⟨rfl, rfl⟩
  | some c =>
    cases e : sudogA s.A (endsC c send).1 with
    | none => simp only [e]; exact ⟨trivial, trivial⟩
    | some x => simp only [e, putChanH_A', followH_A']; exact ⟨trivial, trivial⟩
def removeA (A : AS) (ch : Int) (send : Bool) (t : Int) : AS × Bool :=
  match posN t (allA A ch send) 0 with
  | none => (A, false)
  | some 0 => (followA (putChanA A ch (intoC (chanR A ch).1 send ((sudogR A t).1.next, if (endsC (chanR A ch).1 send).2 = t then -1 else (endsC (chanR A ch).1 send).2))) t (-1), true)
  | some (k + 1) => (followA (putChanA (followA A (nthI (allA A ch send) k) (sudogR A t).1.next) ch (intoC (chanR A ch).1 send ((endsC (chanR A ch).1 send).1, if (endsC (chanR A ch).1 send).2 = t then nthI (allA A ch send) k else (endsC (chanR A ch).1 send).2))) t (-1), true)
theorem removeH_A' (s : PH) (ch : Int) (send : Bool) (t : Int) : (removeH s ch send t).1.A = (removeA s.A ch send t).1 ∧ (removeH s ch send t).2 = (removeA s.A ch send t).2 := by
  unfold removeH removeA
  rcases posN t (allA s.A ch send) 0 with _ | _ | k
  · exact ⟨rfl, rfl⟩
  · simp only [putChanH_A', followH_A']; exact ⟨trivial, trivial⟩
  · simp only [putChanH_A', followH_A']; exact ⟨trivial, trivial⟩
def leaveNA : Nat → AS → Int → List Int → AS
  | 0, A, _, _ => A
  | d + 1, A, a, seen => if a ∈ seen then A else match sudogA A a with
    | none => A
    | some x => leaveNA d (removeA (removeA A x.chan true a).1 x.chan false a).1 x.more (seen ++ [a])
def leaveA (A : AS) (a : Int) : AS := leaveNA (fuelA A) A a []
theorem leaveN_A' : ∀ (d : Nat) (s : PH) (a : Int) (seen : List Int), (leaveN d s a seen).A = leaveNA d s.A a seen
  | 0, s, a, seen => rfl
  | d + 1, s, a, seen => by
    simp only [leaveN, leaveNA]
    by_cases h : a ∈ seen
    · rw [if_pos h, if_pos h]
    · rw [if_neg h, if_neg h]
      cases sudogA s.A a with
      | none => rfl
      | some x =>
        simp only
        rw [leaveN_A' d, (removeH_A' _ _ _ _).1, (removeH_A' _ _ _ _).1]
theorem leaveH_A' (s : PH) (a : Int) : (leaveH s a).A = leaveA s.A a := leaveN_A' _ _ _ _
def wakeA (A : AS) (t v : Int) : AS × Int × Int :=
  match sudogA A t with
  | none => (A, 0, 10)
  | some x => match gorA A x.gor with
    | none => (A, 0, 10)
    | some g => (putGorA (leaveA A g.sudogs) x.gor (PGor.setReg { g with sudogs := -1, status := 0, pc := x.goto } x.reg v), x.gor, putE (leaveA A g.sudogs) x.gor 4)
theorem wakeH_A' (s : PH) (t v : Int) : (wakeH s t v).1.A = (wakeA s.A t v).1 ∧ (wakeH s t v).2 = (wakeA s.A t v).2 := by
  unfold wakeH wakeA
  cases sudogA s.A t with
  | none => exact ⟨rfl, rfl⟩
  | some x =>
    simp only
    cases e : gorA s.A x.gor with
    | none => simp only [e]; exact ⟨trivial, trivial⟩
    | some g => simp only [e, shadeH_A, putGorH_A', leaveH_A']; exact ⟨trivial, by simp only [putGorH, putH_E', leaveH_A']⟩
def linkA (A : AS) : List Int → AS
  | [] => A
  | a :: l => putSudogA (linkA A l) a { (sudogR (linkA A l) a).1 with more := l.headD (-1) }
theorem linkN_A' (s : PH) : ∀ l, (linkN s l).A = linkA s.A l
  | [] => rfl
  | a :: l => by simp only [linkN, linkA, putSudogH_A', linkN_A' s l]
def parkA (A : AS) (g : Int) (l : List Int) : AS × Int :=
  match gorA A g with
  | none => (A, 10)
  | some x => if l.all (fun a => (sudogA A a).isSome) then (putGorA (linkA A l) g { x with status := 1, sudogs := l.headD (-1) }, putE (linkA A l) g 4) else (A, 10)
theorem parkH_A' (s : PH) (g : Int) (l : List Int) : (parkH s g l).1.A = (parkA s.A g l).1 ∧ (parkH s g l).2 = (parkA s.A g l).2 := by
  unfold parkH parkA
  cases gorA s.A g with
  | none => exact ⟨rfl, rfl⟩
  | some x =>
    simp only
    by_cases h : (l.all fun a => (sudogA s.A a).isSome) = true
    · rw [if_pos h, if_pos h]
      exact ⟨by rw [putGorH_A', linkN_A'], by rw [putGorH, putH_E', linkN_A']⟩
    · rw [if_neg h, if_neg h]; exact ⟨rfl, rfl⟩
/-- What a heap has when a thing is made. -/
theorem allocH_A' (s : PH) (kind n : Int) : (allocH s kind n).2.A = (allocS s.A kind n).2 := by
  unfold allocH
  generalize allocS s.A kind n = x
  obtain ⟨⟨a, e⟩, A'⟩ := x
  simp only
  split <;> rfl

/-! ### While no cycle marks, nothing but objects turns -/
theorem shadeH_calm (h : s.phase ≠ 1) (a : Int) : shadeH s a = s := by unfold shadeH; rw [if_pos (.inl h)]
theorem storeH_calm (h : s.phase ≠ 1) (a i v : Int) : (storeH s a i v).1 = { s with A := (storeH s a i v).1.A } := by
  unfold storeH
  generalize storeS s.A a i v = x
  obtain ⟨A', e⟩ := x
  simp only
  split
  · split
    · rw [shadeH_calm (s := { s with A := A' }) h]
    · rfl
  · rfl
theorem layL_calm (a : Int) : ∀ (os xs : List Int) (s : PH) (i : Nat), s.phase ≠ 1 → layL s a i os xs = { s with A := (layL s a i os xs).A }
  | [], xs, s, i, h => by unfold layL; rfl
  | o :: os, [], s, i, h => by unfold layL; rfl
  | o :: os, x :: xs, s, i, h => by
    simp only [layL]
    by_cases q : x = o
    · rw [if_pos q]; exact layL_calm a os xs s (i + 1) h
    · rw [if_neg q]
      have e := storeH_calm h a i x
      have e2 := layL_calm a os xs (storeH s a i x).1 (i + 1) (by rw [e]; exact h)
      rw [e2]
      rw [show ({ (storeH s a i x).1 with A := (layL (storeH s a i x).1 a (i + 1) os xs).A } : PH) = { ({ s with A := (storeH s a i x).1.A } : PH) with A := (layL (storeH s a i x).1 a (i + 1) os xs).A } from by rw [← e]]
theorem putH_calm (h : s.phase ≠ 1) (a k : Int) {l : List Int} (hl : l.length = fieldsN k) : (putH s a k l).1 = { s with A := putA s.A a k l } := by
  rw [← putH_A' s a k hl]
  unfold putH
  cases seenA s.A a k with
  | none => rfl
  | some ws => exact layL_calm a ws l s 0 h
end Go.Proofs.YtcnppdbgieaddaaGreat

namespace Go.Proofs.YtcnppdbgieaddaaGreat
set_option linter.unusedVariables false
set_option linter.unusedSimpArgs false
variable {A B : AS}

def shpO (o : Option (Int × List Int)) : Option (Int × Nat) := o.map fun o => (o.1, o.2.length)
structure Shp (A B : AS) : Prop where
  n : B.n = A.n
  cls : B.cls = A.cls
  obj : ∀ a, shpO (B.obj a) = shpO (A.obj a)
theorem Shp.refl (A : AS) : Shp A A := ⟨rfl, rfl, fun _ => rfl⟩
theorem Shp.trans {C : AS} (h : Shp A B) (k : Shp B C) : Shp A C := ⟨k.n.trans h.n, k.cls.trans h.cls, fun a => (k.obj a).trans (h.obj a)⟩
theorem Shp.objA (h : Shp A B) (a : Int) : shpO (objA B a) = shpO (objA A a) := by
  unfold Go.Proofs.YtcnppdbgieaddaaGreat.objA; split
  · rfl
  · exact h.obj _
theorem seenA_shp (A : AS) (a k : Int) : (seenA A a k).isSome = (match shpO (objA A a) with | some (k', n) => decide (k' = k ∧ n = fieldsN k) | none => false) := by
  unfold seenA shpO
  cases objA A a with
  | none => rfl
  | some o =>
    obtain ⟨k', ws⟩ := o
    simp only [Option.map_some]
    by_cases h : k' = k ∧ ws.length = fieldsN k
    · rw [if_pos h]; simp [h]
    · rw [if_neg h]; simp [h]
theorem Shp.seen (h : Shp A B) (a k : Int) : (seenA B a k).isSome = (seenA A a k).isSome := by rw [seenA_shp, seenA_shp, h.objA]
theorem Shp.chan (h : Shp A B) (a : Int) : (chanA B a).isSome = (chanA A a).isSome := by simp only [chanA, Option.isSome_map, h.seen]
theorem Shp.sudog (h : Shp A B) (a : Int) : (sudogA B a).isSome = (sudogA A a).isSome := by simp only [sudogA, Option.isSome_map, h.seen]
theorem Shp.gor (h : Shp A B) (a : Int) : (gorA B a).isSome = (gorA A a).isSome := by simp only [gorA, Option.isSome_map, h.seen]
theorem putE_eq (A : AS) (a k : Int) : putE A a k = if (seenA A a k).isSome = true then 0 else 10 := by
  unfold putE; cases seenA A a k <;> rfl
theorem Shp.putE (h : Shp A B) (a k : Int) : putE B a k = putE A a k := by rw [putE_eq, putE_eq, h.seen]
theorem setA_shp {a k : Int} {ws l : List Int} (e : objA A a = some (k, ws)) (hl : l.length = ws.length) : Shp A (setA A a k l) := by
  obtain ⟨h0, h1⟩ := objA_nonneg e
  refine ⟨rfl, rfl, fun b => ?_⟩
  simp only [setA, updO]
  by_cases q : b = a.toNat
  · subst q; rw [if_pos rfl, h1]; simp [shpO, hl]
  · rw [if_neg q]
theorem putA_shp (a k : Int) {l : List Int} (hl : l.length = fieldsN k) : Shp A (putA A a k l) := by
  unfold putA
  cases e : seenA A a k with
  | none => exact Shp.refl _
  | some ws => obtain ⟨eo, el⟩ := seenA_some e; exact setA_shp eo (by omega)
theorem putChanA_shp (A : AS) (a : Int) (c : PChan) : Shp A (putChanA A a c) := putA_shp a 1 rfl
theorem putSudogA_shp (A : AS) (a : Int) (c : PSudog) : Shp A (putSudogA A a c) := putA_shp a 3 rfl
theorem putGorA_shp (A : AS) (a : Int) (c : PGor) : Shp A (putGorA A a c) := putA_shp a 4 rfl
theorem followA_shp (A : AS) (a n : Int) : Shp A (followA A a n) := by
  unfold followA; split
  · exact putSudogA_shp _ _ _
  · exact Shp.refl _
theorem pushA_shp (A : AS) (ch : Int) (send : Bool) (t : Int) : Shp A (pushA A ch send t).1 := by
  unfold pushA
  repeat' split
  all_goals first | exact Shp.refl _ | exact ((followA_shp _ _ _).trans (followA_shp _ _ _)).trans (putChanA_shp _ _ _) | exact (followA_shp _ _ _).trans (putChanA_shp _ _ _)
theorem popA_shp (A : AS) (ch : Int) (send : Bool) : Shp A (popA A ch send).1 := by
  unfold popA
  repeat' split
  all_goals first | exact Shp.refl _ | exact (putChanA_shp _ _ _).trans (followA_shp _ _ _)
theorem removeA_shp (A : AS) (ch : Int) (send : Bool) (t : Int) : Shp A (removeA A ch send t).1 := by
  unfold removeA
  split
  · exact Shp.refl _
  · exact (putChanA_shp _ _ _).trans (followA_shp _ _ _)
  · exact ((followA_shp _ _ _).trans (putChanA_shp _ _ _)).trans (followA_shp _ _ _)
theorem leaveNA_shp : ∀ (d : Nat) (A : AS) (a : Int) (seen : List Int), Shp A (leaveNA d A a seen)
  | 0, A, a, seen => Shp.refl _
  | d + 1, A, a, seen => by
    simp only [leaveNA]
    repeat' split
    · exact Shp.refl _
    · exact Shp.refl _
    · exact ((removeA_shp _ _ _ _).trans (removeA_shp _ _ _ _)).trans (leaveNA_shp d _ _ _)
theorem leaveA_shp (A : AS) (a : Int) : Shp A (leaveA A a) := leaveNA_shp _ _ _ _
theorem wakeA_shp (A : AS) (t v : Int) : Shp A (wakeA A t v).1 := by
  unfold wakeA
  repeat' split
  all_goals first | exact Shp.refl _ | exact (leaveA_shp _ _).trans (putGorA_shp _ _ _)
theorem linkA_shp (A : AS) : ∀ l, Shp A (linkA A l)
  | [] => Shp.refl _
  | a :: l => (linkA_shp A l).trans (putSudogA_shp _ _ _)
theorem parkA_shp (A : AS) (g : Int) (l : List Int) : Shp A (parkA A g l).1 := by
  unfold parkA
  repeat' split
  all_goals first | exact Shp.refl _ | exact (linkA_shp _ _).trans (putGorA_shp _ _ _)
/-- Who is woken goes well. -/
theorem wakeA_ok {A : AS} {t v : Int} {x : PSudog} {g : PGor} (e : sudogA A t = some x) (e2 : gorA A x.gor = some g) : (wakeA A t v).2 = (x.gor, 0) := by
  unfold wakeA
  rw [e]
  simp only
  rw [e2]
  simp only
  rw [(leaveA_shp A g.sudogs).putE]
  have : (gorA A x.gor).isSome = true := by rw [e2]; rfl
  simp only [gorA, Option.isSome_map] at this
  rw [putE_eq, this]; rfl
end Go.Proofs.YtcnppdbgieaddaaGreat

namespace Go.Proofs.YtcnppdbgieaddaaGreat
open Go.RowKit
set_option linter.unusedVariables false
set_option linter.unusedSimpArgs false
variable {s s' s'' : PH}

/-- From s to s' the phase stands; and while it is not Mark, all but objects. -/
structure Calm (s s' : PH) : Prop where
  phase : s'.phase = s.phase
  span : s'.span = s.span
  cycles : s'.cycles = s.cycles
  m : s.phase ≠ 1 → s'.m = s.m
  l : s.phase ≠ 1 → s'.l = s.l
  over : s.phase ≠ 1 → s'.over = s.over
theorem Calm.refl (s : PH) : Calm s s := ⟨rfl, rfl, rfl, fun _ => rfl, fun _ => rfl, fun _ => rfl⟩
theorem Calm.trans (h : Calm s s') (k : Calm s' s'') : Calm s s'' :=
  ⟨k.phase.trans h.phase, k.span.trans h.span, k.cycles.trans h.cycles, fun p => (k.m (h.phase ▸ p)).trans (h.m p), fun p => (k.l (h.phase ▸ p)).trans (h.l p), fun p => (k.over (h.phase ▸ p)).trans (h.over p)⟩
theorem shadeH_c (s : PH) (a : Int) : Calm s (shadeH s a) := by
  unfold shadeH
  split
  · exact Calm.refl _
  · rename_i h
    have hp : s.phase = 1 := by
      by_cases q : s.phase = 1
      · exact q
      · exact absurd (.inl q) h
    exact ⟨rfl, rfl, rfl, fun q => absurd hp q, fun q => absurd hp q, fun q => absurd hp q⟩
theorem storeH_c (s : PH) (a i v : Int) : Calm s (storeH s a i v).1 := by
  unfold storeH
  generalize storeS s.A a i v = x
  obtain ⟨A', e⟩ := x
  simp only
  have h0 : Calm s { s with A := A' } := ⟨rfl, rfl, rfl, fun _ => rfl, fun _ => rfl, fun _ => rfl⟩
  split
  · split
    · exact h0.trans (shadeH_c _ _)
    · exact h0
  · exact h0
theorem layL_c (a : Int) : ∀ (os xs : List Int) (s : PH) (i : Nat), Calm s (layL s a i os xs)
  | [], xs, s, i => by unfold layL; exact Calm.refl _
  | o :: os, [], s, i => by unfold layL; exact Calm.refl _
  | o :: os, x :: xs, s, i => by
    simp only [layL]
    split
    · exact layL_c a os xs s (i + 1)
    · exact (storeH_c s a i x).trans (layL_c a os xs _ (i + 1))
theorem putH_c (s : PH) (a k : Int) (l : List Int) : Calm s (putH s a k l).1 := by
  unfold putH; split
  · exact Calm.refl _
  · exact layL_c _ _ _ _ _
theorem putChanH_cc (s : PH) (a : Int) (c : PChan) : Calm s (putChanH s a c).1 := putH_c _ _ _ _
theorem putSudogH_cc (s : PH) (a : Int) (c : PSudog) : Calm s (putSudogH s a c).1 := putH_c _ _ _ _
theorem putGorH_cc (s : PH) (a : Int) (c : PGor) : Calm s (putGorH s a c).1 := putH_c _ _ _ _
theorem followH_cc (s : PH) (a n : Int) : Calm s (followH s a n) := by
  unfold followH; split
  · exact putSudogH_cc _ _ _
  · exact Calm.refl _
theorem pushH_cc (s : PH) (ch : Int) (send : Bool) (t : Int) : Calm s (pushH s ch send t).1 := by
  unfold pushH
  cases chanA s.A ch with
  | none => exact Calm.refl _
  | some c =>
    cases sudogA s.A t with
    | none => exact Calm.refl _
    | some x =>
      cases (allA s.A ch send).getLast? with
      | none => exact (followH_cc _ _ _).trans (putChanH_cc _ _ _)
      | some z => exact ((followH_cc _ _ _).trans (followH_cc _ _ _)).trans (putChanH_cc _ _ _)
theorem popH_cc (s : PH) (ch : Int) (send : Bool) : Calm s (popH s ch send).1 := by
  unfold popH
  cases chanA s.A ch with
  | none => exact Calm.refl _
  | some c =>
    simp only
    cases sudogA s.A (endsC c send).1 with
    | none => exact Calm.refl _
    | some x => exact (putChanH_cc _ _ _).trans (followH_cc _ _ _)
theorem removeH_cc (s : PH) (ch : Int) (send : Bool) (t : Int) : Calm s (removeH s ch send t).1 := by
  unfold removeH
  split
  · exact Calm.refl _
  · exact (putChanH_cc _ _ _).trans (followH_cc _ _ _)
  · exact ((followH_cc _ _ _).trans (putChanH_cc _ _ _)).trans (followH_cc _ _ _)
theorem leaveN_cc : ∀ (d : Nat) (s : PH) (a : Int) (seen : List Int), Calm s (leaveN d s a seen)
  | 0, s, a, seen => Calm.refl _
  | d + 1, s, a, seen => by
    simp only [leaveN]
    repeat' split
    · exact Calm.refl _
    · exact Calm.refl _
    · exact ((removeH_cc _ _ _ _).trans (removeH_cc _ _ _ _)).trans (leaveN_cc d _ _ _)
theorem leaveH_cc (s : PH) (a : Int) : Calm s (leaveH s a) := leaveN_cc (fuelA s.A) s a []
theorem wakeH_cc (s : PH) (t v : Int) : Calm s (wakeH s t v).1 := by
  unfold wakeH
  cases sudogA s.A t with
  | none => exact Calm.refl _
  | some x =>
    simp only
    cases gorA s.A x.gor with
    | none => exact Calm.refl _
    | some g => exact ((leaveH_cc _ _).trans (putGorH_cc _ _ _)).trans (shadeH_c _ _)
theorem linkN_cc (s : PH) : ∀ l, Calm s (linkN s l)
  | [] => Calm.refl _
  | a :: l => (linkN_cc s l).trans (putSudogH_cc _ _ _)
theorem parkH_cc (s : PH) (g : Int) (l : List Int) : Calm s (parkH s g l).1 := by
  unfold parkH
  repeat' split
  all_goals first | exact Calm.refl _ | exact (linkN_cc _ _).trans (putGorH_cc _ _ _)
/-- Who is shaded while it is Mark is not white then. -/
theorem shadeH_dark {s : PH} (hp : s.phase = 1) {a : Int} (hk : kindA s.A a ≠ 0) : colourH (shadeH s a) a ≠ 0 := by
  unfold shadeH
  by_cases h : colourH s a = 0
  · rw [if_neg (by rintro (q | q | q); exact q hp; exact hk q; exact q h)]
    unfold colourH updM
    simp only [if_neg hk, if_true]; omega
  · rw [if_pos (.inr (.inr h))]; exact h
theorem wakeH_dark {s : PH} (hp : s.phase = 1) {t v : Int} {x : PSudog} {g : PGor} (e : sudogA s.A t = some x) (e2 : gorA s.A x.gor = some g) (hk : kindA (wakeA s.A t v).1 x.gor ≠ 0) : colourH (wakeH s t v).1 x.gor ≠ 0 := by
  have hA := (wakeH_A' s t v).1
  have : (wakeH s t v).1 = shadeH (putGorH (leaveH s g.sudogs) x.gor (PGor.setReg { g with sudogs := -1, status := 0, pc := x.goto } x.reg v)).1 x.gor := by
    unfold wakeH; rw [e]; simp only; rw [e2]
  rw [this] at hA ⊢
  rw [shadeH_A] at hA
  refine shadeH_dark ?_ ?_
  · rw [(putGorH_cc _ _ _).phase, (leaveH_cc _ _).phase, hp]
  · rw [hA]; exact hk
/-- A number of a word goes back and forth. -/
def rt (x : Int) : Int := numW (intW x)
theorem rt_of {x : Int} (h : -4611686018427387904 ≤ x ∧ x ≤ 4611686018427387903) : rt x = x := by
  unfold rt intW numW wrap64
  have e : (2 * x + 9223372036854775808) % 18446744073709551616 - 9223372036854775808 = 2 * x := by omega
  first
    | (rw [if_neg (by omega)]; omega)
    | (simp only; rw [if_neg (by omega)]; omega)
end Go.Proofs.YtcnppdbgieaddaaGreat
