/- The document's side: how many words a thing has; its words, seen; words laid. -/
import Derived.Test.YtcnppdbgieaddaaGreatQ3
import Derived.Test.YtcnppdbgieaddaaGreatK7
namespace Go.Proofs.YtcnppdbgieaddaaGreat
open Go.RowKit
set_option linter.unusedVariables false
set_option linter.unusedSimpArgs false
variable {w w' : World} {R : RLay} {s : PH}

theorem rfields_c (k : Int) (w : World) : Calls Tryz.prog 232 #[iv k] w (FieldsPost (fieldsN k) w) := by
  by_cases h1 : k = 1
  · subst h1
    go_enter Tryz.func232, Tryz.ntmps232
    go_wp2
    go_ret
    exact ⟨_, _, rfl, (Below.refl _ _).alloc (Nat.le_refl _) _⟩
  by_cases h3 : k = 3
  · subst h3
    go_enter Tryz.func232, Tryz.ntmps232
    go_wp2
    go_ret
    exact ⟨_, _, rfl, (Below.refl _ _).alloc (Nat.le_refl _) _⟩
  by_cases h4 : k = 4
  · subst h4
    go_enter Tryz.func232, Tryz.ntmps232
    go_wp2
    go_ret
    exact ⟨_, _, rfl, (Below.refl _ _).alloc (Nat.le_refl _) _⟩
  by_cases h5 : k = 5
  · subst h5
    go_enter Tryz.func232, Tryz.ntmps232
    go_wp2
    go_ret
    exact ⟨_, _, rfl, (Below.refl _ _).alloc (Nat.le_refl _) _⟩
  by_cases h6 : k = 6
  · subst h6
    go_enter Tryz.func232, Tryz.ntmps232
    go_wp2
    go_ret
    exact ⟨_, _, rfl, (Below.refl _ _).alloc (Nat.le_refl _) _⟩
  have hr : Hid (fieldsN k = 0) := by unfold Hid fieldsN; simp [h1, h3, h4, h5, h6]
  have t1 : (k == 1) = false := by simpa using h1
  have t3 : (k == 3) = false := by simpa using h3
  have t4 : (k == 4) = false := by simpa using h4
  have t5 : (k == 5) = false := by simpa using h5
  have t6 : (k == 6) = false := by simpa using h6
  rw [hr.out]
  clear h1 h3 h4 h5 h6
  go_enter Tryz.func232, Tryz.ntmps232
  go_wp2
  go_ret
  exact ⟨none, 0, rfl, Below.refl _ _⟩
theorem rneed_c (k n : Int) (w : World) : Calls Tryz.prog 166 #[iv k, iv n] w fun e w' => e = .returned (.tuple #[iv (needA k n).1, .bool (needA k n).2]) ∧ Below w.heap.size w w' := by
  by_cases h2 : k = 2
  · subst h2
    by_cases g1 : n < 0
    · have hr : Hid (needA 2 n = (0, false)) := by simp [Hid, needA, g1]
      have t1 : decide (n < 0) = true := by simpa using g1
      go_enter Tryz.func166, Tryz.ntmps166
      go_wp2
      go_ret2
      exact ⟨ret_eq (by rw [hr.out]; rfl), Below.refl _ _⟩
    by_cases g2 : 3 < n
    · have hr : Hid (needA 2 n = (0, false)) := by simp [Hid, needA, g1, g2]
      have t1 : decide (n < 0) = false := by simpa using g1
      have t2 : decide (n > 3) = true := by simpa using g2
      go_enter Tryz.func166, Tryz.ntmps166
      go_wp2
      go_ret2
      exact ⟨ret_eq (by rw [hr.out]; rfl), Below.refl _ _⟩
    · have hr : Hid (needA 2 n = (n, true)) := by simp [Hid, needA, g1, g2]
      have t1 : decide (n < 0) = false := by simpa using g1
      have t2 : decide (n > 3) = false := by simpa using g2
      go_enter Tryz.func166, Tryz.ntmps166
      go_wp2
      go_ret2
      exact ⟨ret_eq (by rw [hr.out]; rfl), Below.refl _ _⟩
  · have hf := rfields_c k w
    have hr : Hid (needA k n = ((fieldsN k : Int), decide (0 < fieldsN k))) := by simp [Hid, needA, h2]
    have t1 : (k == 2) = false := by simpa using h2
    have hle := fieldsN_le k
    generalize fieldsN k = m at hf hr hle
    have HF := Lib.hid hf
    clear hf h2
    unfold FieldsPost at HF
    go_enter Tryz.func166, Tryz.ntmps166
    go_wp2_with fail
    refine HF.out.mono ?_
    rintro e w1 ⟨o, c, rfl, b1⟩
    go_wp2
    go_ret2
    exact ⟨ret_eq (by rw [hr.out]; rfl), b1⟩

theorem rnumber_c (x : Int) (hx : I64 x) (w : World) : Calls Tryz.prog 138 #[iv x] w fun e w' => e = .returned (iv (numW x)) ∧ w = w' := by
  have h := Lib.hid (rnum_c x hx)
  clear hx
  go_enter Tryz.func138, Tryz.ntmps138
  go_wp2_with (go_at_call 213; refine (h.out _).mono ?_; rintro e w1 ⟨rfl, rfl⟩)
  go_ret
  exact ⟨rfl, rfl⟩
theorem rplace_c (x : Int) (hx : I64 x) (w : World) : Calls Tryz.prog 139 #[iv x] w fun e w' => e = .returned (iv (atW x)) ∧ w = w' := by
  have h := Lib.hid (rat_c x hx)
  clear hx
  go_enter Tryz.func139, Tryz.ntmps139
  go_wp2_with (go_at_call 159; refine (h.out _).mono ?_; rintro e w1 ⟨rfl, rfl⟩)
  go_ret
  exact ⟨rfl, rfl⟩
theorem rptr11_c (a : Int) (w : World) : Calls Tryz.prog 198 #[iv a] w fun e w' => e = .returned (iv (ptrOr a)) ∧ w = w' := by
  have h1 := Lib.hid (rint_c 0)
  have h2 := Lib.hid (rptr_c a)
  by_cases g : a < 0
  · have hr : Hid (ptrOr a = intW 0) := by simp [Hid, ptrOr, g]
    go_enter Tryz.func198, Tryz.ntmps198
    go_wp2_with (go_at_call 197; refine (h1.out _).mono ?_; rintro e w1 ⟨rfl, rfl⟩)
    go_ret
    exact ⟨ret_eq (by rw [hr.out]; rfl), rfl⟩
  · have hr : Hid (ptrOr a = ptrW a) := by simp [Hid, ptrOr, g]
    go_enter Tryz.func198, Tryz.ntmps198
    go_wp2_with (go_at_call 71; refine (h2.out _).mono ?_; rintro e w1 ⟨rfl, rfl⟩)
    go_ret
    exact ⟨ret_eq (by rw [hr.out]; rfl), rfl⟩

set_option maxRecDepth 100000 in
theorem rwds_c (w : World) (h : RefAt w R s) (a kind : Int) (hk : 1 ≤ kind) (hk2 : kind ≠ 2) : Calls Tryz.prog 137 #[rptr R, iv a, iv kind] w (SeenPost (seenA s.A a kind) w) := by
  have hn := rneed_c kind 0 w
  have hna : needA kind 0 = ((fieldsN kind : Int), decide (0 < fieldsN kind)) := by simp [needA, hk2]
  rw [hna] at hn
  have HN := Lib.hid hn; clear hn hna
  obtain ⟨f, ha⟩ := h.arena
  have hc0 := Lib.hid (fun w1 (hb : Below w.heap.size w w1) => (h.below hb).c0)
  have hkd := fun w1 (hb : Below w.heap.size w w1) => rkind_c w1 (ha.below hb) a
  have hln := fun w1 (hb : Below w.heap.size w w1) => rlen_c w1 (ha.below hb) a
  have hfl := fieldsN_le kind
  cases e : seenA s.A a kind with
  | none =>
    have hend : ∀ w1, Below w.heap.size w w1 → SeenPost none w (.returned (.tuple #[.slice none 0 0, iv 10])) w1 := fun w1 hb => ⟨hb, rfl⟩
    have HE := Lib.hid hend; clear hend
    rcases seenA_none e hk with e1 | ⟨e1, e2⟩
    · have t1 : (kindA s.A a != kind) = true := by simpa using e1
      generalize kindA s.A a = kd at hkd t1
      have HKD := Lib.hid hkd
      clear hkd hln e e1 h ha
      go_enter Tryz.func137, Tryz.ntmps137
      go_wp2_with fail
      refine HN.out.mono ?_
      rintro e w1 ⟨rfl, b1⟩
      have k0 := hc0.out w1 b1
      go_wp2_with fail
      refine (HKD.out w1 b1).mono ?_
      rintro e w2 ⟨rfl, b2⟩
      go_wp2
      go_ret2
      exact HE.out _ (b1.trans (b2.mono b1.size))
    · have t1 : (kindA s.A a != kind) = false := by simpa using e1
      have t2 : (lenA s.A a != (fieldsN kind : Int)) = true := by simpa using e2
      generalize kindA s.A a = kd at hkd t1
      generalize lenA s.A a = ln at hln t2
      generalize fieldsN kind = fn at HN t2 hfl
      have HKD := Lib.hid hkd; have HLN := Lib.hid hln
      clear hkd hln e e1 e2 h ha
      go_enter Tryz.func137, Tryz.ntmps137
      go_wp2_with fail
      refine HN.out.mono ?_
      rintro e w1 ⟨rfl, b1⟩
      have k0 := hc0.out w1 b1
      go_wp2_with fail
      refine (HKD.out w1 b1).mono ?_
      rintro e w2 ⟨rfl, b2⟩
      have b12 := b1.trans (b2.mono b1.size)
      have k2 := hc0.out w2 b12
      go_wp2_with fail
      refine (HLN.out w2 b12).mono ?_
      rintro e w3 ⟨rfl, b3⟩
      go_wp2
      go_ret2
      exact HE.out _ (b12.trans (b3.mono b12.size))
  | some ws =>
    obtain ⟨eo, el⟩ := seenA_some e
    have e1 : kindA s.A a = kind := by unfold kindA; rw [eo]
    have e2 : lenA s.A a = (ws.length : Int) := by unfold lenA; rw [eo]
    simp only [e1] at hkd
    simp only [e2] at hln
    have hld2 : ∀ (w1 : World) (hb : Below w.heap.size w w1) (i : Nat) (hi : i < ws.length), Calls Tryz.prog 145 #[raptr R, iv a, iv i] w1 fun e w' => e = .returned (.tuple #[iv ws[i], iv 0]) ∧ Below w1.heap.size w1 w' := by
      intro w1 hb i hi
      have := rload_c w1 (ha.below hb) a i
      rw [loadS_of eo hi] at this
      exact this
    have HLD := Lib.hid hld2; clear hld2
    rw [← el] at HN hfl
    have HKD := Lib.hid hkd; have HLN := Lib.hid hln
    clear hkd hln e eo el e1 e2 h ha
    go_enter Tryz.func137, Tryz.ntmps137
    go_wp2_with fail
    refine HN.out.mono ?_
    rintro e w1 ⟨rfl, b1⟩
    have k0 := hc0.out w1 b1
    go_wp2_with fail
    refine (HKD.out w1 b1).mono ?_
    rintro e w2 ⟨rfl, b2⟩
    have b12 := b1.trans (b2.mono b1.size)
    have k2 := hc0.out w2 b12
    go_wp2_with fail
    refine (HLN.out w2 b12).mono ?_
    rintro e w3 ⟨rfl, b3⟩
    have b13 := b12.trans (b3.mono b12.size)
    clear b1 b2 b12 b3 k0 k2
    go_wp2_with fail
    go_loopw [10, 11] (fun v10 v34 wr => ∃ p, p ≤ ws.length ∧ v34 = iv p ∧ Below w.heap.size w wr ∧ wr.ownsRow w.heap.size 3 1 v10 p (intsV (ws.take p))) (fun _ v34 _ => ws.length - (intOf v34).toNat)
    case atStart => exact ⟨0, Nat.zero_le _, rfl, b13, World.ownsRow_nil _ _ _ _⟩
    case round =>
      obtain ⟨p, hp, rfl, hb, hown⟩ := hrel
      clear b13
      obtain ⟨o3, c3, hv3⟩ := own_form hown
      subst hv3
      by_cases hlt : p < ws.length
      · have hl := HLD.out wr hb p hlt
        have k0 := hc0.out wr hb
        have htk : ws.take (p + 1) = ws.take p ++ [ws[p]] := List.take_succ_eq_append_getElem hlt
        have HT := Lib.hid htk; clear htk
        generalize ws[p] = x at hl HT
        have HL := Lib.hid hl; have HB := Lib.hid hb; have HO := Lib.hid hown
        have hsz := hb.size
        clear hl hb hown
        go_wp2_with fail
        refine HL.out.mono ?_
        rintro e w4 ⟨rfl, b4⟩
        have g1 := HB.out.trans (b4.mono hsz)
        have g2 := ownsRow_keep HO.out (w' := w4) (fun b hb => b4.block b ((HO.out.lt b hb).2))
        have hsz4 := g1.size
        have G1 := Lib.hid g1; have G2 := Lib.hid g2
        clear b4 g1 g2 k0
        go_wp2_with (at_builtin; refine wpList_append2 rfl _ _ 25 rfl w.heap.size 3 (.int .i64 0) 1 8 Tryz.underlying25 intInfo rfl (by decide) _ _ _ rfl (G2.out.alloc _) ⟨w4.heap.size, 0, none⟩ 1 1 [iv x] rfl rfl (cell_one_new _ _ _) ?c2 ?c3 ?c4 ?c5 ?next)
        case c2 => intro u hu; simp at hu; subst hu; rfl
        case c3 => unfold maxLen; omega
        case c4 => omega
        case c5 => simp; omega
        case next =>
          intro v' w5 hown5 hg halt
          have g3 : Below w.heap.size w w5 := (G1.out.alloc (by omega) _).grown hg (by simp; omega) (fun k hk => (G2.out.lt k hk).1)
          have g4 : w5.ownsRow w.heap.size 3 1 v' (p + 1) (intsV (ws.take (p + 1))) := by rw [HT.out]; simpa [intsV] using hown5
          have G3 := Lib.hid g3; have G4 := Lib.hid g4
          clear g3 g4 hown5 hg halt
          go_wp2
          go_roundw
          case rel => exact ⟨p + 1, by omega, by go_num, G3.out, G4.out⟩
          case measure => simp [intOf]; omega
      · obtain rfl : p = ws.length := by omega
        rw [List.take_length] at hown
        have HB := Lib.hid hb; have HO := Lib.hid hown
        clear hb hown
        go_wp2
        go_ret2
        exact ⟨HB.out, _, rfl, HO.out⟩

set_option maxRecDepth 100000 in
theorem rput_c (w : World) (h : RefAt w R s) (a kind : Int) (hk : 1 ≤ kind) (hk2 : kind ≠ 2) {v : Value} {l : List Int} (hv : IntsAt w v l) (hl : l.length = fieldsN kind) (hd : ∀ b, v.ownBlock = some b → b ∉ R.own) (h64 : ∀ x ∈ l, I64 x) :
    Calls Tryz.prog 196 #[rptr R, iv a, iv kind, v] w (RPost R (putH s a kind l).1 (iv (putH s a kind l).2) w) := by
  have hs := rwds_c w h a kind hk hk2
  unfold putH
  cases e : seenA s.A a kind with
  | none =>
    rw [e] at hs
    have hend := fun w1 (hb : Below w.heap.size w w1) => RPost.same h (iv 10) hb
    have HE := Lib.hid hend; have HS := Lib.hid hs
    obtain ⟨ov, cv, hvf⟩ := hv.form
    subst hvf
    clear hend hs e h hv hd h64
    go_enter Tryz.func196, Tryz.ntmps196
    go_wp2_with (go_at_call 137; refine HS.out.mono ?_; rintro e w1 ⟨b1, rfl⟩)
    have B1 := Lib.hid b1; clear b1
    go_loopw [10, 11] (fun v10 v11 wr => v10 = iv 10 ∧ v11 = iv 0 ∧ wr = w1) (fun _ _ _ => 0)
    case atStart => exact ⟨rfl, rfl, rfl⟩
    case round =>
      obtain ⟨rfl, rfl, rfl⟩ := hrel
      go_wp2
      go_ret
      exact HE.out _ B1.out
  | some old =>
    rw [e] at hs
    obtain ⟨eo, el⟩ := seenA_some e
    have hfl := fieldsN_le kind
    rw [← el] at hl hfl
    simp only
    have HS := Lib.hid hs; have H := Lib.hid h; have HV := Lib.hid hv; have HD := Lib.hid hd; have H64 := Lib.hid h64; have EO := Lib.hid eo
    have hlt := h.lt
    have HLT := Lib.hid hlt
    clear hs h hv hd h64 eo el e hlt
    have hvf := HV.out.form
    obtain ⟨ov, cv, hvf⟩ := hvf
    subst hvf
    go_enter Tryz.func196, Tryz.ntmps196
    go_wp2_with fail
    refine HS.out.mono ?_
    rintro e w1 ⟨b1, vo, rfl, ho⟩
    have hin := IntsAt.ofOwn ho
    have hob := ho.lt
    obtain ⟨o3, c3, hv3⟩ := own_form ho
    subst hv3
    have HI := Lib.hid hin; have HOB := Lib.hid hob; have B1 := Lib.hid b1
    have hsz1 := b1.size
    clear ho hin hob b1 HS
    go_wp2_with fail
    go_loopw [10, 11] (fun v10 v11 wr => ∃ p, p ≤ l.length ∧ v10 = iv 0 ∧ v11 = iv p ∧ ∃ R', RefAt wr R' (layL s a 0 (old.take p) (l.take p)) ∧ R'.hb = R.hb ∧ R'.ab = R.ab ∧ Stp R.own R'.own w1 wr ∧ ∃ us, objA (layL s a 0 (old.take p) (l.take p)).A a = some (kind, us) ∧ us.length = old.length) (fun _ v11 _ => l.length - (intOf v11).toNat)
    case atStart => exact ⟨0, Nat.zero_le _, rfl, rfl, R, by simpa [layL] using H.out.below B1.out, rfl, rfl, Stp.refl _ _, old, by simpa [layL] using EO.out, rfl⟩
    case round =>
      obtain ⟨p, hp, rfl, rfl, R', hR, q1, q2, st, us, hus, hul⟩ := hrel
      have hq1 : rptr R' = rptr R := by unfold rptr; rw [q1]
      by_cases hlt : p < l.length
      · obtain ⟨b, off, cap', hvb, hbl, hc⟩ := HV.out.cell hlt
        obtain ⟨b2, off2, cap2, hvb2, hbl2, hc2⟩ := HI.out.cell (p := p) (by omega)
        cases hvb; cases hvb2
        have k1 : wr.cell? ⟨b, off + p, none⟩ = some (iv l[p]) := by
          rw [World.cell?_of_block (st.block b (by omega) (HD.out b rfl)), World.cell?_of_block (B1.out.block b hbl)]; exact hc
        have k2 : wr.cell? ⟨b2, off2 + p, none⟩ = some (iv (old[p]'(by omega))) := by
          have := HOB.out b2 rfl
          rw [World.cell?_of_block (st.block b2 hbl2 (fun hm => by have := HLT.out b2 hm; omega))]; exact hc2
        have hstep : layL s a 0 (old.take (p + 1)) (l.take (p + 1)) = if l[p] = old[p]'(by omega) then layL s a 0 (old.take p) (l.take p) else (storeH (layL s a 0 (old.take p) (l.take p)) a p l[p]).1 := by
          rw [List.take_succ_eq_append_getElem hlt, List.take_succ_eq_append_getElem (by omega : p < old.length), layL_snoc _ _ _ _ _ _ _ (by simp; omega)]
          simp only [List.length_take, Nat.zero_add, Nat.min_eq_left (by omega : p ≤ old.length)]
        have hx64 := H64.out l[p] (List.getElem_mem hlt)
        generalize l[p] = x at k1 hstep hx64
        generalize (old[p]'(by omega) : Int) = y at k2 hstep
        have Q1 := Lib.hid q1; have Q2 := Lib.hid q2; have ST := Lib.hid st; have HUS := Lib.hid hus
        have hpo : p < old.length := by omega
        have hpl : (p : Int) < l.length := by omega
        have hpo' : (p : Int) < old.length := by omega
        by_cases e : x = y
        · rw [if_pos e] at hstep
          have t1 : (y != x) = false := by simp [e]
          have HRR := Lib.hid hR; have HST := Lib.hid hstep
          clear hR hstep q1 q2 st hus hq1 hx64 hc hc2 e
          go_wp2_with fail
          go_quiet (fail)
          go_wp2
          go_roundw
          case rel => exact ⟨p + 1, by omega, rfl, by go_num, R', by rw [HST.out]; exact HRR.out.below (below_drewN (Below.refl _ _) _), Q1.out, Q2.out, ST.out.trans (Stp.below (below_drewN (Below.refl _ _) _)), us, by rw [HST.out]; exact HUS.out, hul⟩
          case measure => simp [intOf]; omega
        · rw [if_neg e] at hstep
          have t1 : (y != x) = true := by simp; exact fun q => e q.symm
          have hst := fun k => rhstore_c (wr.drewN k) (hR.below (below_drewN (Below.refl _ _) k)) a p x hx64
          obtain ⟨z1, z2⟩ := storeH_of hus (i := p) (by omega) x
          rw [← hstep] at hst z2
          rw [z1, hq1] at hst
          have HSTO := Lib.hid hst; have Z2 := Lib.hid z2
          clear hR hstep q1 q2 st hus hq1 hx64 hc hc2 e hst z1 z2
          go_wp2_with fail
          go_quiet (fail)
          go_wp2_with fail
          refine (HSTO.out _).mono ?_
          rintro e w2 ⟨rfl, R2, h2, r1, r2, st2⟩
          have st3 := (Stp.below (below_drewN (Below.refl _ _) _) : Stp R'.own R'.own wr _).trans st2
          have H2 := Lib.hid h2; have R1 := Lib.hid r1; have RR2 := Lib.hid r2; have ST2 := Lib.hid st3
          clear h2 r1 r2 st2 st3 HSTO k1 k2
          go_wp2
          go_roundw
          case rel => exact ⟨p + 1, by omega, rfl, by go_num, R2, H2.out, R1.out.trans Q1.out, RR2.out.trans Q2.out, ST.out.trans ST2.out, _, Z2.out, by simpa using hul⟩
          case measure => simp [intOf]; omega
      · obtain rfl : p = l.length := by omega
        rw [List.take_length, List.take_of_length_le (by omega)] at hR
        have t1 : decide (l.length < old.length) = false := by simp; omega
        have HRR := Lib.hid hR; have Q1 := Lib.hid q1; have Q2 := Lib.hid q2; have ST := Lib.hid st
        clear hR q1 q2 st hus hq1
        go_wp2
        go_ret
        exact ⟨rfl, R', HRR.out, Q1.out, Q2.out, (Stp.below B1.out).trans ST.out⟩
end Go.Proofs.YtcnppdbgieaddaaGreat
