/- A statement's last step, where the walk has left what was there as it was. -/
import Derived.Test.YtcnppdbgieaddaaGreatRows
import Derived.WalkKit
import Derived.ProofKit
import Derived.OpenShut
import Derived.DataShut
import Derived.Below
import Derived.ChangeSame
namespace Go.Proofs.YtcnppdbgieaddaaGreat
open Go.ChangeShapes Go.WideShapes Go.ChangeAt Go.RowKit
set_option linter.unusedVariables false
theorem ownGodebug : ownKnob Tryz.prog.godebug = none := by kernel_rfl
/-- The call's results and arguments read as the specification says, in a world where nothing below has turned. -/
theorem post_past {P : Program} {H : Type} {enc : TypeId × Value → H} {f : Func} {sp : ChangeSpec} {w w' : World} {args : Array Value} {v : Value} {ds gs : List (DataW H)} {before : List MemPlace} {pa pv : List MemPlace}
    (hb : Below w.heap.size w w') (hW : DataW.Whole enc P f.params.toList sp.vars false w args.toList ds gs before)
    (hr : ∀ (b : Nat) (k : Nat → Bool) (hd : Bool), DataW.TrodAll enc P w' b k hd f.resultTypes.toList (v.resultList f.resultTypes.size) (sp.fn H (ds ++ gs)).results [])
    (ha : ∀ k : Nat → Bool, (∀ p ∈ before, k p.block = true) → DataW.TrodAll enc P w' 0 k true f.params.toList args.toList (sp.fn H (ds ++ gs)).args pa)
    (hv : ∀ k : Nat → Bool, (∀ p ∈ before, k p.block = true) → DataW.TrodVars enc P w' k sp.vars (sp.fn H (ds ++ gs)).vars pv)
    (hp : before = pa ++ pv) (ho : ∀ (i : Nat) (t : TypeId) (x : Value), f.resultTypes[i]? = some t → (v.resultList f.resultTypes.size)[i]? = some x → Value.okWide P w' .any 0 t x) :
    sp.post enc P f false true false false w args v w' := by
  have old : ∀ p ∈ before, p.block < w.heap.size := fun p q => hW.lt p q
  have mine : ∀ p ∈ before, (fun b => decide (b < w.heap.size)) p.block = true := fun p q => decide_eq_true (old p q)
  refine ⟨ds, gs, before, [], pa, pv, hW, hr _ _ _, ha _ mine, hv _ mine, World.keptBut_mono (fun p q => ⟨q, by rw [hp, List.mem_append] at q; exact .inr q⟩) (hb.frame (· ∈ before)), fun _ => ?_⟩
  obtain ⟨_, _, _, _, _, hz, hn⟩ := hW
  refine ⟨ho, _, _, ([] ++ pa) ++ pv, ⟨[] ++ pa, pv, trodAll_append (ha _ fun _ _ => rfl) (hr _ _ _), hv _ fun _ _ => rfl, rfl, fun b o q => ?_, fun q => ?_⟩, fun p q _ => ?_⟩
  · have q2 : MemPlace.cell b o ∈ before := by rw [hp]; simpa using q
    rw [hb.frozen (old _ q2)]; exact hz b o q2
  · have := hn q; rw [hp] at this; simpa using this
  · rw [hp]; simpa using q
theorem lit_i64 {x : Int} (h : (Lit.int .i64 x).wf = true) : -9223372036854775808 ≤ x ∧ x ≤ 9223372036854775807 := (Lit.wf_int_iff .i64 x).1 h
end Go.Proofs.YtcnppdbgieaddaaGreat
