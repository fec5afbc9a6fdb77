/-
  The law 'InterpLoop': for every input the call returns true, and each argument reads afterwards as it read before.
  No conditions.
-/
import Derived.Test.YtjlehpgfhlkjlaaWInterpLoop
import Derived.Test.YtjlehpgfhlkjlaaOpenG
import Derived.Test.YtjlehpgfhlkjlaaRows
import Derived.WalkKit
import Derived.ProofKit
import Derived.OpenShut
import Derived.Below
namespace Go.Proofs.Ytjlehpgfhlkjlaa
open Go.ChangeShapes Go.WideShapes Go.ChangeAt Go.RowKit Jq
set_option linter.unusedVariables false
theorem ownInterpLoop : ownKnob Try.prog.godebug = none := by kernel_rfl
theorem laidOutInterpLoop : laidOutB Try.prog = true := by kernel_rfl
set_option maxRecDepth 100000 in
theorem liftedInterpLoop (os : Os) (started : os.Started) (H : Type) (enc : TypeId × Value → H) :
    ReturnsInHanded {} Try.checked os 11 .any (Rows.interpLoopSpec.pre6 enc Try.prog Try.f11 Rows.interpLoopRow.domain false) (Rows.interpLoopSpec.post enc Try.prog Try.f11 false true false false) := by
  refine returnsInHanded_of_change_sized (C := Try.checked) ownInterpLoop started (by kernel_rfl) Try.func11
    (ChangeSpec.witness6 (enc := enc) (C := Try.checked) false ⟨#[], #[.int .u8 0, .int .i32 0, .int .u16 0], []⟩ 8 (by kernel_rfl) (by kernel_rfl) (by kernel_rfl) (by kernel_rfl)) ?_
  intro W base args ds gs before hval0 hW hcnd hsz0 _
  have hval : ∀ (j : Nat) t v, Try.f11.params[j]? = some t → args[j]? = some v → Value.okWide Try.prog W .any base t v := hval0
  have hW' := hW
  obtain ⟨p, q, hA0, hV, rfl, hfz, hnd⟩ := hW
  have hA : DataW.TrodAll enc Try.prog W 0 (fun _ => true) true Try.f11.params.toList args.toList ds p := hA0
  have hsz : (DataW.weightsEach Try.prog (Try.f11.params.toList ++ Rows.interpLoopSpec.plain.varTypes Try.prog) (ds ++ gs)).all (· ≤ reachBytes) = true := hsz0
  rw [Try.params11] at hA hval hsz
  have hwt : ∀ (i : Nat) (t : TypeId) (d : DataW H), ([5, 21, 86] ++ Rows.interpLoopSpec.plain.varTypes Try.prog : List TypeId)[i]? = some t → (ds ++ gs)[i]? = some d → ∀ n, n ∈ d.weights Try.prog t → n ≤ reachBytes := fun i t d h1 h2 n hn => by
    simpa using List.all_eq_true.1 hsz n (mem_each h1 h2 hn)
  obtain ⟨v0, vs0, d0, ds0, p0, q0, hargs, rfl, rfl, h0, r0⟩ := trodAll_cons hA
  obtain ⟨v1, vs1, d1, ds1, p1, q1, rfl, rfl, rfl, h1, r1⟩ := trodAll_cons r0
  obtain ⟨v2, vs2, d2, ds2, p2, q2, rfl, rfl, rfl, h2, r2⟩ := trodAll_cons r1
  obtain ⟨rfl, rfl, rfl⟩ := trodAll_nil r2
  obtain rfl : args = #[v0, v1, v2] := by cases args; simp_all
  obtain ⟨rfl, rfl⟩ := trodVars_none hV
  have hkeep := hA
  obtain ⟨a0, rfl, rfl, rfl, o0⟩ := open_int Try.underlying5 (hval 0 5 v0 rfl rfl) h0
  obtain ⟨a1, rfl, rfl, rfl, o1⟩ := open_int Try.underlying21 (hval 1 21 v1 rfl rfl) h1
  obtain ⟨a2, rfl, rfl, rfl, o2⟩ := open_int Try.underlying86 (hval 2 86 v2 rfl rfl) h2
  refine (walkInterpLoop W a0 o0 a1 o1 a2 o2).mono fun e W' ⟨he, bel⟩ => ?_
  subst he
  have hr : ∀ t, t ∈ ([5, 21, 86] : List TypeId) → (Try.prog).readableRec t = true ∧ t < (Try.prog).types.size := by
    intro t ht
    simp only [List.mem_cons, List.not_mem_nil, or_false] at ht
    rcases ht with rfl | rfl | rfl <;> exact ⟨by kernel_rfl, of_decide_eq_true (by kernel_rfl)⟩
  exact ⟨_, rfl, _, _, _, [], _, [], hW', trodAll_mk1 (shut_bool Try.underlying4 _), trodAll_keep laidOutInterpLoop bel _ _ _ _ hr hkeep, rfl, bel.frame _, fun h => by cases h⟩
theorem overInterpLoop : Rows.interpLoopRow.holds Try.pinned (OpenSpec.ofChange Rows.interpLoopSpec) :=
  OpenClaim.holds_of_wide 11 Try.f11 rfl rfl rfl rfl rfl rfl rfl ⟨rfl, rfl, rfl, rfl, rfl⟩ rfl rfl rfl rfl rfl (by kernel_rfl) Try.func11 (by kernel_rfl)
    (of_decide_eq_true (by kernel_rfl)) (by unfold Func.isWrapper; first | (rw [if_pos (by decide +kernel)]; kernel_rfl) | (rw [if_neg (by decide +kernel)]; exact ⟨rfl, rfl⟩))
    (fun os started H enc _ => liftedInterpLoop os started H enc)
/-- THE STATEMENT. -/
theorem interpLoop_holds : Rows.InterpLoopSaid := overInterpLoop
#print axioms interpLoop_holds
end Go.Proofs.Ytjlehpgfhlkjlaa
