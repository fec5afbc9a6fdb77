/-
  The law 'InterpWords': for every input the call returns true, and each argument reads afterwards as it read before.
  No conditions.
-/
import Derived.Test.YtjlehpgfhlkjlaaWInterpWords
import Derived.Test.YtjlehpgfhlkjlaaOpenG
import Derived.Test.YtjlehpgfhlkjlaaRows
import Derived.WalkKit
import Derived.ProofKit
import Derived.OpenShut
import Derived.Below
namespace Go.Proofs.Ytjlehpgfhlkjlaa
open Go.ChangeShapes Go.WideShapes Go.ChangeAt Go.RowKit Jq
set_option linter.unusedVariables false
theorem ownInterpWords : ownKnob Try.prog.godebug = none := by kernel_rfl
theorem laidOutInterpWords : laidOutB Try.prog = true := by kernel_rfl
set_option maxRecDepth 100000 in
theorem liftedInterpWords (os : Os) (started : os.Started) (H : Type) (enc : TypeId × Value → H) :
    ReturnsInHanded {} Try.checked os 9 .any (Rows.interpWordsSpec.pre6 enc Try.prog Try.f9 Rows.interpWordsRow.domain false) (Rows.interpWordsSpec.post enc Try.prog Try.f9 false true false false) := by
  refine returnsInHanded_of_change_sized (C := Try.checked) ownInterpWords started (by kernel_rfl) Try.func9
    (ChangeSpec.witness6 (enc := enc) (C := Try.checked) false ⟨#[], #[.int .i32 0, .int .i32 0], []⟩ 8 (by kernel_rfl) (by kernel_rfl) (by kernel_rfl) (by kernel_rfl)) ?_
  intro W base args ds gs before hval0 hW hcnd hsz0 _
  have hval : ∀ (j : Nat) t v, Try.f9.params[j]? = some t → args[j]? = some v → Value.okWide Try.prog W .any base t v := hval0
  have hW' := hW
  obtain ⟨p, q, hA0, hV, rfl, hfz, hnd⟩ := hW
  have hA : DataW.TrodAll enc Try.prog W 0 (fun _ => true) true Try.f9.params.toList args.toList ds p := hA0
  have hsz : (DataW.weightsEach Try.prog (Try.f9.params.toList ++ Rows.interpWordsSpec.plain.varTypes Try.prog) (ds ++ gs)).all (· ≤ reachBytes) = true := hsz0
  rw [Try.params9] at hA hval hsz
  have hwt : ∀ (i : Nat) (t : TypeId) (d : DataW H), ([21, 21] ++ Rows.interpWordsSpec.plain.varTypes Try.prog : List TypeId)[i]? = some t → (ds ++ gs)[i]? = some d → ∀ n, n ∈ d.weights Try.prog t → n ≤ reachBytes := fun i t d h1 h2 n hn => by
    simpa using List.all_eq_true.1 hsz n (mem_each h1 h2 hn)
  obtain ⟨v0, vs0, d0, ds0, p0, q0, hargs, rfl, rfl, h0, r0⟩ := trodAll_cons hA
  obtain ⟨v1, vs1, d1, ds1, p1, q1, rfl, rfl, rfl, h1, r1⟩ := trodAll_cons r0
  obtain ⟨rfl, rfl, rfl⟩ := trodAll_nil r1
  obtain rfl : args = #[v0, v1] := by cases args; simp_all
  obtain ⟨rfl, rfl⟩ := trodVars_none hV
  have hkeep := hA
  obtain ⟨a0, rfl, rfl, rfl, o0⟩ := open_int Try.underlying21 (hval 0 21 v0 rfl rfl) h0
  obtain ⟨a1, rfl, rfl, rfl, o1⟩ := open_int Try.underlying21 (hval 1 21 v1 rfl rfl) h1
  refine (walkInterpWords W a0 o0 a1 o1).mono fun e W' ⟨he, bel⟩ => ?_
  subst he
  have hr : ∀ t, t ∈ ([21, 21] : List TypeId) → (Try.prog).readableRec t = true ∧ t < (Try.prog).types.size := by
    intro t ht
    simp only [List.mem_cons, List.not_mem_nil, or_false] at ht
    rcases ht with rfl | rfl <;> exact ⟨by kernel_rfl, of_decide_eq_true (by kernel_rfl)⟩
  exact ⟨_, rfl, _, _, _, [], _, [], hW', trodAll_mk1 (shut_bool Try.underlying4 _), trodAll_keep laidOutInterpWords bel _ _ _ _ hr hkeep, rfl, bel.frame _, fun h => by cases h⟩
theorem overInterpWords : Rows.interpWordsRow.holds Try.pinned (OpenSpec.ofChange Rows.interpWordsSpec) :=
  OpenClaim.holds_of_wide 9 Try.f9 rfl rfl rfl rfl rfl rfl rfl ⟨rfl, rfl, rfl, rfl, rfl⟩ rfl rfl rfl rfl rfl (by kernel_rfl) Try.func9 (by kernel_rfl)
    (of_decide_eq_true (by kernel_rfl)) (by unfold Func.isWrapper; first | (rw [if_pos (by decide +kernel)]; kernel_rfl) | (rw [if_neg (by decide +kernel)]; exact ⟨rfl, rfl⟩))
    (fun os started H enc _ => liftedInterpWords os started H enc)
/-- THE STATEMENT. -/
theorem interpWords_holds : Rows.InterpWordsSaid := overInterpWords
#print axioms interpWords_holds
end Go.Proofs.Ytjlehpgfhlkjlaa
