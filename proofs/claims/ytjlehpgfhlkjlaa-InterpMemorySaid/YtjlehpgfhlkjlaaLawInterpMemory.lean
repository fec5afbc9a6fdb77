/-
  The law 'InterpMemory': for every input the call returns true, and each argument reads afterwards as it read before.
  No conditions.
-/
import Derived.Test.YtjlehpgfhlkjlaaWInterpMemory
import Derived.Test.YtjlehpgfhlkjlaaOpen
import Derived.Test.YtjlehpgfhlkjlaaRows
import Derived.WalkKit
import Derived.ProofKit
import Derived.OpenShut
import Derived.Below
namespace Go.Proofs.Ytjlehpgfhlkjlaa
open Go.ChangeShapes Go.WideShapes Go.ChangeAt Go.RowKit Jq
set_option linter.unusedVariables false
theorem ownInterpMemory : ownKnob Try.prog.godebug = none := by kernel_rfl
theorem laidOutInterpMemory : laidOutB Try.prog = true := by kernel_rfl
set_option maxRecDepth 100000 in
theorem liftedInterpMemory (os : Os) (started : os.Started) (H : Type) (enc : TypeId × Value → H) :
    ReturnsInHanded {} Try.checked os 10 .any (Rows.interpMemorySpec.pre6 enc Try.prog Try.f10 Rows.interpMemoryRow.domain false) (Rows.interpMemorySpec.post enc Try.prog Try.f10 false true false false) := by
  refine returnsInHanded_of_change_sized (C := Try.checked) ownInterpMemory started (by kernel_rfl) Try.func10
    (ChangeSpec.witness6 (enc := enc) (C := Try.checked) false ⟨#[], #[.slice none 0 0, .int .i32 0, .int .i32 0], []⟩ 8 (by kernel_rfl) (by kernel_rfl) (by kernel_rfl) (by kernel_rfl)) ?_
  intro W base args ds gs before hval0 hW hcnd hsz0 _
  have hval : ∀ (j : Nat) t v, Try.f10.params[j]? = some t → args[j]? = some v → Value.okWide Try.prog W .any base t v := hval0
  have hW' := hW
  obtain ⟨p, q, hA0, hV, rfl, hfz, hnd⟩ := hW
  have hA : DataW.TrodAll enc Try.prog W 0 (fun _ => true) true Try.f10.params.toList args.toList ds p := hA0
  have hsz : (DataW.weightsEach Try.prog (Try.f10.params.toList ++ Rows.interpMemorySpec.plain.varTypes Try.prog) (ds ++ gs)).all (· ≤ reachBytes) = true := hsz0
  rw [Try.params10] at hA hval hsz
  have hwt : ∀ (i : Nat) (t : TypeId) (d : DataW H), ([25, 21, 21] ++ Rows.interpMemorySpec.plain.varTypes Try.prog : List TypeId)[i]? = some t → (ds ++ gs)[i]? = some d → ∀ n, n ∈ d.weights Try.prog t → n ≤ reachBytes := fun i t d h1 h2 n hn => by
    simpa using List.all_eq_true.1 hsz n (mem_each h1 h2 hn)
  obtain ⟨v0, vs0, d0, ds0, p0, q0, hargs, rfl, rfl, h0, r0⟩ := trodAll_cons hA
  obtain ⟨v1, vs1, d1, ds1, p1, q1, rfl, rfl, rfl, h1, r1⟩ := trodAll_cons r0
  obtain ⟨v2, vs2, d2, ds2, p2, q2, rfl, rfl, rfl, h2, r2⟩ := trodAll_cons r1
  obtain ⟨rfl, rfl, rfl⟩ := trodAll_nil r2
  obtain rfl : args = #[v0, v1, v2] := by cases args; simp_all
  obtain ⟨rfl, rfl⟩ := trodVars_none hV
  have hkeep := hA
  obtain ⟨sa0, sl0, sc0, rfl⟩ := okWide_slice Try.underlying25 (hval 0 25 v0 rfl rfl)
  obtain ⟨a0, e0, m0, o0⟩ := arg_one opWs rfl h0 (hwt 0 25 d0 rfl rfl)
  have e0 : Value.slice sa0 sl0 sc0 = a0.val := by simpa [Kd.sl] using e0
  simp only [Sl.val, Value.slice.injEq] at e0
  obtain ⟨rfl, rfl, rfl⟩ := e0
  obtain ⟨a1, rfl, rfl, rfl, o1⟩ := open_int Try.underlying21 (hval 1 21 v1 rfl rfl) h1
  obtain ⟨a2, rfl, rfl, rfl, o2⟩ := open_int Try.underlying21 (hval 2 21 v2 rfl rfl) h2
  refine (walkInterpMemory W a0 m0 o0 a1 o1 a2 o2).mono fun e W' ⟨he, bel⟩ => ?_
  subst he
  have hr : ∀ t, t ∈ ([25, 21, 21] : List TypeId) → (Try.prog).readableRec t = true ∧ t < (Try.prog).types.size := by
    intro t ht
    simp only [List.mem_cons, List.not_mem_nil, or_false] at ht
    rcases ht with rfl | rfl | rfl <;> exact ⟨by kernel_rfl, of_decide_eq_true (by kernel_rfl)⟩
  exact ⟨_, rfl, _, _, _, [], _, [], hW', trodAll_mk1 (shut_bool Try.underlying4 _), trodAll_keep laidOutInterpMemory bel _ _ _ _ hr hkeep, rfl, bel.frame _, fun h => by cases h⟩
theorem overInterpMemory : Rows.interpMemoryRow.holds Try.pinned (OpenSpec.ofChange Rows.interpMemorySpec) :=
  OpenClaim.holds_of_wide 10 Try.f10 rfl rfl rfl rfl rfl rfl rfl ⟨rfl, rfl, rfl, rfl, rfl⟩ rfl rfl rfl rfl rfl (by kernel_rfl) Try.func10 (by kernel_rfl)
    (of_decide_eq_true (by kernel_rfl)) (by unfold Func.isWrapper; first | (rw [if_pos (by decide +kernel)]; kernel_rfl) | (rw [if_neg (by decide +kernel)]; exact ⟨rfl, rfl⟩))
    (fun os started H enc _ => liftedInterpMemory os started H enc)
/-- THE STATEMENT. -/
theorem interpMemory_holds : Rows.InterpMemorySaid := overInterpMemory
#print axioms interpMemory_holds
end Go.Proofs.Ytjlehpgfhlkjlaa
