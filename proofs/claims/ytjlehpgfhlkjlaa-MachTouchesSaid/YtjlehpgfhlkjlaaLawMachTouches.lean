/-
  The law 'MachTouches': for every input the call returns true, and each argument reads afterwards as it read before.
  No conditions.
-/
import Derived.Test.YtjlehpgfhlkjlaaWMachTouches
import Derived.Test.YtjlehpgfhlkjlaaRows
import Derived.WalkKit
import Derived.ProofKit
import Derived.OpenShut
import Derived.Below
namespace Go.Proofs.Ytjlehpgfhlkjlaa
open Go.ChangeShapes Go.WideShapes Go.ChangeAt Go.RowKit Jq
set_option linter.unusedVariables false
theorem ownMachTouches : ownKnob Try.prog.godebug = none := by kernel_rfl
theorem laidOutMachTouches : laidOutB Try.prog = true := by kernel_rfl
set_option maxRecDepth 100000 in
theorem liftedMachTouches (os : Os) (started : os.Started) (H : Type) (enc : TypeId × Value → H) :
    ReturnsInHanded {} Try.checked os 4 .any (Rows.machTouchesSpec.pre6 enc Try.prog Try.f4 Rows.machTouchesRow.domain false) (Rows.machTouchesSpec.post enc Try.prog Try.f4 false true false false) := by
  refine returnsInHanded_of_change_sized (C := Try.checked) ownMachTouches started (by kernel_rfl) Try.func4
    (ChangeSpec.witness6 (enc := enc) (C := Try.checked) false ⟨#[], #[.agg #[.int .i64 0, .int .i64 0, .int .i64 0, .int .i64 0, .int .i64 0, .int .i64 0, .int .i32 0, .slice none 0 0], .agg #[.int .i32 0, .int .i32 0, .int .i32 0, .int .i32 0, .int .i32 0, .int .i32 0, .int .i32 0, .int .i32 0, .int .i32 0, .int .i32 0, .int .i32 0, .int .i32 0, .int .i32 0, .int .i32 0, .int .i32 0, .int .i32 0, .int .i32 0, .int .i32 0, .int .i32 0, .int .i32 0, .int .i32 0, .int .i32 0, .int .i32 0, .int .i32 0, .int .i32 0, .int .i32 0, .int .i32 0, .int .i32 0, .int .i32 0, .int .i32 0, .int .i32 0, .int .i32 0], .slice none 0 0], []⟩ 8 (by kernel_rfl) (by kernel_rfl) (by kernel_rfl) (by kernel_rfl)) ?_
  intro W base args ds gs before hval0 hW hcnd hsz0 _
  have hval : ∀ (j : Nat) t v, Try.f4.params[j]? = some t → args[j]? = some v → Value.okWide Try.prog W .any base t v := hval0
  have hW' := hW
  obtain ⟨p, q, hA0, hV, rfl, hfz, hnd⟩ := hW
  have hA : DataW.TrodAll enc Try.prog W 0 (fun _ => true) true Try.f4.params.toList args.toList ds p := hA0
  have hsz : (DataW.weightsEach Try.prog (Try.f4.params.toList ++ Rows.machTouchesSpec.plain.varTypes Try.prog) (ds ++ gs)).all (· ≤ reachBytes) = true := hsz0
  rw [Try.params4] at hA hval hsz
  have hwt : ∀ (i : Nat) (t : TypeId) (d : DataW H), ([40, 42, 25] ++ Rows.machTouchesSpec.plain.varTypes Try.prog : List TypeId)[i]? = some t → (ds ++ gs)[i]? = some d → ∀ n, n ∈ d.weights Try.prog t → n ≤ reachBytes := fun i t d h1 h2 n hn => by
    simpa using List.all_eq_true.1 hsz n (mem_each h1 h2 hn)
  obtain ⟨v0, vs0, d0, ds0, p0, q0, hargs, rfl, rfl, h0, r0⟩ := trodAll_cons hA
  obtain ⟨v1, vs1, d1, ds1, p1, q1, rfl, rfl, rfl, h1, r1⟩ := trodAll_cons r0
  obtain ⟨v2, vs2, d2, ds2, p2, q2, rfl, rfl, rfl, h2, r2⟩ := trodAll_cons r1
  obtain ⟨rfl, rfl, rfl⟩ := trodAll_nil r2
  obtain rfl : args = #[v0, v1, v2] := by cases args; simp_all
  obtain ⟨rfl, rfl⟩ := trodVars_none hV
  have hkeep := hA
  obtain ⟨cs0, rfl, _⟩ := okWide_struct Try.underlying40 (hval 0 40 v0 rfl rfl)
  obtain ⟨a0, rfl, m0, o0⟩ := arg_agg opMach h0 (hwt 0 40 d0 rfl rfl)
  obtain ⟨cs1, rfl, _⟩ := okWide_array Try.underlying42 (hval 1 42 v1 rfl rfl)
  obtain ⟨a1, rfl, m1, o1⟩ := arg_agg opRegs2 h1 (hwt 1 42 d1 rfl rfl)
  obtain ⟨sa2, sl2, sc2, rfl⟩ := okWide_slice Try.underlying25 (hval 2 25 v2 rfl rfl)
  obtain ⟨a2, e2, m2, o2⟩ := arg_one opWs rfl h2 (hwt 2 25 d2 rfl rfl)
  have e2 : Value.slice sa2 sl2 sc2 = a2.val := by simpa [Kd.sl] using e2
  simp only [Sl.val, Value.slice.injEq] at e2
  obtain ⟨rfl, rfl, rfl⟩ := e2
  refine (walkMachTouches W a0 m0 o0 a1 m1 o1 a2 m2 o2).mono fun e W' ⟨he, bel⟩ => ?_
  subst he
  have hr : ∀ t, t ∈ ([40, 42, 25] : List TypeId) → (Try.prog).readableRec t = true ∧ t < (Try.prog).types.size := by
    intro t ht
    simp only [List.mem_cons, List.not_mem_nil, or_false] at ht
    rcases ht with rfl | rfl | rfl <;> exact ⟨by kernel_rfl, of_decide_eq_true (by kernel_rfl)⟩
  exact ⟨_, rfl, _, _, _, [], _, [], hW', trodAll_mk1 (shut_bool Try.underlying4 _), trodAll_keep laidOutMachTouches bel _ _ _ _ hr hkeep, rfl, bel.frame _, fun h => by cases h⟩
theorem overMachTouches : Rows.machTouchesRow.holds Try.pinned (OpenSpec.ofChange Rows.machTouchesSpec) :=
  OpenClaim.holds_of_wide 4 Try.f4 rfl rfl rfl rfl rfl rfl rfl ⟨rfl, rfl, rfl, rfl, rfl⟩ rfl rfl rfl rfl rfl (by kernel_rfl) Try.func4 (by kernel_rfl)
    (of_decide_eq_true (by kernel_rfl)) (by unfold Func.isWrapper; first | (rw [if_pos (by decide +kernel)]; kernel_rfl) | (rw [if_neg (by decide +kernel)]; exact ⟨rfl, rfl⟩))
    (fun os started H enc _ => liftedMachTouches os started H enc)
/-- THE STATEMENT. -/
theorem machTouches_holds : Rows.MachTouchesSaid := overMachTouches
#print axioms machTouches_holds
end Go.Proofs.Ytjlehpgfhlkjlaa
