/-
  A region that draws, in a round of a range over a function: out of the same region's orders outside. No program in sight.
-/
import Derived.Test.YtjlehpgfhlkjlaaPIdom
import Derived.RangeFuncNested
import Derived.RangeFuncCalls
import Derived.OrdersIn
set_option linter.all false
namespace Jq
open Go Go.RowKit
theorem rows_in {P : Program} {row : String} {args : Array Value} {w : World} {R : Value → World → Prop} {l n : Nat} (h : Rows P row args w R) : RowsIn (Fence.wide.inRound l) n P row args w R := fun c cs _ => by
  obtain ⟨v, w', r, s⟩ := h c cs
  exact ⟨v, w', r, by rw [fenced_inRound]; exact stepsIn_wide.2 s⟩
theorem oper_in {P : Program} {o : Oper} {a : Act} {w : World} {K : Act → World → Prop} {Q : Exit → Act → World → Prop} {l n : Nat} (hd : ∀ c, o.op ≠ .defer c) (h : Oper.wp P o a w K Q) : Oper.wpIn (Fence.wide.inRound l) n P o a w K Q := by
  refine ⟨fun _ _ => trivial, ?_⟩
  unfold Oper.wp at h
  rw [show (Fence.wide.inRound l).round = some l from rfl, Oper.semAt_eq _ _ _ hd]
  generalize hr : (execOp a.eval o).run P w = r at *
  cases r with
  | ok x w' =>
    cases x <;> simp only [Oper.upon, Oper.uponIn] at h ⊢
    case value => exact h
    case skip => exact h
    case defer => exact h
    case enter f args => exact ⟨fun hh => absurd hh (by simp [Fence.wide]), (CallsIn.inRound l (callsIn_wide.2 h)).mono fun e w' he => he⟩
    case row r args => exact ⟨fun hh => absurd hh (by simp [Fence.wide]), rows_in h⟩
  | halt x w' =>
    cases x <;> simp only [Oper.upon, Oper.uponIn] at h ⊢
    case panic u => exact h
theorem any_in {P : Program} {md : Region.Mode} {ops : Array Oper} {Q : Exit → Act → World → Prop} {l n : Nat} (hQ : ¬ LetsOut Q) (hd : ∀ (i : Nat) (o : Oper), ops[i]? = some o → ∀ c, o.op ≠ .defer c) :
    ∀ (fuel : Nat) (listed : Array Bool) (a : Act) (w : World), wpAny P md ops Q fuel listed a w → wpAnyIn (Fence.wide.inRound l) n P md ops Q fuel listed a w
  | 0, listed, a, w, h => h
  | fuel + 1, listed, a, w, h => by
    refine ⟨h.1, fun i hi => ?_⟩
    have h1 := h.2 i hi
    have ih := any_in (P := P) (md := md) (l := l) (n := n) hQ hd fuel (listed.setIfInBounds i true)
    unfold wpOp at h1
    unfold wpOpIn
    cases ho : ops[i]? with
    | none => rw [ho] at h1; exact ih _ _ h1
    | some o =>
      rw [ho] at h1
      simp only at h1 ⊢
      split
      · rename_i hw
        rw [if_pos hw] at h1
        rcases h1 with h1 | ⟨_, h1⟩
        · exact oper_in (hd i o ho) (Oper.wp_mono (fun a w => ih a w) h1)
        · exact absurd h1 hQ
      · rename_i hw
        rw [if_neg hw] at h1
        exact ⟨fun _ _ => trivial, ih _ _ h1⟩
def isDefer (o : Oper) : Bool := match o.op with | .defer _ => true | _ => false
/-- A region of a round, out of its orders. -/
theorem region_round {P : Program} {id : Nat} {l0 : List Oper} {Q : Exit → Act → World → Prop} {l n : Nat} {a : Act} {w : World} (hm : P.follows .mixedOrders = true) (hQ : ¬ LetsOut Q) (hd : (l0.all fun o => !isDefer o) = true)
    (h : wpAny P .any l0.toArray Q l0.length (Array.replicate l0.length false) a w.drew) : (Code.region id l0.toArray true).wpIn (Fence.wide.inRound l) n P Q a w :=
  wpIn_region_any hm (any_in hQ (fun i o ho c hc => by
    have h1 : o ∈ l0 := by
      have h2 : l0[i]? = some o := by simpa using ho
      exact List.mem_of_getElem? h2
    have h3 := List.all_eq_true.1 hd o h1
    simp [isDefer, hc] at h3) _ _ _ _ h)
end Jq
