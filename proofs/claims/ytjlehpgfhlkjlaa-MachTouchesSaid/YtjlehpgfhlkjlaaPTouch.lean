/-
  An instruction changes no register but those that it makes, and hangs on none but those that it takes. Plain.
-/
import Derived.Test.YtjlehpgfhlkjlaaPL7
set_option linter.all false
namespace Jq
theorem mget_mset (l : List Int) (r v s : Int) : mget (mset l r v) s = if s = r ∧ 0 ≤ r ∧ r < (l.length : Int) then v else mget l s := by
  unfold mset
  by_cases h : 0 ≤ r ∧ r < (l.length : Int)
  · rw [if_pos h]
    by_cases hs : s = r
    · subst hs
      rw [if_pos ⟨rfl, h⟩, mget, if_neg (by rw [List.length_set]; omega), List.getD_eq_getElem?_getD, List.getElem?_set_self (by omega)]
      rfl
    · rw [if_neg (by omega), mget, mget, List.length_set]
      by_cases h2 : s < 0 ∨ (l.length : Int) ≤ s
      · rw [if_pos h2, if_pos h2]
      · rw [if_neg h2, if_neg h2, List.getD_eq_getElem?_getD, List.getD_eq_getElem?_getD, List.getElem?_set_ne (by omega)]
  · rw [if_neg h, if_neg (by omega)]
/-- Registers that are taken are as the others. -/
def copyAll (a : List Int) : List Int → List Int → List Int
  | [], c => c
  | t :: ts, c => copyAll a ts (mset c t (mget a t))
@[simp] theorem copyAll_len (a : List Int) : ∀ (ts c : List Int), (copyAll a ts c).length = c.length
  | [], _ => rfl
  | t :: ts, c => by rw [copyAll, copyAll_len a ts, mset_len]
theorem copyAll_keep (a : List Int) (r : Int) : ∀ (ts c : List Int), mget c r = mget a r → mget (copyAll a ts c) r = mget a r
  | [], _, h => h
  | t :: ts, c, h => by
    rw [copyAll]
    refine copyAll_keep a r ts _ ?_
    rw [mget_mset]
    split
    · rename_i h2; rw [h2.1]
    · exact h
theorem copyAll_hit (a : List Int) (r : Int) : ∀ (ts c : List Int), r ∈ ts → 0 ≤ r → r < (c.length : Int) → mget (copyAll a ts c) r = mget a r
  | [], _, h, _, _ => absurd h (by simp)
  | t :: ts, c, h, h0, h1 => by
    rw [copyAll]
    rcases List.mem_cons.1 h with rfl | h
    · exact copyAll_keep a r ts _ (by rw [mget_mset, if_pos ⟨rfl, h0, h1⟩])
    · exact copyAll_hit a r ts _ h h0 (by rw [mset_len]; exact h1)
theorem copyAll_at (a : List Int) : ∀ (ts c : List Int) (k : Nat) (hk : k < ts.length), copyAll a (ts.take (k + 1)) c = mset (copyAll a (ts.take k) c) ts[k] (mget a ts[k])
  | [], _, k, hk => absurd hk (by simp)
  | t :: ts, c, 0, _ => by simp [copyAll]
  | t :: ts, c, k + 1, hk => by
    simp only [List.take_succ_cons, copyAll, List.getElem_cons_succ]
    exact copyAll_at a ts _ k (by simpa using hk)
structure Near (i : Mach List) : Prop where
  a : 0 ≤ i.a ∧ i.a < 16
  b : 0 ≤ i.b ∧ i.b < 16
  c : 0 ≤ i.c ∧ i.c < 16
  d : 0 ≤ i.d ∧ i.d < 16
  e : 0 ≤ i.e ∧ i.e < 16
/-- What is taken is the same: so is what comes of it. -/
theorem mval_same {i : Mach List} (hn : Near i) {a c m : List Int} (h : ∀ r, r ∈ takes i → 0 ≤ r → r < 16 → mget c r = mget a r) (h2 : i.op ≠ 2) (h29 : i.op ≠ 29) (hr : ¬ (i.op < 1 ∨ i.op = 28 ∨ 29 < i.op)) :
    mval i.op (mget c i.a) (mget c i.b) (mget c i.c) i.imm m = mval i.op (mget a i.a) (mget a i.b) (mget a i.c) i.imm m := by
  have ha : i.a ∈ takes i → mget c i.a = mget a i.a := fun hm => h _ hm hn.a.1 hn.a.2
  have hb : i.b ∈ takes i → mget c i.b = mget a i.b := fun hm => h _ hm hn.b.1 hn.b.2
  have hc : i.c ∈ takes i → mget c i.c = mget a i.c := fun hm => h _ hm hn.c.1 hn.c.2
  unfold takes takesOf at ha hb hc
  by_cases c1 : i.op = 1 ∨ 18 ≤ i.op ∧ i.op ≤ 22 ∨ i.op = 24 ∨ i.op = 31
  · rw [if_pos c1] at ha
    have ha := ha (by simp)
    unfold mval
    rcases (by omega : i.op = 1 ∨ (18 ≤ i.op ∧ i.op ≤ 22) ∨ i.op = 24) with e | e | e
    · simp only [e, if_true, ha]
    · have n1 : ¬ i.op = 1 := by omega
      have n3 : ¬ (i.op = 3 ∨ i.op = 4) := by omega
      have n5 : ¬ (5 ≤ i.op ∧ i.op ≤ 17) := by omega
      rw [if_neg n1, if_neg n3, if_neg n5, if_pos e, if_neg n1, if_neg n3, if_neg n5, if_pos e, ha]
    · have n1 : ¬ i.op = 1 := by omega
      have n3 : ¬ (i.op = 3 ∨ i.op = 4) := by omega
      have n5 : ¬ (5 ≤ i.op ∧ i.op ≤ 17) := by omega
      have n18 : ¬ (18 ≤ i.op ∧ i.op ≤ 22) := by omega
      have n23 : ¬ i.op = 23 := by omega
      rw [if_neg n1, if_neg n3, if_neg n5, if_neg n18, if_neg n23, if_pos e, if_neg n1, if_neg n3, if_neg n5, if_neg n18, if_neg n23, if_pos e, ha]
  rw [if_neg c1] at ha hb hc
  by_cases c2 : i.op = 2 ∨ 5 ≤ i.op ∧ i.op ≤ 17 ∨ i.op = 25 ∨ i.op = 26 ∨ i.op = 29
  · rw [if_pos c2] at ha hb
    have ha := ha (by simp)
    have hb := hb (by simp)
    unfold mval
    have n1 : ¬ i.op = 1 := by omega
    have n3 : ¬ (i.op = 3 ∨ i.op = 4) := by omega
    have n18 : ¬ (18 ≤ i.op ∧ i.op ≤ 22) := by omega
    have n23 : ¬ i.op = 23 := by omega
    have n24 : ¬ i.op = 24 := by omega
    rw [ha, hb, if_neg n1, if_neg n3, if_neg n18, if_neg n23, if_neg n24, if_neg n1, if_neg n3, if_neg n18, if_neg n23, if_neg n24]
    by_cases e1 : 5 ≤ i.op ∧ i.op ≤ 17
    · rw [if_pos e1, if_pos e1]
    · rw [if_neg e1, if_neg e1]
      by_cases e2 : i.op = 25
      · rw [if_pos e2, if_pos e2]
      · have e3 : i.op = 26 := by omega
        rw [if_neg e2, if_neg e2, if_pos e3, if_pos e3]
  rw [if_neg c2] at ha hb hc
  by_cases c3 : i.op = 23 ∨ i.op = 27
  · rw [if_pos c3] at ha hb hc
    have ha := ha (by simp)
    have hb := hb (by simp)
    have hc := hc (by simp)
    rw [ha, hb, hc]
  · have : i.op = 3 ∨ i.op = 4 := by omega
    have n1 : ¬ i.op = 1 := by omega
    unfold mval
    rw [if_neg n1, if_pos this, if_neg n1, if_pos this]
theorem makes_mem {i : Mach List} {k : Int} (hk : k ∈ makes i) (h2 : i.op ≠ 2) (h29 : i.op ≠ 29) : makes i = [i.d] ∧ k = i.d := by
  unfold makes makesOf at hk ⊢
  rw [if_neg h2, if_neg h29] at hk ⊢
  split at hk
  · simp at hk
  · rename_i h
    rw [if_neg h]
    exact ⟨rfl, by simpa using hk⟩
theorem makes_two (i : Mach List) (h2 : i.op ≠ 2) (h29 : i.op ≠ 29) : makes i = [i.d] ∨ makes i = [] := by
  unfold makes makesOf
  rw [if_neg h2, if_neg h29]
  split
  · exact Or.inr rfl
  · exact Or.inl rfl
theorem touch_same {i : Mach List} (hn : Near i) {a c m : List Int} (hal : a.length = 16) (hcl : c.length = 16) (h : ∀ r, r ∈ takes i → 0 ≤ r → r < 16 → mget c r = mget a r) :
    (mdo i c m).1 = (mdo i a m).1 ∧ (mdo i c m).2.2 = (mdo i a m).2.2 ∧ (∀ k, k ∈ makes i → (mdo i a m).1.2 = true → i.op ≠ 28 → i.op ≠ 30 → mget (mdo i a m).2.1 k = mget (mdo i c m).2.1 k) := by
  by_cases h2 : i.op = 2
  · have ha := h i.a (by unfold takes takesOf; rw [if_neg (by omega), if_pos (by omega)]; simp) hn.a.1 hn.a.2
    have hb := h i.b (by unfold takes takesOf; rw [if_neg (by omega), if_pos (by omega)]; simp) hn.b.1 hn.b.2
    rw [mdo_swap h2, mdo_swap h2]
    refine ⟨rfl, rfl, fun k hk _ _ _ => ?_⟩
    unfold makes makesOf at hk
    rw [if_pos h2] at hk
    simp only [mget_mset, mset_len, hal, hcl, ha, hb]
    have h1 := hn.a
    have h3 := hn.b
    simp only [List.mem_cons, List.not_mem_nil, or_false] at hk
    by_cases hkb : k = i.b
    · rw [if_pos (by omega), if_pos (by omega)]
    · rw [if_neg (by omega), if_pos (by omega), if_neg (by omega), if_pos (by omega)]
  by_cases h29 : i.op = 29
  · have ha := h i.a (by unfold takes takesOf; rw [if_neg (by omega), if_pos (by omega)]; simp) hn.a.1 hn.a.2
    have hb := h i.b (by unfold takes takesOf; rw [if_neg (by omega), if_pos (by omega)]; simp) hn.b.1 hn.b.2
    rw [mdo_wide h29, mdo_wide h29]
    refine ⟨rfl, rfl, fun k hk _ _ _ => ?_⟩
    unfold makes makesOf at hk
    rw [if_neg h2, if_pos h29] at hk
    simp only [mget_mset, mset_len, hal, hcl, ha, hb]
    have h1 := hn.d
    have h3 := hn.e
    simp only [List.mem_cons, List.not_mem_nil, or_false] at hk
    by_cases hkb : k = i.e
    · rw [if_pos (by omega), if_pos (by omega)]
    · rw [if_neg (by omega), if_pos (by omega), if_neg (by omega), if_pos (by omega)]
  by_cases hr : i.op < 1 ∨ i.op = 28 ∨ 29 < i.op
  · rw [mdo_none hr, mdo_none hr]
    refine ⟨rfl, rfl, fun k hk _ h28 h30 => ?_⟩
    exfalso
    unfold makes makesOf at hk
    rw [if_neg h2, if_neg h29, if_pos (by omega)] at hk
    simp at hk
  · obtain ⟨⟨v, ok, m'⟩, hv⟩ : ∃ x, mval i.op (mget a i.a) (mget a i.b) (mget a i.c) i.imm m = x := ⟨_, rfl⟩
    have hv2 := (mval_same hn h h2 h29 hr).trans hv
    rw [mdo_of h2 h29 hr hv, mdo_of h2 h29 hr hv2]
    cases ok with
    | false => exact ⟨rfl, rfl, fun k _ hk => by simp at hk⟩
    | true =>
      refine ⟨rfl, rfl, fun k hk _ _ _ => ?_⟩
      obtain ⟨hm, rfl⟩ := makes_mem hk h2 h29
      rw [if_pos rfl, if_pos rfl, hm]
      show mget (mset a i.d v) i.d = mget (mset c i.d v) i.d
      have h1 := hn.d
      rw [mget_mset, mget_mset, hal, hcl, if_pos (by omega), if_pos (by omega)]
/-- What is not made stays. -/
theorem touch_keep {i : Mach List} {a m : List Int} {k : Int} (h : k ∉ makes i ∨ (mdo i a m).1.2 = false) : mget (mdo i a m).2.1 k = mget a k := by
  by_cases h2 : i.op = 2
  · rw [mdo_swap h2] at h ⊢
    simp only [Bool.true_eq_false, or_false] at h
    unfold makes makesOf at h
    rw [if_pos h2] at h
    simp only [List.mem_cons, List.not_mem_nil, or_false, not_or] at h
    rw [mget_mset, mget_mset, if_neg (by omega), if_neg (by omega)]
  by_cases h29 : i.op = 29
  · rw [mdo_wide h29] at h ⊢
    simp only [Bool.true_eq_false, or_false] at h
    unfold makes makesOf at h
    rw [if_neg h2, if_pos h29] at h
    simp only [List.mem_cons, List.not_mem_nil, or_false, not_or] at h
    rw [mget_mset, mget_mset, if_neg (by omega), if_neg (by omega)]
  by_cases hr : i.op < 1 ∨ i.op = 28 ∨ 29 < i.op
  · rw [mdo_none hr]
  · obtain ⟨⟨v, ok, m'⟩, hv⟩ : ∃ x, mval i.op (mget a i.a) (mget a i.b) (mget a i.c) i.imm m = x := ⟨_, rfl⟩
    rw [mdo_of h2 h29 hr hv] at h ⊢
    cases ok with
    | false => rfl
    | true =>
      rw [if_pos rfl] at h ⊢
      simp only [Bool.true_eq_false, or_false] at h
      rcases makes_two i h2 h29 with hm | hm
      · rw [hm] at h ⊢
        show mget (mset a i.d v) k = _
        simp at h
        rw [mget_mset, if_neg (by omega)]
      · rw [hm]; rfl
theorem wdo_div (op a b : Int) (h : 2 ≤ op) (h2 : op ≤ 14) (hn : wdo op a b = none) : op = 14 := by
  unfold wdo at hn
  by_cases h0 : op = 14
  · exact h0
  exfalso
  by_cases e2 : op = 2
  · rw [if_pos e2] at hn; simp at hn
  rw [if_neg e2] at hn
  by_cases e3 : op = 3
  · rw [if_pos e3] at hn; simp at hn
  rw [if_neg e3] at hn
  by_cases e4 : op = 4
  · rw [if_pos e4] at hn; simp at hn
  rw [if_neg e4] at hn
  by_cases e5 : op = 5
  · rw [if_pos e5] at hn; simp at hn
  rw [if_neg e5] at hn
  by_cases e6 : op = 6
  · rw [if_pos e6] at hn; simp at hn
  rw [if_neg e6] at hn
  by_cases e7 : op = 7
  · rw [if_pos e7] at hn; simp at hn
  rw [if_neg e7] at hn
  by_cases e8 : op = 8
  · rw [if_pos e8] at hn; simp at hn
  rw [if_neg e8] at hn
  by_cases e9 : op = 9
  · rw [if_pos e9] at hn; simp at hn
  rw [if_neg e9] at hn
  by_cases e10 : op = 10
  · rw [if_pos e10] at hn; simp at hn
  rw [if_neg e10] at hn
  by_cases e11 : op = 11
  · rw [if_pos e11] at hn; simp at hn
  rw [if_neg e11] at hn
  by_cases e12 : op = 12
  · rw [if_pos e12] at hn; simp at hn
  rw [if_neg e12] at hn
  by_cases e13 : op = 13
  · rw [if_pos e13] at hn; simp at hn
  rw [if_neg e13] at hn
  omega
theorem mset_out {l : List Int} {r v : Int} (h : ldOk l r = false) : mset l r v = l := by
  unfold ldOk at h
  have := of_decide_eq_false h
  rw [mset, if_neg (by omega)]
/-- One that traps changes no memory, and is a division, a load or a store. -/
theorem touch_trap {i : Mach List} {a m : List Int} (h : (mdo i a m).1.2 = false) :
    (mdo i a m).2.2 = m ∧ (((mdo i a m).1.1 = -1 ∧ i.op = 17) ∨ ((mdo i a m).1.1 = -2 ∧ 24 ≤ i.op ∧ i.op ≤ 27)) := by
  by_cases h2 : i.op = 2
  · rw [mdo_swap h2] at h; simp at h
  by_cases h29 : i.op = 29
  · rw [mdo_wide h29] at h; simp at h
  by_cases hr : i.op < 1 ∨ i.op = 28 ∨ 29 < i.op
  · rw [mdo_none hr] at h; simp at h
  obtain ⟨⟨v, ok, m'⟩, hv⟩ : ∃ x, mval i.op (mget a i.a) (mget a i.b) (mget a i.c) i.imm m = x := ⟨_, rfl⟩
  rw [mdo_of h2 h29 hr hv] at h ⊢
  cases ok with
  | true => simp at h
  | false =>
    rw [if_neg (by simp)]
    show m' = m ∧ _
    unfold mval at hv
    by_cases e1 : i.op = 1
    · rw [if_pos e1] at hv; simp at hv
    rw [if_neg e1] at hv
    by_cases e3 : i.op = 3 ∨ i.op = 4
    · rw [if_pos e3] at hv; simp at hv
    rw [if_neg e3] at hv
    by_cases e5 : 5 ≤ i.op ∧ i.op ≤ 17
    · rw [if_pos e5] at hv
      simp only [Prod.mk.injEq] at hv
      refine ⟨hv.2.2.symm, Or.inl ⟨by rw [if_pos e5], ?_⟩⟩
      have hn : wdo (i.op - 5 + 2) (mget a i.a) (mget a i.b) = none := by
        cases hw : wdo (i.op - 5 + 2) (mget a i.a) (mget a i.b) with
        | none => rfl
        | some x => rw [hw] at hv; simp at hv
      have := wdo_div _ _ _ (by omega) (by omega) hn
      omega
    rw [if_neg e5] at hv
    by_cases e18 : 18 ≤ i.op ∧ i.op ≤ 22
    · rw [if_pos e18] at hv; simp at hv
    rw [if_neg e18] at hv
    by_cases e23 : i.op = 23
    · rw [if_pos e23] at hv; simp at hv
    rw [if_neg e23] at hv
    refine ⟨?_, Or.inr ⟨by rw [if_neg e5], by omega, by omega⟩⟩
    split at hv
    · simp only [Prod.mk.injEq] at hv; exact hv.2.2.symm
    split at hv
    · simp only [Prod.mk.injEq] at hv; exact hv.2.2.symm
    split at hv
    · simp only [Prod.mk.injEq] at hv; rw [← hv.2.2]; exact mset_out hv.2.1
    · simp only [Prod.mk.injEq] at hv; rw [← hv.2.2]; exact mset_out hv.2.1
end Jq
