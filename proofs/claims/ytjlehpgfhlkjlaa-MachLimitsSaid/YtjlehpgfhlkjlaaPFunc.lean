/-
  mach.Func's answer in 'rest of the answer' form.
-/
import Derived.Test.YtjlehpgfhlkjlaaPGraph
set_option linter.all false
namespace Jq
theorem drop_at {α : Type} (l : List α) (i : Nat) (x : α) (hx : l[i]? = some x) : l.drop i = x :: l.drop (i + 1) := by
  obtain ⟨h, rfl⟩ := List.getElem?_eq_some_iff.1 hx
  exact List.drop_eq_getElem_cons h
theorem take_at {α : Type} (l : List α) (i : Nat) (x : α) (hx : l[i]? = some x) : l.take i ++ [x] = l.take (i + 1) := by
  obtain ⟨h, rfl⟩ := List.getElem?_eq_some_iff.1 hx
  simp
theorem phisErr_no (l : List (Phi List)) (i : Nat) (x : Phi List) (hx : l[i]? = some x) (hp : phisErr i (l.take i) (l.drop i) = phisErr 0 [] l) (hf : phiErr x (l.take i) ≠ 0) : phisErr 0 [] l = some (phiErr x (l.take i), -1 - (i : Int)) := by
  rw [← hp, drop_at l i x hx, phisErr, if_neg hf]
theorem phisErr_yes (l : List (Phi List)) (i : Nat) (x : Phi List) (hx : l[i]? = some x) (hp : phisErr i (l.take i) (l.drop i) = phisErr 0 [] l) (hf : phiErr x (l.take i) = 0) : phisErr (i + 1) (l.take (i + 1)) (l.drop (i + 1)) = phisErr 0 [] l := by
  rw [← hp, drop_at l i x hx, phisErr, if_pos hf, take_at l i x hx]
theorem phisErr_end (l : List (Phi List)) (i : Nat) (h : l.length ≤ i) (hp : phisErr i (l.take i) (l.drop i) = phisErr 0 [] l) : phisErr 0 [] l = none := by
  rw [← hp, List.drop_eq_nil_of_le h, phisErr]
theorem inssErr_no (l : List (Mach List)) (i : Nat) (x : Mach List) (hx : l[i]? = some x) (hp : inssErr i (l.drop i) = inssErr 0 l) (hf : insErr x ≠ 0) : inssErr 0 l = some (insErr x, (i : Int)) := by
  rw [← hp, drop_at l i x hx, inssErr, if_neg hf]
theorem inssErr_yes (l : List (Mach List)) (i : Nat) (x : Mach List) (hx : l[i]? = some x) (hp : inssErr i (l.drop i) = inssErr 0 l) (hf : insErr x = 0) : inssErr (i + 1) (l.drop (i + 1)) = inssErr 0 l := by
  rw [← hp, drop_at l i x hx, inssErr, if_pos hf]
theorem inssErr_end (l : List (Mach List)) (i : Nat) (h : l.length ≤ i) (hp : inssErr i (l.drop i) = inssErr 0 l) : inssErr 0 l = none := by
  rw [← hp, List.drop_eq_nil_of_le h, inssErr]
theorem blockErr_phi (n : Int) (x : MBlock List) (r : Int × Int) (h : phisErr 0 [] x.phis = some r) : blockErr n x = some r := by rw [blockErr, h]
theorem blockErr_ins (n : Int) (x : MBlock List) (r : Int × Int) (h : phisErr 0 [] x.phis = none) (h2 : inssErr 0 x.ins = some r) : blockErr n x = some r := by rw [blockErr, h]; simp only []; rw [h2]
theorem blockErr_end (n : Int) (x : MBlock List) (h : phisErr 0 [] x.phis = none) (h2 : inssErr 0 x.ins = none) (h3 : endErr x.fin n ≠ 0) : blockErr n x = some (endErr x.fin n, (x.ins.length : Int)) := by rw [blockErr, h]; simp only []; rw [h2]; simp only []; rw [if_neg h3]
theorem blockErr_none (n : Int) (x : MBlock List) (h : phisErr 0 [] x.phis = none) (h2 : inssErr 0 x.ins = none) (h3 : endErr x.fin n = 0) : blockErr n x = none := by rw [blockErr, h]; simp only []; rw [h2]; simp only []; rw [if_pos h3]
theorem blocksErr_no (n : Int) (l : List (MBlock List)) (b : Nat) (x : MBlock List) (hx : l[b]? = some x) (hp : blocksErr n b (l.drop b) = blocksErr n 0 l) (r : Int × Int) (h : blockErr n x = some r) : blocksErr n 0 l = some (r.1, (b : Int), r.2) := by
  rw [← hp, drop_at l b x hx, blocksErr, h]
theorem blocksErr_yes (n : Int) (l : List (MBlock List)) (b : Nat) (x : MBlock List) (hx : l[b]? = some x) (hp : blocksErr n b (l.drop b) = blocksErr n 0 l) (h : blockErr n x = none) : blocksErr n (b + 1) (l.drop (b + 1)) = blocksErr n 0 l := by
  rw [← hp, drop_at l b x hx, blocksErr, h]
theorem blocksErr_end (n : Int) (l : List (MBlock List)) (b : Nat) (h : l.length ≤ b) (hp : blocksErr n b (l.drop b) = blocksErr n 0 l) : blocksErr n 0 l = none := by
  rw [← hp, List.drop_eq_nil_of_le h, blocksErr]
theorem blockErr_to {n : Int} {x : MBlock List} (h : blockErr n x = none) : endErr x.fin n = 0 := by
  unfold blockErr at h
  split at h
  · exact absurd h (by simp)
  · split at h
    · exact absurd h (by simp)
    · split at h
      · assumption
      · exact absurd h (by simp)
theorem blocksErr_ok {n : Int} : ∀ (l : List (MBlock List)) (b : Nat), blocksErr n b l = none → ∀ x, x ∈ l → blockErr n x = none
  | [], _, _, x, hx => absurd hx (by simp)
  | y :: l, b, h, x, hx => by
    unfold blocksErr at h
    split at h
    · exact absurd h (by simp)
    · rename_i hy
      rcases List.mem_cons.1 hx with rfl | hx
      · exact hy
      · exact blocksErr_ok l (b + 1) h x hx
theorem endErr_to {x : End List} {n : Int} (h : endErr x n = 0) : ∀ t, t ∈ x.to → 1 ≤ t ∧ t < n := by
  intro t ht
  unfold endErr at h
  split at h
  · exact absurd h (by decide)
  · split at h
    · exact absurd h (by decide)
    · split at h
      · exact absurd h (by decide)
      · rename_i h3
        by_cases hc : t < 1 ∨ n ≤ t
        · exact absurd (List.any_eq_true.2 ⟨t, ht, by simpa using hc⟩) h3
        · omega
theorem funcErr_graph (m : MFunc List) (h1 : ¬ (m.params < 0 ∨ 4 < m.params)) (h2 : ¬ m.blocks.length = 0) (h3 : ¬ (512 < m.blocks.length ∨ 16384 < sizeOf_ m.blocks)) (h4 : blocksErr m.blocks.length 0 m.blocks = none) : funcErr m = graphErr m := by
  rw [funcErr, if_neg h1, if_neg h2, if_neg h3, h4]
theorem funcErr_block (m : MFunc List) (h1 : ¬ (m.params < 0 ∨ 4 < m.params)) (h2 : ¬ m.blocks.length = 0) (h3 : ¬ (512 < m.blocks.length ∨ 16384 < sizeOf_ m.blocks)) (r : Int × Int × Int) (h4 : blocksErr m.blocks.length 0 m.blocks = some r) : funcErr m = r := by
  rw [funcErr, if_neg h1, if_neg h2, if_neg h3, h4]
theorem sizeOf_at (l : List (MBlock List)) (k : Nat) (x : MBlock List) (hx : l[k]? = some x) : sizeOf_ (l.drop k) = x.phis.length + x.ins.length + 1 + sizeOf_ (l.drop (k + 1)) := by
  rw [drop_at l k x hx]; simp [sizeOf_]
theorem sizeOf_ge (l : List (MBlock List)) : 0 ≤ sizeOf_ l := by
  induction l with
  | nil => simp [sizeOf_]
  | cons x l ih => simp only [sizeOf_, List.map_cons, List.sum_cons] at ih ⊢; omega
theorem sizeOf_le (l : List (MBlock List)) (h : ∀ x, x ∈ l → x.phis.length ≤ 140737488355328 ∧ x.ins.length ≤ 140737488355328) : sizeOf_ l ≤ l.length * 281474976710657 := by
  induction l with
  | nil => simp [sizeOf_]
  | cons x l ih =>
    have h1 := h x List.mem_cons_self
    have h2 := ih fun y hy => h y (List.mem_cons_of_mem _ hy)
    simp only [sizeOf_, List.map_cons, List.sum_cons, List.length_cons] at h2 ⊢
    push_cast
    omega
end Jq
