/-
  What right code is: plain facts.
-/
import Derived.Test.YtjlehpgfhlkjlaaPFunc
set_option linter.all false
namespace Jq
theorem badReg_not {r : Int} (h : badReg r = false) : 0 ≤ r ∧ r < 8192 := by
  unfold badReg at h
  have := of_decide_eq_false h
  omega
theorem any_bad {l : List Int} (h : ¬ l.any badReg = true) {r : Int} (hr : r ∈ l) : 0 ≤ r ∧ r < 8192 := by
  refine badReg_not ?_
  cases hb : badReg r with
  | false => rfl
  | true => exact absurd (List.any_eq_true.2 ⟨r, hr, hb⟩) h
/-! ### Predecessors -/
theorem addTo_len (b : Int) : ∀ (l : List Int) (ps : List (List Int)), (addTo b l ps).length = ps.length
  | [], _ => rfl
  | t :: l, ps => by rw [addTo, addTo_len b l]; split <;> simp
theorem addTo_mono (b x : Int) (k : Nat) : ∀ (l : List Int) (ps : List (List Int)), x ∈ ps.getD k [] → x ∈ (addTo b l ps).getD k []
  | [], _, h => h
  | t :: l, ps, h => by
    rw [addTo]
    refine addTo_mono b x k l _ ?_
    split
    · exact h
    · by_cases hk : t.toNat = k
      · subst hk
        by_cases hl : t.toNat < ps.length
        · simp only [List.getD_eq_getElem?_getD, List.getElem?_set_self hl, Option.getD_some] at h ⊢
          exact List.mem_append_left _ h
        · rw [List.set_eq_of_length_le (by omega)]; exact h
      · simpa only [List.getD_eq_getElem?_getD, List.getElem?_set_ne hk] using h
theorem addTo_hit (b : Int) (t : Int) : ∀ (l : List Int) (ps : List (List Int)), t ∈ l → t.toNat < ps.length → b ∈ (addTo b l ps).getD t.toNat []
  | [], _, h, _ => absurd h (by simp)
  | u :: l, ps, h, hl => by
    rw [addTo]
    rcases List.mem_cons.1 h with rfl | h
    · refine addTo_mono b b _ l _ ?_
      split
      · rename_i hc; simpa using hc
      · simp [List.getD_eq_getElem?_getD, hl]
    · exact addTo_hit b t l _ h (by split <;> simpa using hl)
theorem predsFrom_mono (x : Int) (k : Nat) : ∀ (tos : List (List Int)) (b : Nat) (ps : List (List Int)), x ∈ ps.getD k [] → x ∈ (predsFrom b tos ps).getD k []
  | [], _, _, h => h
  | ts :: tos, b, ps, h => by rw [predsFrom]; exact predsFrom_mono x k tos (b + 1) _ (addTo_mono _ x k ts ps h)
theorem predsFrom_hit (t : Int) : ∀ (tos : List (List Int)) (b : Nat) (ps : List (List Int)) (j : Nat) (ts : List Int), tos[j]? = some ts → t ∈ ts → t.toNat < ps.length → ((b + j : Nat) : Int) ∈ (predsFrom b tos ps).getD t.toNat []
  | [], _, _, _, _, h, _, _ => absurd h (by simp)
  | us :: tos, b, ps, 0, ts, h, ht, hl => by
    simp at h
    subst h
    rw [predsFrom]
    exact predsFrom_mono _ _ tos _ _ (addTo_hit _ t us ps ht hl)
  | us :: tos, b, ps, j + 1, ts, h, ht, hl => by
    rw [predsFrom, show b + (j + 1) = b + 1 + j by omega]
    exact predsFrom_hit t tos (b + 1) _ j ts (by simpa using h) ht (by rw [addTo_len]; exact hl)
theorem preds_hit (m : MFunc List) (fr : Nat) (y : MBlock List) (hy : m.blocks[fr]? = some y) (t : Int) (ht : t ∈ y.fin.to) (hl : t.toNat < m.blocks.length) : (fr : Int) ∈ (predsOf m).getD t.toNat [] := by
  have h := predsFrom_hit t (tosOf m) 0 (List.replicate m.blocks.length []) fr y.fin.to (by simp [tosOf, hy]) ht (by simpa using hl)
  simpa [predsOf] using h
/-! ### Nothing wrong -/
theorem phisErr_ok : ∀ (l ahead : List (Phi List)) (i : Nat), phisErr i ahead l = none → ∀ p, p ∈ l → badReg p.dst = false ∧ ∀ x, x ∈ p.ins → badReg x.val = false
  | [], _, _, _, p, hp => absurd hp (by simp)
  | q :: l, ahead, i, h, p, hp => by
    rw [phisErr] at h
    split at h
    · rename_i h0
      rcases List.mem_cons.1 hp with rfl | hp
      · unfold phiErr at h0
        split at h0
        · exact absurd h0 (by decide)
        · rename_i h1
          refine ⟨?_, fun x hx => ?_⟩
          · cases hb : badReg p.dst with
            | false => rfl
            | true => exact absurd (Or.inl hb) h1
          · cases hb : badReg x.val with
            | false => rfl
            | true => exact absurd (Or.inr (List.any_eq_true.2 ⟨x, hx, hb⟩)) h1
      · exact phisErr_ok l _ _ h p hp
    · exact absurd h (by simp)
theorem inssErr_ok : ∀ (l : List (Mach List)) (i : Nat), inssErr i l = none → ∀ x, x ∈ l → insErr x = 0
  | [], _, _, x, hx => absurd hx (by simp)
  | y :: l, i, h, x, hx => by
    rw [inssErr] at h
    split at h
    · rename_i h0
      rcases List.mem_cons.1 hx with rfl | hx
      · exact h0
      · exact inssErr_ok l _ h x hx
    · exact absurd h (by simp)
theorem insErr_call {i : Mach List} (h : insErr i = 0) (h28 : i.op = 28) : (∀ r, r ∈ i.args → 0 ≤ r ∧ r < 8192) ∧ (0 ≤ i.d ∧ i.d < 8192) ∧ i.args.length ≤ 4 := by
  unfold insErr at h
  split at h
  · exact absurd h (by decide)
  · rename_i h1
    split at h
    · exact absurd h (by decide)
    · rename_i h2
      rw [not_or] at h2
      have hm : makes i = [i.d] := by
        unfold makes makesOf
        rw [if_neg (by omega), if_neg (by omega), if_neg (by omega)]
      have ht : takes i = i.args := by
        unfold takes takesOf
        rw [if_neg (by omega), if_neg (by omega), if_neg (by omega), if_pos h28]
      rw [hm, ht] at h2
      exact ⟨fun r hr => any_bad h2.2 hr, any_bad h2.1 (by simp), by omega⟩
theorem badPhi_ok (b : Nat) (preds : List Int) : ∀ (l : List (Phi List)) (i : Nat), badPhi b preds i l = none → ∀ p, p ∈ l → phiFits b preds p = true
  | [], _, _, p, hp => absurd hp (by simp)
  | q :: l, i, h, p, hp => by
    rw [badPhi] at h
    split at h
    · rename_i h0
      rcases List.mem_cons.1 hp with rfl | hp
      · exact h0
      · exact badPhi_ok b preds l _ h p hp
    · exact absurd h (by simp)
theorem badPhis_ok (preds : List (List Int)) : ∀ (l : List (MBlock List)) (b : Nat), badPhis preds b l = none → ∀ k x, l[k]? = some x → badPhi (b + k) (preds.getD (b + k) []) 0 x.phis = none
  | [], _, _, k, x, h => absurd h (by simp)
  | y :: l, b, h, k, x, hx => by
    rw [badPhis] at h
    split at h
    · exact absurd h (by simp)
    · rename_i h0
      cases k with
      | zero => simp at hx; subst hx; exact h0
      | succ k =>
        have := badPhis_ok preds l (b + 1) h k x (by simpa using hx)
        rwa [show b + 1 + k = b + (k + 1) by omega] at this
theorem phisErr_ne : ∀ (l ahead : List (Phi List)) (i : Nat) (r : Int × Int), phisErr i ahead l = some r → r.1 ≠ 0
  | [], _, _, _, h => absurd h (by simp [phisErr])
  | p :: l, ahead, i, r, h => by
    rw [phisErr] at h
    split at h
    · exact phisErr_ne l _ _ r h
    · rename_i h0; simp at h; subst h; exact h0
theorem inssErr_ne : ∀ (l : List (Mach List)) (i : Nat) (r : Int × Int), inssErr i l = some r → r.1 ≠ 0
  | [], _, _, h => absurd h (by simp [inssErr])
  | p :: l, i, r, h => by
    rw [inssErr] at h
    split at h
    · exact inssErr_ne l _ r h
    · rename_i h0; simp at h; subst h; exact h0
theorem blockErr_ne {n : Int} {x : MBlock List} {r : Int × Int} (h : blockErr n x = some r) : r.1 ≠ 0 := by
  unfold blockErr at h
  split at h
  · rename_i r' h'; simp at h; subst h; exact phisErr_ne _ _ _ _ h'
  · split at h
    · rename_i r' h'; simp at h; subst h; exact inssErr_ne _ _ _ h'
    · split at h
      · exact absurd h (by simp)
      · rename_i h0; simp at h; subst h; exact h0
theorem blocksErr_ne {n : Int} : ∀ (l : List (MBlock List)) (b : Nat) (r : Int × Int × Int), blocksErr n b l = some r → r.1 ≠ 0
  | [], _, _, h => absurd h (by simp [blocksErr])
  | x :: l, b, r, h => by
    rw [blocksErr] at h
    split at h
    · rename_i e p h'; simp at h; subst h; exact blockErr_ne h'
    · exact blocksErr_ne l _ r h
/-- A block of right code. -/
structure BlockOk (m : MFunc List) (k : Nat) (x : MBlock List) : Prop where
  small : (x.phis.length : Int) + x.ins.length + 1 ≤ 16384
  first : k = 0 → x.phis = []
  call : ∀ i, i ∈ x.ins → i.op = 28 → (∀ r, r ∈ i.args → 0 ≤ r ∧ r < 8192) ∧ (0 ≤ i.d ∧ i.d < 8192) ∧ i.args.length ≤ 4
  ends : toOk x.fin.op x.fin.to.length = true
  to : ∀ t, t ∈ x.fin.to → 1 ≤ t ∧ t < (m.blocks.length : Int)
  phi : ∀ p, p ∈ x.phis → (0 ≤ p.dst ∧ p.dst < 8192) ∧ (∀ y, y ∈ p.ins → 0 ≤ y.val ∧ y.val < 8192) ∧ p.ins.map (·.from_) = (predsOf m).getD k []
structure FuncOk (m : MFunc List) : Prop where
  params : 0 ≤ m.params ∧ m.params ≤ 4
  one : 0 < m.blocks.length
  few : m.blocks.length ≤ 512
  block : ∀ k x, m.blocks[k]? = some x → BlockOk m k x
theorem sizeOf_mem {l : List (MBlock List)} {x : MBlock List} (h : x ∈ l) : (x.phis.length : Int) + x.ins.length + 1 ≤ sizeOf_ l := by
  induction l with
  | nil => simp at h
  | cons y l ih =>
    have h0 := sizeOf_ge l
    simp only [sizeOf_, List.map_cons, List.sum_cons] at h0 ⊢
    rcases List.mem_cons.1 h with rfl | h
    · omega
    · have := ih h
      simp only [sizeOf_] at this
      omega
theorem funcOk {m : MFunc List} (h : (funcErr m).1 = 0) : FuncOk m := by
  unfold funcErr at h
  split at h
  · exact absurd h (by decide)
  rename_i h1
  split at h
  · exact absurd h (by decide)
  rename_i h2
  split at h
  · exact absurd h (by decide)
  rename_i h3
  split at h
  · rename_i r h4; exact absurd h (blocksErr_ne _ _ _ h4)
  rename_i h4
  unfold graphErr at h
  simp only [] at h
  split at h
  · exact absurd h (by simp)
  split at h
  · exact absurd h (by simp)
  rename_i h5 _ h6
  refine ⟨by omega, by omega, by omega, fun k x hx => ?_⟩
  have hmem : x ∈ m.blocks := List.mem_of_getElem? hx
  have hb := blocksErr_ok _ _ h4 x hmem
  have hph := badPhis_ok _ _ _ h6 k x hx
  rw [Nat.zero_add] at hph
  have hpe : phisErr 0 [] x.phis = none := by
    cases hp : phisErr 0 [] x.phis with
    | none => rfl
    | some r => rw [blockErr, hp] at hb; exact absurd hb (by simp)
  have hie : inssErr 0 x.ins = none := by
    cases hp : inssErr 0 x.ins with
    | none => rfl
    | some r => rw [blockErr, hpe] at hb; simp only [] at hb; rw [hp] at hb; exact absurd hb (by simp)
  have hee := blockErr_to hb
  refine ⟨?_, fun hk => ?_, fun i hi h28 => insErr_call (inssErr_ok _ _ hie i hi) h28, ?_, endErr_to hee, fun p hp => ?_⟩
  · have := sizeOf_mem hmem; omega
  · cases hp : x.phis with
    | nil => rfl
    | cons p l =>
      have := badPhi_ok _ _ _ _ hph p (by rw [hp]; simp)
      rw [hk] at this
      simp [phiFits] at this
  · unfold endErr at hee
    split at hee
    · exact absurd hee (by decide)
    · rename_i h; simpa using h
  · have h1 := phisErr_ok _ _ _ hpe p hp
    have h2 := badPhi_ok _ _ _ _ hph p hp
    refine ⟨badReg_not h1.1, fun y hy => badReg_not (h1.2 y hy), ?_⟩
    unfold phiFits at h2
    simp only [Bool.and_eq_true, beq_iff_eq] at h2
    exact h2.2
end Jq
