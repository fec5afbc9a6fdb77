/-
  How machine code runs: plain.
-/
import Derived.Test.YtjlehpgfhlkjlaaPRun
import Derived.Test.YtjlehpgfhlkjlaaPhis
import Derived.Test.YtjlehpgfhlkjlaaGoes
import Derived.Test.YtjlehpgfhlkjlaaPOk
set_option linter.all false
namespace Jq
structure RS where
  regs : List Int
  mem : List Int
  answers : List Int
  calls : List (Event List)
  steps : Int
def RS.step (s : RS) : RS := { s with steps := s.steps + 1 }
/-- A call: an event, and its answer. -/
def callIns (i : Mach List) (s : RS) : RS :=
  { s with calls := s.calls ++ [⟨i.imm, i.args.map (mget s.regs)⟩]
           regs := match s.answers with | [] => mset s.regs i.d 0 | a :: _ => mset (mset s.regs i.d 0) i.d a
           answers := s.answers.tail }
def doIns (i : Mach List) (s : RS) : RS := { s with regs := (mdo i s.regs s.mem).2.1, mem := (mdo i s.regs s.mem).2.2 }
/-- A block's instructions: the state behind them, and how it ended, where it did. -/
def insRun (lim : Int) : List (Mach List) → RS → RS × Option (Int × Int)
  | [], s => (s, none)
  | i :: is, s =>
    if lim ≤ s.steps then (s, some (3, 0)) else
    if i.op = 28 then insRun lim is (callIns i s.step) else
    if (mdo i s.regs s.mem).1.2 = true then insRun lim is (doIns i s.step) else (doIns i s.step, some (2, (mdo i s.regs s.mem).1.1))
theorem insRun_out {lim : Int} {i : Mach List} {is : List (Mach List)} {s : RS} (h : lim ≤ s.steps) : insRun lim (i :: is) s = (s, some (3, 0)) := by rw [insRun, if_pos h]
theorem insRun_call {lim : Int} {i : Mach List} {is : List (Mach List)} {s : RS} (h : s.steps < lim) (h28 : i.op = 28) : insRun lim (i :: is) s = insRun lim is (callIns i s.step) := by rw [insRun, if_neg (by omega), if_pos h28]
theorem insRun_go {lim : Int} {i : Mach List} {is : List (Mach List)} {s : RS} (h : s.steps < lim) (h28 : i.op ≠ 28) (ho : (mdo i s.regs s.mem).1.2 = true) : insRun lim (i :: is) s = insRun lim is (doIns i s.step) := by rw [insRun, if_neg (by omega), if_neg h28, if_pos ho]
theorem insRun_trap {lim : Int} {i : Mach List} {is : List (Mach List)} {s : RS} (h : s.steps < lim) (h28 : i.op ≠ 28) (ho : (mdo i s.regs s.mem).1.2 = false) : insRun lim (i :: is) s = (doIns i s.step, some (2, (mdo i s.regs s.mem).1.1)) := by rw [insRun, if_neg (by omega), if_neg h28, if_neg (by rw [ho]; simp)]
theorem insRun_steps (lim : Int) : ∀ (l : List (Mach List)) (s : RS), s.steps ≤ (insRun lim l s).1.steps
  | [], s => Int.le_refl _
  | i :: is, s => by
    rw [insRun]
    split
    · exact Int.le_refl _
    split
    · exact Int.le_trans (by show s.steps ≤ s.steps + 1; omega) (insRun_steps lim is _)
    split
    · exact Int.le_trans (by show s.steps ≤ s.steps + 1; omega) (insRun_steps lim is _)
    · show s.steps ≤ s.steps + 1; omega
/-- Behind a block's phis. -/
def RS.phi (s : RS) (b : MBlock List) (fr : Int) : RS := { s with regs := phisDo b.phis fr s.regs }
/-- From a block on, by so many blocks at most. -/
def runAt (m : MFunc List) (lim : Int) : Nat → Nat → Int → RS → RS × Int × Int
  | 0, _, _, s => (s, 3, 0)
  | n + 1, at_, fr, s =>
    match m.blocks[at_]? with
    | none => (s, 3, 0)
    | some b =>
      match insRun lim b.ins (s.phi b fr) with
      | (s1, some x) => (s1, x)
      | (s1, none) =>
        if lim ≤ s1.steps then (s1, 3, 0) else
        if b.fin.op = 7 then (s1.step, 1, mget s1.regs b.fin.a) else
        if b.fin.op = 8 then (s1.step, 2, b.fin.imm) else
        runAt m lim n (b.fin.to.getD (goesOf b.fin s1.regs).toNat 0).toNat at_ s1.step
section
variable {m : MFunc List} {lim : Int} {n at_ : Nat} {fr : Int} {s s1 : RS} {b : MBlock List}
theorem runAt_stop (hb : m.blocks[at_]? = some b) {x : Int × Int} (h : insRun lim b.ins (s.phi b fr) = (s1, some x)) : runAt m lim (n + 1) at_ fr s = (s1, x) := by rw [runAt, hb]; simp only []; rw [h]
theorem runAt_out (hb : m.blocks[at_]? = some b) (h : insRun lim b.ins (s.phi b fr) = (s1, none)) (hl : lim ≤ s1.steps) : runAt m lim (n + 1) at_ fr s = (s1, 3, 0) := by rw [runAt, hb]; simp only []; rw [h]; simp only []; rw [if_pos hl]
theorem runAt_ret (hb : m.blocks[at_]? = some b) (h : insRun lim b.ins (s.phi b fr) = (s1, none)) (hl : s1.steps < lim) (h7 : b.fin.op = 7) : runAt m lim (n + 1) at_ fr s = (s1.step, 1, mget s1.regs b.fin.a) := by rw [runAt, hb]; simp only []; rw [h]; simp only []; rw [if_neg (by omega), if_pos h7]
theorem runAt_trap (hb : m.blocks[at_]? = some b) (h : insRun lim b.ins (s.phi b fr) = (s1, none)) (hl : s1.steps < lim) (h8 : b.fin.op = 8) : runAt m lim (n + 1) at_ fr s = (s1.step, 2, b.fin.imm) := by rw [runAt, hb]; simp only []; rw [h]; simp only []; rw [if_neg (by omega), if_neg (by omega), if_pos h8]
theorem runAt_go (hb : m.blocks[at_]? = some b) (h : insRun lim b.ins (s.phi b fr) = (s1, none)) (hl : s1.steps < lim) (h7 : b.fin.op ≠ 7) (h8 : b.fin.op ≠ 8) : runAt m lim (n + 1) at_ fr s = runAt m lim n (b.fin.to.getD (goesOf b.fin s1.regs).toNat 0).toNat at_ s1.step := by rw [runAt, hb]; simp only []; rw [h]; simp only []; rw [if_neg (by omega), if_neg h7, if_neg h8]
end
/-- The registers at the beginning. -/
def regs0 (params : Int) (args : List Int) : List Int := args.take params.toNat ++ List.replicate (8192 - (args.take params.toNat).length) 0
def rs0 (m : MFunc List) (x : Input List) : RS := ⟨regs0 m.params x.args, x.mem.take 4096, x.answers, [], 0⟩
def outOf (r : RS × Int × Int) : Outcome List := ⟨r.2.1, r.2.2, r.1.mem, r.1.calls, r.1.steps⟩
/-- mach.Run. -/
def mrun (m : MFunc List) (x : Input List) : Outcome List :=
  if (funcErr m).1 = 0 then outOf (runAt m x.steps (x.steps.toNat + 1) 0 (-1) (rs0 m x)) else ⟨4, 0, [], [], 0⟩
/-! ### What holds of right code as it runs -/
structure Came (m : MFunc List) (at_ : Nat) (fr : Int) : Prop where
  lt : at_ < m.blocks.length
  by_ : at_ = 0 ∨ ∃ (f : Nat) (y : MBlock List), fr = (f : Int) ∧ m.blocks[f]? = some y ∧ (at_ : Int) ∈ y.fin.to
theorem Came.phi {m : MFunc List} {at_ : Nat} {fr : Int} (h : Came m at_ fr) (hm : FuncOk m) {x : MBlock List} (hx : m.blocks[at_]? = some x) (n : Nat) (hn : n = 8192) : ∀ p, p ∈ x.phis → PhiOk fr n p := by
  subst hn
  intro p hp
  have hb := hm.block at_ x hx
  rcases h.by_ with h0 | ⟨f, y, rfl, hy, ht⟩
  · rw [hb.first h0] at hp; exact absurd hp (by simp)
  · obtain ⟨h1, h2, h3⟩ := hb.phi p hp
    have hin : (f : Int) ∈ p.ins.map (·.from_) := by
      rw [h3]
      have := preds_hit m f y hy _ ht (by rw [Int.toNat_natCast]; exact h.lt)
      rw [Int.toNat_natCast] at this
      exact this
    have hi : 0 ≤ phiIdx f p := by
      refine of_decide_eq_true ?_
      unfold phiIdx
      rw [idx_ge]
      obtain ⟨z, hz, hz2⟩ := List.mem_map.1 hin
      exact List.any_eq_true.2 ⟨z, hz, by rw [hz2]; exact beq_self_eq_true _⟩
    refine ⟨hi, ?_, h1.1, by have := h1.2; omega⟩
    have hl := idx_lt (fun y : In => y.from_ == (f : Int)) p.ins hi
    have hl2 : (phiIdx f p).toNat < p.ins.length := by show (idx _ _).toNat < _; have : 0 ≤ idx (fun y : In => y.from_ == (f : Int)) p.ins := hi; omega
    have : phiReg f p = (p.ins[(phiIdx f p).toNat]'hl2).val := by rw [phiReg, List.getD_eq_getElem?_getD, List.getElem?_eq_getElem hl2, Option.getD_some]
    rw [this]
    have h5 := h2 _ (List.getElem_mem hl2)
    exact ⟨h5.1, by have := h5.2; omega⟩
theorem goes_in (e : End List) (regs : List Int) (h : toOk e.op e.to.length = true) (h7 : e.op ≠ 7) (h8 : e.op ≠ 8) : 0 ≤ goesOf e regs ∧ goesOf e regs < (e.to.length : Int) := by
  unfold toOk at h
  unfold goesOf
  split at h
  · rename_i h1; have := of_decide_eq_true h; rw [if_pos h1]; omega
  rename_i h1
  rw [if_neg h1]
  split at h
  · rename_i h2
    have := of_decide_eq_true h
    by_cases e2 : e.op = 2
    · rw [if_pos e2]; split <;> omega
    rw [if_neg e2]
    by_cases e3 : e.op = 3
    · rw [if_pos e3]; split <;> omega
    rw [if_neg e3]
    by_cases e4 : e.op = 4
    · rw [if_pos e4]; split <;> omega
    rw [if_neg e4, if_pos (by omega)]
    split <;> omega
  rename_i h2
  split at h
  · rename_i h6
    have := of_decide_eq_true h
    rw [if_neg (by omega), if_neg (by omega), if_neg (by omega), if_neg (by omega), if_pos h6]
    split <;> omega
  · split at h
    · omega
    · exact absurd h (by simp)
theorem Came.next {m : MFunc List} {at_ : Nat} (hm : FuncOk m) {x : MBlock List} (hx : m.blocks[at_]? = some x) (regs : List Int) (h7 : x.fin.op ≠ 7) (h8 : x.fin.op ≠ 8) :
    ∃ (j : Nat) (hj : j < x.fin.to.length), goesOf x.fin regs = (j : Int) ∧ x.fin.to.getD (goesOf x.fin regs).toNat 0 = x.fin.to[j] ∧ 1 ≤ x.fin.to[j] ∧ Came m (x.fin.to[j]).toNat (at_ : Int) := by
  have hb := hm.block at_ x hx
  obtain ⟨h1, h2⟩ := goes_in x.fin regs hb.ends h7 h8
  have hj : (goesOf x.fin regs).toNat < x.fin.to.length := by omega
  have ht := hb.to _ (List.getElem_mem hj)
  refine ⟨(goesOf x.fin regs).toNat, hj, by omega, by simp [List.getD_eq_getElem?_getD, hj], ht.1, ⟨by omega, Or.inr ⟨at_, x, rfl, hx, ?_⟩⟩⟩
  rw [Int.toNat_of_nonneg (by omega)]
  exact List.getElem_mem hj
end Jq
