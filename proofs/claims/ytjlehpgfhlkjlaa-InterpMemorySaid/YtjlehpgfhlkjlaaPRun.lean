/-
  What machine code does: registers, memory, one instruction. Plain.
-/
import Derived.Test.YtjlehpgfhlkjlaaPMach
import Derived.Test.YtjlehpgfhlkjlaaOwn2
set_option linter.all false
namespace Jq
open Go Go.RowKit
def mget (l : List Int) (r : Int) : Int := if r < 0 ∨ (l.length : Int) ≤ r then 0 else l.getD r.toNat 0
def mset (l : List Int) (r v : Int) : List Int := if 0 ≤ r ∧ r < (l.length : Int) then l.set r.toNat v else l
@[simp] theorem mset_len (l : List Int) (r v : Int) : (mset l r v).length = l.length := by unfold mset; split <;> simp
def setAll (l : List Int) : List Int → Int → List Int
  | [], _ => l
  | r :: rs, v => setAll (mset l r v) rs v
@[simp] theorem setAll_len (rs : List Int) (v : Int) : ∀ l : List Int, (setAll l rs v).length = l.length := by
  induction rs with
  | nil => intro l; rfl
  | cons r rs ih => intro l; rw [setAll, ih, mset_len]
theorem setAll_at (l rs : List Int) (v : Int) (k : Nat) (hk : k < rs.length) : setAll l (rs.take (k + 1)) v = mset (setAll l (rs.take k) v) rs[k] v := by
  induction rs generalizing l k with
  | nil => simp at hk
  | cons r rs ih =>
    cases k with
    | zero => simp [setAll]
    | succ k => simp only [List.take_succ_cons, setAll, List.getElem_cons_succ]; exact ih (mset l r v) k (by simpa using hk)
/-- A word of memory: whether there is one. -/
def ldOk (mem : List Int) (a : Int) : Bool := decide (¬ (a < 0 ∨ (mem.length : Int) ≤ a))
def ldV (mem : List Int) (a : Int) : Int := if ldOk mem a then mem.getD a.toNat 0 else 0
/-- The word's operation of an instruction with a number. -/
def immOp (op : Int) : Int := if op = 18 then 2 else if op = 19 then 5 else if op = 20 then 8 else if op = 21 then 9 else 10
/-- What an instruction makes, whether it may, and the memory behind it. -/
def mval (op a b c imm : Int) (mem : List Int) : Int × Bool × List Int :=
  if op = 1 then (a, true, mem) else
  if op = 3 ∨ op = 4 then (imm, true, mem) else
  if 5 ≤ op ∧ op ≤ 17 then ((wdo (op - 5 + 2) a b).getD 0, (wdo (op - 5 + 2) a b).isSome, mem) else
  if 18 ≤ op ∧ op ≤ 22 then ((wdo (immOp op) a imm).getD 0, true, mem) else
  if op = 23 then (wrap32 (wrap32 (a * b) + c), true, mem) else
  if op = 24 then (ldV mem (wrap32 (a + imm)), ldOk mem (wrap32 (a + imm)), mem) else
  if op = 25 then (ldV mem (wrap32 (a + b)), ldOk mem (wrap32 (a + b)), mem) else
  if op = 26 then (a, ldOk mem (wrap32 (a + imm)), mset mem (wrap32 (a + imm)) b) else
  (a, ldOk mem (wrap32 (a + b)), mset mem (wrap32 (a + b)) c)
/-- mach.Do: what it answers, registers, memory. -/
def mdo (i : Mach List) (regs mem : List Int) : (Int × Bool) × List Int × List Int :=
  if i.op = 2 then ((0, true), mset (mset regs i.a (mget regs i.b)) i.b (mget regs i.a), mem) else
  if i.op = 29 then ((0, true), mset (mset regs i.d (wlo (mget regs i.a) (mget regs i.b))) i.e (whi (mget regs i.a) (mget regs i.b)), mem) else
  if i.op < 1 ∨ i.op = 28 ∨ 29 < i.op then ((0, true), regs, mem) else
  match mval i.op (mget regs i.a) (mget regs i.b) (mget regs i.c) i.imm mem with
  | (v, true, m) => ((0, true), setAll regs (makes i) v, m)
  | (_, false, m) => ((if 5 ≤ i.op ∧ i.op ≤ 17 then -1 else -2, false), regs, m)
theorem mdo_of {i : Mach List} {regs mem : List Int} {v : Int} {ok : Bool} {m : List Int} (h2 : i.op ≠ 2) (h29 : i.op ≠ 29) (hr : ¬ (i.op < 1 ∨ i.op = 28 ∨ 29 < i.op))
    (hv : mval i.op (mget regs i.a) (mget regs i.b) (mget regs i.c) i.imm mem = (v, ok, m)) :
    mdo i regs mem = if ok = true then ((0, true), setAll regs (makes i) v, m) else ((if 5 ≤ i.op ∧ i.op ≤ 17 then -1 else -2, false), regs, m) := by
  rw [mdo, if_neg h2, if_neg h29, if_neg hr, hv]
  cases ok <;> simp
theorem mdo_arm {i : Mach List} {regs mem : List Int} {v tt : Int} {ok : Bool} {m : List Int} (hr : i.op ≠ 2 ∧ i.op ≠ 29 ∧ ¬ (i.op < 1 ∨ i.op = 28 ∨ 29 < i.op))
    (hv : mval i.op (mget regs i.a) (mget regs i.b) (mget regs i.c) i.imm mem = (v, ok, m)) (ht : tt = if 5 ≤ i.op ∧ i.op ≤ 17 then -1 else 0) :
    mdo i regs mem = if ok = true then ((0, true), setAll regs (makes i) v, m) else ((if tt = 0 then -2 else -1, false), regs, m) := by
  rw [mdo_of hr.1 hr.2.1 hr.2.2 hv, ht]
  by_cases h : 5 ≤ i.op ∧ i.op ≤ 17
  · rw [if_pos h, if_pos h]; simp
  · rw [if_neg h, if_neg h]; simp
theorem mdo_swap {i : Mach List} {regs mem : List Int} (h : i.op = 2) : mdo i regs mem = ((0, true), mset (mset regs i.a (mget regs i.b)) i.b (mget regs i.a), mem) := by rw [mdo, if_pos h]
theorem mdo_wide {i : Mach List} {regs mem : List Int} (h : i.op = 29) : mdo i regs mem = ((0, true), mset (mset regs i.d (wlo (mget regs i.a) (mget regs i.b))) i.e (whi (mget regs i.a) (mget regs i.b)), mem) := by rw [mdo, if_neg (by omega), if_pos h]
theorem mdo_none {i : Mach List} {regs mem : List Int} (h : i.op < 1 ∨ i.op = 28 ∨ 29 < i.op) : mdo i regs mem = ((0, true), regs, mem) := by rw [mdo, if_neg (by omega), if_neg (by omega), if_pos h]

/-- Nothing that was there has been changed but in blocks of F. -/
structure Chg (F : Nat → Prop) (w w' : World) : Prop where
  os : w'.os = w.os
  tape : w'.tape = w.tape
  output : w'.output = w.output
  size : w.heap.size ≤ w'.heap.size
  block : ∀ k, k < w.heap.size → ¬ F k → w'.heap[k]? = w.heap[k]?
theorem Chg.refl (F : Nat → Prop) (w : World) : Chg F w w := ⟨rfl, rfl, rfl, Nat.le_refl _, fun _ _ _ => rfl⟩
theorem Chg.trans {F : Nat → Prop} {w w1 w2 : World} (h : Chg F w w1) (k : Chg F w1 w2) : Chg F w w2 :=
  ⟨k.os.trans h.os, k.tape.trans h.tape, k.output.trans h.output, Nat.le_trans h.size k.size, fun n hn hf => (k.block n (by have := h.size; omega) hf).trans (h.block n hn hf)⟩
theorem Chg.mono {F G : Nat → Prop} {w w1 : World} (h : Chg F w w1) (hg : ∀ k, F k → G k) : Chg G w w1 :=
  ⟨h.os, h.tape, h.output, h.size, fun n hn hf => h.block n hn fun f => hf (hg n f)⟩
theorem Chg.of {F : Nat → Prop} {w w1 : World} (h : Below w.heap.size w w1) : Chg F w w1 :=
  ⟨h.os, h.tape, h.output, h.size, fun n hn _ => h.block n hn⟩
theorem Chg.below {F : Nat → Prop} {w w1 w2 : World} (h : Chg F w w1) (k : Below w1.heap.size w1 w2) : Chg F w w2 := h.trans (Chg.of k)
theorem Chg.set {F : Nat → Prop} {w w1 : World} (h : Chg F w w1) (g o : Nat) (u : Value) (hf : F g ∨ w.heap.size ≤ g) : Chg F w (w1.setCell ⟨g, o, none⟩ u) := by
  refine ⟨h.os, h.tape, h.output, by simpa [World.setCell] using h.size, fun k hk hn => (Below.heap_setCell _ _ _ _ ?_).trans (h.block k hk hn)⟩
  rintro rfl
  rcases hf with hf | hf
  · exact hn hf
  · omega
/-- Where F's blocks are new, nothing that was there has been changed. -/
theorem Chg.toBelow {F : Nat → Prop} {w w1 : World} (h : Chg F w w1) (hf : ∀ k, F k → w.heap.size ≤ k) : Below w.heap.size w w1 :=
  ⟨h.os, h.tape, h.output, h.size, fun k hk => h.block k hk fun f => by have := hf k f; omega⟩
def Sl.wl {α : Type} (s : Sl α) (l : List α) : Sl α := ⟨s.A, s.cap, l⟩
theorem Sl.wl_val {α : Type} {s : Sl α} {l : List α} (h : l.length = s.l.length) : (s.wl l).val = s.val := by simp [Sl.wl, Sl.val, h]
theorem Sl.wl_self {α : Type} (s : Sl α) : s.wl s.l = s := rfl
end Jq
