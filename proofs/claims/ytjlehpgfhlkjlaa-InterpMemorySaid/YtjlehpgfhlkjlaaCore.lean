/-
  How Go's data lie in memory: values with addresses ('Sl': a slice), what their cells are, when memory bears them, and that this hangs on the blocks they lead to alone. No program in sight.
-/
import Derived.WalkKit
import Derived.Lib.Hide
import Derived.WalkSpells
import Derived.WalkLawsBesides
set_option linter.all false
namespace Jq
open Go Go.RowKit

/-- A slice: where it begins, its capacity, its elements. -/
structure Sl (α : Type) where
  A : Option Addr
  cap : Nat
  l : List α
abbrev Sl.val {α : Type} (s : Sl α) : Value := .slice s.A s.l.length s.cap
def Sl.blk {α : Type} (s : Sl α) : List Nat := (s.A.map (·.block)).toList
abbrev nilSl {α : Type} : Sl α := ⟨none, 0, []⟩

/-- A kind of value: its cells, when memory bears it, which blocks it leads to. -/
structure Kd (α : Type) where
  sz : Nat
  cs : α → List Value
  fp : α → List Nat
  rd : World → α → Prop
  len : ∀ x, (cs x).length = sz
  mv : ∀ {w w' : World} {x : α}, rd w x → (∀ k, k ∈ fp x → w'.heap[k]? = w.heap[k]?) → rd w' x
  lt : ∀ {w : World} {x : α}, rd w x → ∀ k, k ∈ fp x → k < w.heap.size

namespace Kd
variable {α : Type}
theorem below (d : Kd α) {w w' : World} {x : α} (h : d.rd w x) (hb : Below w.heap.size w w') : d.rd w' x := d.mv h fun k hk => hb.block k (d.lt h k hk)
/-- What a row of elements asks of memory. -/
def row (d : Kd α) (w : World) (A : Option Addr) (l : List α) : Prop :=
  (0 < l.length → ∃ b o, A = some ⟨b, o, none⟩ ∧ b < w.heap.size ∧ ∀ i (h : i < l.length) j, j < d.sz → w.cell? ⟨b, o + (i * d.sz + j), none⟩ = (d.cs l[i])[j]?) ∧ ∀ x, x ∈ l → d.rd w x
/-- Which blocks a row leads to: none, if it has no elements. -/
def rfp (d : Kd α) (s : Sl α) : List Nat := if s.l = [] then [] else s.blk ++ s.l.flatMap d.fp

def sl (d : Kd α) : Kd (Sl α) where
  sz := 1
  cs s := [s.val]
  fp := d.rfp
  rd w s := s.l.length ≤ s.cap ∧ s.l.length ≤ 140737488355328 ∧ d.row w s.A s.l
  len _ := rfl
  mv := by
    rintro w w' s ⟨hc, hn, h1, h2⟩ hm
    refine ⟨hc, hn, fun h0 => ?_, fun x hx => ?_⟩
    · obtain ⟨b, o, hA, hb, hcell⟩ := h1 h0
      have hne : s.l ≠ [] := by intro e; rw [e] at h0; simp at h0
      have hk : b ∈ d.rfp s := by simp [rfp, hne, Sl.blk, hA]
      refine ⟨b, o, hA, ?_, fun i hi j hj => ?_⟩
      · have := hm b hk
        have hs : w.heap[b]? = some w.heap[b] := Array.getElem?_eq_getElem hb
        rw [hs] at this
        exact (Array.getElem?_eq_some_iff.1 this).1
      · rw [← hcell i hi j hj]
        exact World.cell?_of_block (w := w) (w' := w') (a := ⟨b, o + (i * d.sz + j), none⟩) (hm b hk)
    · have hne : s.l ≠ [] := List.ne_nil_of_mem hx
      exact d.mv (h2 x hx) fun k hk => hm k (by simp only [rfp, hne, if_false]; exact List.mem_append_right _ (List.mem_flatMap.2 ⟨x, hx, hk⟩))
  lt := by
    rintro w s ⟨hc, hn, h1, h2⟩ k hk
    unfold rfp at hk
    split at hk
    · simp at hk
    · rename_i hne
      rcases List.mem_append.1 hk with hk | hk
      · obtain ⟨b, o, hA, hb, _⟩ := h1 (List.length_pos_iff.2 hne)
        simp [Sl.blk, hA] at hk
        subst hk
        exact hb
      · obtain ⟨x, hx, hk⟩ := List.mem_flatMap.1 hk
        exact d.lt (h2 x hx) k hk

/-- An element of a slice: where it lies, its cells, and that memory bears it. -/
theorem at_ {d : Kd α} {w : World} {s : Sl α} (h : d.sl.rd w s) {k : Nat} (hk : k < s.l.length) :
    ∃ b o, s.A = some ⟨b, o, none⟩ ∧ b < w.heap.size ∧ (∀ j, j < d.sz → w.cell? ⟨b, o + (k * d.sz + j), none⟩ = (d.cs s.l[k])[j]?) ∧ d.rd w s.l[k] := by
  obtain ⟨b, o, hA, hb, hc⟩ := h.2.2.1 (by omega)
  exact ⟨b, o, hA, hb, fun j hj => hc k hk j hj, h.2.2.2 _ (List.getElem_mem hk)⟩
/-- What an index of a slice comes to, laid ahead of a walk. -/
theorem run_index {P : Program} (T e : TypeId) (hT : P.underlying T = some (.slice e)) (s : Sl α) (b o sz : Nat) (hA : s.A = some ⟨b, o, none⟩) (hsz : (P.info? e).map (·.size) = some sz) (i : Int) (k : Nat) (hi : i = k) (hk : k < s.l.length) (W : World) :
    (Instr.indexAt T s.val (.int .i64 i)).run P W = .ok (.pointer (some ⟨b, o + k * sz, none⟩)) W := by
  subst hi
  obtain ⟨q, hq, hqs⟩ := Option.map_eq_some_iff.1 hsz
  have hso : (Go.sizeOf e).run P W = .ok sz W := by simp [Go.sizeOf, typeInfo, hq, hqs]
  simp [Instr.indexAt, asIntOf, run_underlying hT, hA, Result.andThen]
  rw [if_pos hk, hso]
  simp only [Result.andThen, Addr.add, Int.toNat_natCast]
  split
  · rename_i h; rw [h]; rfl
  · rfl
/-- An element of a slice, for a walk: what its index comes to, its cells, and that memory bears it. -/
theorem get {P : Program} (T e : TypeId) (hT : P.underlying T = some (.slice e)) {d : Kd α} {w : World} {s : Sl α} (hsz : (P.info? e).map (·.size) = some d.sz) (h : d.sl.rd w s) (i : Int) {k : Nat} (hk : k < s.l.length) (hi : i = k) :
    ∃ b o, (∀ W, (Instr.indexAt T s.val (.int .i64 i)).run P W = .ok (.pointer (some ⟨b, o + k * d.sz, none⟩)) W) ∧ b < w.heap.size ∧ (∀ j, j < d.sz → w.cell? ⟨b, o + k * d.sz + j, none⟩ = (d.cs s.l[k])[j]?) ∧ d.rd w s.l[k] := by
  obtain ⟨b, o, hA, hb, hc, hr⟩ := at_ h hk
  exact ⟨b, o, fun W => run_index T e hT s b o d.sz hA hsz i k hi hk W, hb, fun j hj => by rw [← hc j hj, Nat.add_assoc], hr⟩
/-- A slice with an element is no nil one; where it is one: nothing. -/
theorem addr {d : Kd α} {w : World} {s : Sl α} (h : d.sl.rd w s) : s.l = [] ∨ ∃ b o, s.A = some ⟨b, o, none⟩ ∧ b < w.heap.size ∧ ∀ k (hk : k < s.l.length) j, j < d.sz → w.cell? ⟨b, o + (k * d.sz + j), none⟩ = (d.cs s.l[k])[j]? := by
  rcases Nat.eq_zero_or_pos s.l.length with h0 | h0
  · exact .inl (List.eq_nil_of_length_eq_zero h0)
  · exact .inr (h.2.2.1 h0)
theorem bound {d : Kd α} {w : World} {s : Sl α} (h : d.sl.rd w s) : s.l.length ≤ 140737488355328 := h.2.1
theorem cap_ {d : Kd α} {w : World} {s : Sl α} (h : d.sl.rd w s) : s.l.length ≤ s.cap := h.1
theorem nil_rd (d : Kd α) (w : World) : d.sl.rd w nilSl := ⟨Nat.le_refl _, by simp, fun h => absurd h (by simp), fun _ h => absurd h (by simp)⟩

def scalar (enc : α → Value) : Kd α where
  sz := 1
  cs x := [enc x]
  fp _ := []
  rd _ _ := True
  len _ := rfl
  mv _ _ := trivial
  lt _ k hk := by simp at hk
end Kd
def kI : Kd Int := Kd.scalar (.int .i64)
def kW : Kd Int := Kd.scalar (.int .i32)
def kB : Kd Bool := Kd.scalar .bool

theorem run_callFunc_go {P : Program} {f : FuncId} {fn : Go.Func} (hf : P.funcs[f]? = some fn) (hn : (fn.name == "runtime.NumGoroutine") = false) (hb : fn.body.isNone = false) (as : Array Value) (W : World) :
    (callFunc f as).run P W = .ok (.enter f as) W := by
  have hn' : ¬ fn.name = "runtime.NumGoroutine" := by simpa using hn
  have hb' : ¬ fn.body = none := by intro h; rw [h] at hb; cases hb
  simp [callFunc, hf, Result.andThen, hn', hb']
/-- A function value that answers a bool, of each element of a row: it is run, it answers, nothing that was there is changed. -/
structure Asks {α : Type} (P : Program) (f : FuncId) (c : Array Value) (enc : α → Value) (p : α → Bool) (l : List α) (w : World) : Prop where
  go : ∀ (as : Array Value) (W : World), (callFunc f as).run P W = .ok (.enter f as) W
  run : ∀ x, x ∈ l → ∀ W, Below w.heap.size w W → Calls P f (#[enc x] ++ c) W fun e W' => e = .returned (.bool (p x)) ∧ Below W.heap.size W W'

/-! ### The program's types: S: how slices are (List: data alone; Sl: with addresses) -/
structure In where
  from_ : Int
  val : Int
structure Phi (S : Type → Type) where
  dst : Int
  ins : S In
structure Mach (S : Type → Type) where
  op : Int
  d : Int
  e : Int
  a : Int
  b : Int
  c : Int
  imm : Int
  args : S Int
structure End (S : Type → Type) where
  op : Int
  a : Int
  b : Int
  to : S Int
  imm : Int
structure MBlock (S : Type → Type) where
  phis : S (Phi S)
  ins : S (Mach S)
  fin : End S
structure MFunc (S : Type → Type) where
  params : Int
  blocks : S (MBlock S)
structure Input (S : Type → Type) where
  args : S Int
  mem : S Int
  answers : S Int
  steps : Int
structure Event (S : Type → Type) where
  callee : Int
  args : S Int
structure Outcome (S : Type → Type) where
  fin : Int
  val : Int
  mem : S Int
  calls : S (Event S)
  steps : Int
structure Ins (S : Type → Type) where
  op : Int
  dst : Int
  two : Int
  args : S Int
  imm : Int
structure Term (S : Type → Type) where
  kind : Int
  args : S Int
  to : S Int
  imm : Int
structure Block (S : Type → Type) where
  phis : S (Phi S)
  ins : S (Ins S)
  term : Term S
structure Func (S : Type → Type) where
  params : Int
  blocks : S (Block S)

/-! ### Their kinds -/
def kIn : Kd In where
  sz := 2
  cs x := [.int .i64 x.from_, .int .i64 x.val]
  fp _ := []
  rd _ _ := True
  len _ := rfl
  mv _ _ := trivial
  lt _ k hk := by simp at hk
def kPhi : Kd (Phi Sl) where
  sz := 2
  cs x := [.int .i64 x.dst, x.ins.val]
  fp x := kIn.sl.fp x.ins
  rd w x := kIn.sl.rd w x.ins
  len _ := rfl
  mv h hm := kIn.sl.mv h hm
  lt h := kIn.sl.lt h
def kMach : Kd (Mach Sl) where
  sz := 8
  cs x := [.int .i64 x.op, .int .i64 x.d, .int .i64 x.e, .int .i64 x.a, .int .i64 x.b, .int .i64 x.c, .int .i32 x.imm, x.args.val]
  fp x := kI.sl.fp x.args
  rd w x := kI.sl.rd w x.args
  len _ := rfl
  mv h hm := kI.sl.mv h hm
  lt h := kI.sl.lt h
def kEnd : Kd (End Sl) where
  sz := 5
  cs x := [.int .i64 x.op, .int .i64 x.a, .int .i64 x.b, x.to.val, .int .i32 x.imm]
  fp x := kI.sl.fp x.to
  rd w x := kI.sl.rd w x.to
  len _ := rfl
  mv h hm := kI.sl.mv h hm
  lt h := kI.sl.lt h
def kMBlock : Kd (MBlock Sl) where
  sz := 7
  cs x := [x.phis.val, x.ins.val, .int .i64 x.fin.op, .int .i64 x.fin.a, .int .i64 x.fin.b, x.fin.to.val, .int .i32 x.fin.imm]
  fp x := kPhi.sl.fp x.phis ++ kMach.sl.fp x.ins ++ kEnd.fp x.fin
  rd w x := kPhi.sl.rd w x.phis ∧ kMach.sl.rd w x.ins ∧ kEnd.rd w x.fin
  len _ := rfl
  mv h hm := ⟨kPhi.sl.mv h.1 fun k hk => hm k (by simp [hk]), kMach.sl.mv h.2.1 fun k hk => hm k (by simp [hk]), kEnd.mv h.2.2 fun k hk => hm k (by simp [hk])⟩
  lt h k hk := by
    simp only [List.mem_append] at hk
    rcases hk with (hk | hk) | hk
    · exact kPhi.sl.lt h.1 k hk
    · exact kMach.sl.lt h.2.1 k hk
    · exact kEnd.lt h.2.2 k hk
def kMFunc : Kd (MFunc Sl) where
  sz := 2
  cs x := [.int .i64 x.params, x.blocks.val]
  fp x := kMBlock.sl.fp x.blocks
  rd w x := kMBlock.sl.rd w x.blocks
  len _ := rfl
  mv h hm := kMBlock.sl.mv h hm
  lt h := kMBlock.sl.lt h
def kInput : Kd (Input Sl) where
  sz := 4
  cs x := [x.args.val, x.mem.val, x.answers.val, .int .i64 x.steps]
  fp x := kW.sl.fp x.args ++ kW.sl.fp x.mem ++ kW.sl.fp x.answers
  rd w x := kW.sl.rd w x.args ∧ kW.sl.rd w x.mem ∧ kW.sl.rd w x.answers
  len _ := rfl
  mv h hm := ⟨kW.sl.mv h.1 fun k hk => hm k (by simp [hk]), kW.sl.mv h.2.1 fun k hk => hm k (by simp [hk]), kW.sl.mv h.2.2 fun k hk => hm k (by simp [hk])⟩
  lt h k hk := by
    simp only [List.mem_append] at hk
    rcases hk with (hk | hk) | hk
    · exact kW.sl.lt h.1 k hk
    · exact kW.sl.lt h.2.1 k hk
    · exact kW.sl.lt h.2.2 k hk
def kEvent : Kd (Event Sl) where
  sz := 2
  cs x := [.int .i32 x.callee, x.args.val]
  fp x := kW.sl.fp x.args
  rd w x := kW.sl.rd w x.args
  len _ := rfl
  mv h hm := kW.sl.mv h hm
  lt h := kW.sl.lt h
def kOutcome : Kd (Outcome Sl) where
  sz := 5
  cs x := [.int .i64 x.fin, .int .i32 x.val, x.mem.val, x.calls.val, .int .i64 x.steps]
  fp x := kW.sl.fp x.mem ++ kEvent.sl.fp x.calls
  rd w x := kW.sl.rd w x.mem ∧ kEvent.sl.rd w x.calls
  len _ := rfl
  mv h hm := ⟨kW.sl.mv h.1 fun k hk => hm k (by simp [hk]), kEvent.sl.mv h.2 fun k hk => hm k (by simp [hk])⟩
  lt h k hk := by
    simp only [List.mem_append] at hk
    rcases hk with hk | hk
    · exact kW.sl.lt h.1 k hk
    · exact kEvent.sl.lt h.2 k hk
def kIns : Kd (Ins Sl) where
  sz := 5
  cs x := [.int .i64 x.op, .int .i64 x.dst, .int .i64 x.two, x.args.val, .int .i32 x.imm]
  fp x := kI.sl.fp x.args
  rd w x := kI.sl.rd w x.args
  len _ := rfl
  mv h hm := kI.sl.mv h hm
  lt h := kI.sl.lt h
def kTerm : Kd (Term Sl) where
  sz := 4
  cs x := [.int .i64 x.kind, x.args.val, x.to.val, .int .i32 x.imm]
  fp x := kI.sl.fp x.args ++ kI.sl.fp x.to
  rd w x := kI.sl.rd w x.args ∧ kI.sl.rd w x.to
  len _ := rfl
  mv h hm := ⟨kI.sl.mv h.1 fun k hk => hm k (by simp [hk]), kI.sl.mv h.2 fun k hk => hm k (by simp [hk])⟩
  lt h k hk := by
    simp only [List.mem_append] at hk
    rcases hk with hk | hk
    · exact kI.sl.lt h.1 k hk
    · exact kI.sl.lt h.2 k hk
def kBlock : Kd (Block Sl) where
  sz := 6
  cs x := [x.phis.val, x.ins.val, .int .i64 x.term.kind, x.term.args.val, x.term.to.val, .int .i32 x.term.imm]
  fp x := kPhi.sl.fp x.phis ++ kIns.sl.fp x.ins ++ kTerm.fp x.term
  rd w x := kPhi.sl.rd w x.phis ∧ kIns.sl.rd w x.ins ∧ kTerm.rd w x.term
  len _ := rfl
  mv h hm := ⟨kPhi.sl.mv h.1 fun k hk => hm k (by simp [hk]), kIns.sl.mv h.2.1 fun k hk => hm k (by simp [hk]), kTerm.mv h.2.2 fun k hk => hm k (by simp [hk])⟩
  lt h k hk := by
    simp only [List.mem_append] at hk
    rcases hk with (hk | hk) | hk
    · exact kPhi.sl.lt h.1 k hk
    · exact kIns.sl.lt h.2.1 k hk
    · exact kTerm.lt h.2.2 k hk
def kFunc : Kd (Func Sl) where
  sz := 2
  cs x := [.int .i64 x.params, x.blocks.val]
  fp x := kBlock.sl.fp x.blocks
  rd w x := kBlock.sl.rd w x.blocks
  len _ := rfl
  mv h hm := kBlock.sl.mv h hm
  lt h := kBlock.sl.lt h

/-! ### An element of a slice of each kind, for a walk -/
section
variable {P : Program} (T e : TypeId) (hT : P.underlying T = some (.slice e)) {w : World}
include hT
theorem getI {s : Sl Int} (hsz : (P.info? e).map (·.size) = some 1) (h : kI.sl.rd w s) (i : Int) {k : Nat} (hk : k < s.l.length) (hi : i = k) :
    ∃ b o, (∀ W, (Instr.indexAt T s.val (.int .i64 i)).run P W = .ok (.pointer (some ⟨b, o + k, none⟩)) W) ∧ b < w.heap.size ∧ w.cell? ⟨b, o + k, none⟩ = some (.int .i64 s.l[k]) := by
  obtain ⟨b, o, h1, h2, h3, _⟩ := kI.get T e hT hsz h i hk hi
  have h0 := h3 0 (by decide)
  refine ⟨b, o, ?_, h2, ?_⟩
  · simpa [kI, Kd.scalar] using h1
  · simpa [kI, Kd.scalar] using h0
theorem getW {s : Sl Int} (hsz : (P.info? e).map (·.size) = some 1) (h : kW.sl.rd w s) (i : Int) {k : Nat} (hk : k < s.l.length) (hi : i = k) :
    ∃ b o, (∀ W, (Instr.indexAt T s.val (.int .i64 i)).run P W = .ok (.pointer (some ⟨b, o + k, none⟩)) W) ∧ b < w.heap.size ∧ w.cell? ⟨b, o + k, none⟩ = some (.int .i32 s.l[k]) := by
  obtain ⟨b, o, h1, h2, h3, _⟩ := kW.get T e hT hsz h i hk hi
  have h0 := h3 0 (by decide)
  refine ⟨b, o, ?_, h2, ?_⟩
  · simpa [kW, Kd.scalar] using h1
  · simpa [kW, Kd.scalar] using h0
theorem getB {s : Sl Bool} (hsz : (P.info? e).map (·.size) = some 1) (h : kB.sl.rd w s) (i : Int) {k : Nat} (hk : k < s.l.length) (hi : i = k) :
    ∃ b o, (∀ W, (Instr.indexAt T s.val (.int .i64 i)).run P W = .ok (.pointer (some ⟨b, o + k, none⟩)) W) ∧ b < w.heap.size ∧ w.cell? ⟨b, o + k, none⟩ = some (.bool s.l[k]) := by
  obtain ⟨b, o, h1, h2, h3, _⟩ := kB.get T e hT hsz h i hk hi
  have h0 := h3 0 (by decide)
  refine ⟨b, o, ?_, h2, ?_⟩
  · simpa [kB, Kd.scalar] using h1
  · simpa [kB, Kd.scalar] using h0
theorem getIn {s : Sl In} (hsz : (P.info? e).map (·.size) = some 2) (h : kIn.sl.rd w s) (i : Int) {k : Nat} (hk : k < s.l.length) (hi : i = k) :
    ∃ b o, (∀ W, (Instr.indexAt T s.val (.int .i64 i)).run P W = .ok (.pointer (some ⟨b, o + k * 2, none⟩)) W) ∧ b < w.heap.size ∧ w.cell? ⟨b, o + k * 2, none⟩ = some (.int .i64 s.l[k].from_) ∧ w.cell? ⟨b, o + k * 2 + 1, none⟩ = some (.int .i64 s.l[k].val) := by
  obtain ⟨b, o, h1, h2, h3, _⟩ := kIn.get T e hT hsz h i hk hi
  exact ⟨b, o, h1, h2, h3 0 (by decide), h3 1 (by decide)⟩
theorem getPhi {s : Sl (Phi Sl)} (hsz : (P.info? e).map (·.size) = some 2) (h : kPhi.sl.rd w s) (i : Int) {k : Nat} (hk : k < s.l.length) (hi : i = k) :
    ∃ b o, (∀ W, (Instr.indexAt T s.val (.int .i64 i)).run P W = .ok (.pointer (some ⟨b, o + k * 2, none⟩)) W) ∧ b < w.heap.size ∧ w.cell? ⟨b, o + k * 2, none⟩ = some (.int .i64 s.l[k].dst) ∧ w.cell? ⟨b, o + k * 2 + 1, none⟩ = some s.l[k].ins.val ∧ kPhi.rd w s.l[k] := by
  obtain ⟨b, o, h1, h2, h3, h4⟩ := kPhi.get T e hT hsz h i hk hi
  exact ⟨b, o, h1, h2, h3 0 (by decide), h3 1 (by decide), h4⟩
theorem getMach {s : Sl (Mach Sl)} (hsz : (P.info? e).map (·.size) = some 8) (h : kMach.sl.rd w s) (i : Int) {k : Nat} (hk : k < s.l.length) (hi : i = k) :
    ∃ b o, (∀ W, (Instr.indexAt T s.val (.int .i64 i)).run P W = .ok (.pointer (some ⟨b, o + k * 8, none⟩)) W) ∧ b < w.heap.size ∧
      (w.cell? ⟨b, o + k * 8, none⟩ = some (.int .i64 s.l[k].op) ∧ w.cell? ⟨b, o + k * 8 + 1, none⟩ = some (.int .i64 s.l[k].d) ∧ w.cell? ⟨b, o + k * 8 + 2, none⟩ = some (.int .i64 s.l[k].e) ∧ w.cell? ⟨b, o + k * 8 + 3, none⟩ = some (.int .i64 s.l[k].a) ∧
       w.cell? ⟨b, o + k * 8 + 4, none⟩ = some (.int .i64 s.l[k].b) ∧ w.cell? ⟨b, o + k * 8 + 5, none⟩ = some (.int .i64 s.l[k].c) ∧ w.cell? ⟨b, o + k * 8 + 6, none⟩ = some (.int .i32 s.l[k].imm) ∧ w.cell? ⟨b, o + k * 8 + 7, none⟩ = some s.l[k].args.val) ∧ kMach.rd w s.l[k] := by
  obtain ⟨b, o, h1, h2, h3, h4⟩ := kMach.get T e hT hsz h i hk hi
  exact ⟨b, o, h1, h2, ⟨h3 0 (by decide), h3 1 (by decide), h3 2 (by decide), h3 3 (by decide), h3 4 (by decide), h3 5 (by decide), h3 6 (by decide), h3 7 (by decide)⟩, h4⟩
theorem getMBlock {s : Sl (MBlock Sl)} (hsz : (P.info? e).map (·.size) = some 7) (h : kMBlock.sl.rd w s) (i : Int) {k : Nat} (hk : k < s.l.length) (hi : i = k) :
    ∃ b o, (∀ W, (Instr.indexAt T s.val (.int .i64 i)).run P W = .ok (.pointer (some ⟨b, o + k * 7, none⟩)) W) ∧ b < w.heap.size ∧
      (w.cell? ⟨b, o + k * 7, none⟩ = some s.l[k].phis.val ∧ w.cell? ⟨b, o + k * 7 + 1, none⟩ = some s.l[k].ins.val ∧ w.cell? ⟨b, o + k * 7 + 2, none⟩ = some (.int .i64 s.l[k].fin.op) ∧ w.cell? ⟨b, o + k * 7 + 3, none⟩ = some (.int .i64 s.l[k].fin.a) ∧
       w.cell? ⟨b, o + k * 7 + 4, none⟩ = some (.int .i64 s.l[k].fin.b) ∧ w.cell? ⟨b, o + k * 7 + 5, none⟩ = some s.l[k].fin.to.val ∧ w.cell? ⟨b, o + k * 7 + 6, none⟩ = some (.int .i32 s.l[k].fin.imm)) ∧ kMBlock.rd w s.l[k] := by
  obtain ⟨b, o, h1, h2, h3, h4⟩ := kMBlock.get T e hT hsz h i hk hi
  exact ⟨b, o, h1, h2, ⟨h3 0 (by decide), h3 1 (by decide), h3 2 (by decide), h3 3 (by decide), h3 4 (by decide), h3 5 (by decide), h3 6 (by decide)⟩, h4⟩
end

/-! ### Data alone -/
def Phi.p (x : Phi Sl) : Phi List := ⟨x.dst, x.ins.l⟩
def Mach.p (x : Mach Sl) : Mach List := ⟨x.op, x.d, x.e, x.a, x.b, x.c, x.imm, x.args.l⟩
def End.p (x : End Sl) : End List := ⟨x.op, x.a, x.b, x.to.l, x.imm⟩
def MBlock.p (x : MBlock Sl) : MBlock List := ⟨x.phis.l.map Phi.p, x.ins.l.map Mach.p, x.fin.p⟩
def MFunc.p (x : MFunc Sl) : MFunc List := ⟨x.params, x.blocks.l.map MBlock.p⟩
def Input.p (x : Input Sl) : Input List := ⟨x.args.l, x.mem.l, x.answers.l, x.steps⟩
def Event.p (x : Event Sl) : Event List := ⟨x.callee, x.args.l⟩
def Outcome.p (x : Outcome Sl) : Outcome List := ⟨x.fin, x.val, x.mem.l, x.calls.l.map Event.p, x.steps⟩
def Ins.p (x : Ins Sl) : Ins List := ⟨x.op, x.dst, x.two, x.args.l, x.imm⟩
def Term.p (x : Term Sl) : Term List := ⟨x.kind, x.args.l, x.to.l, x.imm⟩
def Block.p (x : Block Sl) : Block List := ⟨x.phis.l.map Phi.p, x.ins.l.map Ins.p, x.term.p⟩
def Func.p (x : Func Sl) : Func List := ⟨x.params, x.blocks.l.map Block.p⟩

/-! ### As values -/
abbrev Mach.v (x : Mach Sl) : Value := .agg #[.int .i64 x.op, .int .i64 x.d, .int .i64 x.e, .int .i64 x.a, .int .i64 x.b, .int .i64 x.c, .int .i32 x.imm, x.args.val]
abbrev End.v (x : End Sl) : Value := .agg #[.int .i64 x.op, .int .i64 x.a, .int .i64 x.b, x.to.val, .int .i32 x.imm]
abbrev Phi.v (x : Phi Sl) : Value := .agg #[.int .i64 x.dst, x.ins.val]
abbrev MBlock.v (x : MBlock Sl) : Value := .agg #[x.phis.val, x.ins.val, .int .i64 x.fin.op, .int .i64 x.fin.a, .int .i64 x.fin.b, x.fin.to.val, .int .i32 x.fin.imm]
abbrev MFunc.v (x : MFunc Sl) : Value := .agg #[.int .i64 x.params, x.blocks.val]
abbrev Input.v (x : Input Sl) : Value := .agg #[x.args.val, x.mem.val, x.answers.val, .int .i64 x.steps]
abbrev Event.v (x : Event Sl) : Value := .agg #[.int .i32 x.callee, x.args.val]
abbrev Outcome.v (x : Outcome Sl) : Value := .agg #[.int .i64 x.fin, .int .i32 x.val, x.mem.val, x.calls.val, .int .i64 x.steps]
abbrev Ins.v (x : Ins Sl) : Value := .agg #[.int .i64 x.op, .int .i64 x.dst, .int .i64 x.two, x.args.val, .int .i32 x.imm]
abbrev Term.v (x : Term Sl) : Value := .agg #[.int .i64 x.kind, x.args.val, x.to.val, .int .i32 x.imm]
abbrev Block.v (x : Block Sl) : Value := .agg #[x.phis.val, x.ins.val, .int .i64 x.term.kind, x.term.args.val, x.term.to.val, .int .i32 x.term.imm]
abbrev Func.v (x : Func Sl) : Value := .agg #[.int .i64 x.params, x.blocks.val]
end Jq
