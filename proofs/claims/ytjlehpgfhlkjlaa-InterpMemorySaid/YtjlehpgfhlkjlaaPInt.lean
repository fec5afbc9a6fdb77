/-
  How a function runs: plain; none: an operand, a target or an entry that there is not.
-/
import Derived.Test.YtjlehpgfhlkjlaaUse
import Derived.Test.YtjlehpgfhlkjlaaEv
set_option linter.all false
namespace Jq
open Go Go.RowKit
/-- What a value is; 0, where it has none. -/
def getV : List (Int × Int) → Int → Int
  | [], _ => 0
  | (k, v) :: l, n => if n = k then v else getV l n
def putV : List (Int × Int) → Int → Int → List (Int × Int)
  | [], n, v => [(n, v)]
  | (k, x) :: l, n, v => if n = k then (n, v) :: l else (k, x) :: putV l n v
def vE (p : Int × Int) : Int × Value := (p.1, .int .i32 p.2)
theorem lk_vE (l : List (Int × Int)) (n : Int) : (lk (l.map vE) n).getD (.int .i32 0) = .int .i32 (getV l n) := by
  induction l with
  | nil => rfl
  | cons p l ih =>
    obtain ⟨k, v⟩ := p
    rw [List.map_cons, vE, lk, getV]
    by_cases h : n = k
    · simp [h]
    · simp [h, ih]
theorem putE_vE (l : List (Int × Int)) (n v : Int) : putE (l.map vE) n (.int .i32 v) = (putV l n v).map vE := by
  induction l with
  | nil => rfl
  | cons p l ih =>
    obtain ⟨k, x⟩ := p
    rw [List.map_cons, vE, putE, putV]
    by_cases h : n = k
    · simp [h, vE]
    · simp [h, ih, vE]
theorem getV_put (l : List (Int × Int)) (n v m : Int) : getV (putV l n v) m = if m = n then v else getV l m := by
  induction l with
  | nil => simp [putV, getV]
  | cons p l ih =>
    obtain ⟨k, x⟩ := p
    rw [putV]
    by_cases h : n = k
    · subst h
      rw [if_pos rfl, getV, getV]
      by_cases h2 : m = n <;> simp [h2]
    · rw [if_neg h, getV, getV, ih]
      by_cases h2 : m = k
      · subst h2
        rw [if_pos rfl, if_neg (fun e => h e.symm), if_pos rfl]
      · rw [if_neg h2, if_neg h2]
def putF (f : Int → Int) (n v : Int) : Int → Int := fun m => if m = n then v else f m
/-- What a run holds. -/
structure IS where
  vals : Int → Int
  fin : Int
  val : Int
  mem : List Int
  calls : List (Event List)
  steps : Int
  ans : List Int
def IS.end_ (s : IS) (k v : Int) : IS := { s with fin := k, val := v }
def IS.put (s : IS) (n v : Int) : IS := { s with vals := putF s.vals n v }
/-- One more step. -/
def IS.stop (lim : Int) (s : IS) : IS := if s.fin = 0 ∧ lim ≤ s.steps then s.end_ 3 0 else s
def IS.step (lim : Int) (s : IS) : IS × Bool := if (s.stop lim).fin ≠ 0 then (s.stop lim, false) else ({ s.stop lim with steps := (s.stop lim).steps + 1 }, true)
def IS.words (s : IS) (l : List Int) : List Int := l.map s.vals
/-- An instruction. -/
def insI (x : Ins List) (s : IS) : Option IS :=
  if x.op = 1 then some (s.put x.dst x.imm) else
  if x.op = 15 then match (s.words x.args)[0]? with
    | none => none
    | some a => if ldOk s.mem (wrap32 (a + x.imm)) then some (s.put x.dst (ldV s.mem (wrap32 (a + x.imm)))) else some ((s.end_ 2 (-2)).put x.dst 0)
  else if x.op = 16 then match (s.words x.args)[0]?, (s.words x.args)[1]? with
    | some a, some b => if ldOk s.mem (wrap32 (a + x.imm)) then some { s with mem := mset s.mem (wrap32 (a + x.imm)) b } else some (s.end_ 2 (-2))
    | _, _ => none
  else if x.op = 17 then match s.ans with
    | [] => some { s with calls := s.calls ++ [⟨x.imm, s.words x.args⟩], vals := putF s.vals x.dst 0 }
    | a :: l => some { s with calls := s.calls ++ [⟨x.imm, s.words x.args⟩], vals := putF (putF s.vals x.dst 0) x.dst a, ans := l }
  else match (s.words x.args)[0]?, (s.words x.args)[1]? with
    | some a, some b =>
      if x.op = 18 then some ((s.put x.dst (wlo a b)).put x.two (whi a b)) else
      if (wdo x.op a b).isSome then some (s.put x.dst ((wdo x.op a b).getD 0)) else some ((s.put x.dst ((wdo x.op a b).getD 0)).end_ 2 (-1))
    | _, _ => none
/-- A term: the state behind it, and to which block it goes. -/
def termI (t : Term List) (s : IS) : Option (IS × Int) :=
  if t.kind = 1 then t.to[0]?.map fun b => (s, b) else
  if t.kind = 2 then (if (s.words t.args ++ [0]).getD 0 0 ≠ 0 then t.to[0]?.map fun b => (s, b) else t.to[1]?.map fun b => (s, b)) else
  if t.kind = 3 then (if t.to = [] then none else t.to[min ((s.words t.args ++ [0]).getD 0 0 % 4294967296) ((t.to.length : Int) - 1) |>.toNat]?.map fun b => (s, b)) else
  if t.kind = 4 then some (s.end_ 1 ((s.words t.args ++ [0]).getD 0 0), 0) else
  some (s.end_ 2 t.imm, 0)
/-- Which entry of a phi is from a block. -/
def phiAt (p : Phi List) (from_ : Int) : Option Int := if idx (fun y => y.from_ == from_) p.ins < 0 then none else (p.ins[(idx (fun y => y.from_ == from_) p.ins).toNat]?).map In.val
def nextI (vals : Int → Int) (from_ : Int) : List (Phi List) → List (Int × Int) → Option (List (Int × Int))
  | [], n => some n
  | p :: ps, n => match phiAt p from_ with
    | none => none
    | some v => nextI vals from_ ps (putV n p.dst (vals v))
/-- Phis, all at once. -/
def phisI (ps : List (Phi List)) (from_ : Int) (s : IS) : Option IS := (nextI s.vals from_ ps []).map fun n => { s with vals := fun m => if (n.map Prod.fst).contains m then getV n m else s.vals m }
/-- A block's instructions; false: it has ended. -/
def inssI (lim : Int) : List (Ins List) → IS → Option (IS × Bool)
  | [], s => some (s, true)
  | x :: xs, s => if (s.step lim).2 then match insI x (s.step lim).1 with
      | none => none
      | some s1 => inssI lim xs s1
    else some ((s.step lim).1, false)
/-- From a block on, by so many blocks at most. -/
def blocksI (bs : List (Block List)) (lim : Int) : Nat → Int → Int → IS → Option IS
  | 0, _, _, _ => none
  | n + 1, at_, from_, s =>
    if at_ < 0 then none else match bs[at_.toNat]? with
    | none => none
    | some b => match phisI b.phis from_ s with
      | none => none
      | some s1 => match inssI lim b.ins s1 with
        | none => none
        | some (s2, false) => some s2
        | some (s2, true) => if (s2.step lim).2 then match termI b.term (s2.step lim).1 with
            | none => none
            | some (s3, nx) => if s3.fin ≠ 0 then some s3 else blocksI bs lim n nx at_ s3
          else some (s2.step lim).1
def argsI : Nat → List Int → (Int → Int) → (Int → Int)
  | _, [], l => l
  | i, x :: xs, l => argsI (i + 1) xs (putF l (i : Int) x)
/-- A run of a right function. -/
def is0 (params : Int) (x : Input List) : IS := ⟨argsI 0 (x.args.take params.toNat) (fun _ => 0), 0, 0, x.mem.take 4096, [], 0, x.answers⟩
def runI (f : Func List) (x : Input List) (n : Nat) : Option IS := blocksI f.blocks x.steps n 0 (-1) (is0 f.params x)
def IS.out (s : IS) : Outcome List := ⟨s.fin, s.val, s.mem, s.calls, s.steps⟩
end Jq
