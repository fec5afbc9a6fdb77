/-
  What the functions of package mach come to, as plain functions. No program in sight.
-/
import Derived.Test.YtjlehpgfhlkjlaaCore
import Derived.Test.YtjlehpgfhlkjlaaP
set_option linter.all false
namespace Jq
open Go Go.RowKit
/-- mach.Takes. -/
def takesOf (op a b c : Int) (l : List Int) : List Int :=
  if op = 1 ∨ 18 ≤ op ∧ op ≤ 22 ∨ op = 24 ∨ op = 31 then [a] else
  if op = 2 ∨ 5 ≤ op ∧ op ≤ 17 ∨ op = 25 ∨ op = 26 ∨ op = 29 then [a, b] else
  if op = 23 ∨ op = 27 then [a, b, c] else
  if op = 28 then l else []
def takes (m : Mach List) : List Int := takesOf m.op m.a m.b m.c m.args
/-- mach.Makes. -/
def makesOf (op d e a b : Int) : List Int :=
  if op = 2 then [a, b] else
  if op = 29 then [d, e] else
  if op = 26 ∨ op = 27 ∨ op = 31 ∨ op < 1 ∨ 31 < op then [] else [d]
def makes (m : Mach List) : List Int := makesOf m.op m.d m.e m.a m.b
/-- mach.Needs. -/
def needs (e : End List) : List Int :=
  if e.op = 2 ∨ e.op = 6 ∨ e.op = 7 ∧ 0 ≤ e.a then [e.a] else
  if 3 ≤ e.op ∧ e.op ≤ 5 then [e.a, e.b] else []
/-- What no register is. -/
def badReg (r : Int) : Bool := decide (r < 0 ∨ 8192 ≤ r)
/-- mach.imm. -/
def immOk (op imm : Int) : Bool :=
  if op = 3 then fits 16 imm else
  if op = 18 ∨ op = 19 then fits 8 imm else
  if 20 ≤ op ∧ op ≤ 22 then decide (imm % 4294967296 < 32) else
  if op = 24 ∨ op = 26 then decide (imm % 4294967296 < 256) else true
/-- mach.ins: 0, or what is wrong. -/
def insErr (m : Mach List) : Int :=
  if m.op < 1 ∨ 29 < m.op ∨ m.op = 2 ∨ m.op = 28 ∧ 4 < m.args.length then 30 else
  if (makes m).any badReg ∨ (takes m).any badReg then 31 else
  if m.op = 29 ∧ m.d = m.e then 12 else
  if immOk m.op m.imm then 0 else 32
/-- How many targets an end has, at least and at most. -/
def toOk (op : Int) (n : Nat) : Bool :=
  if op = 1 then decide (n = 1) else
  if 2 ≤ op ∧ op ≤ 5 then decide (n = 2) else
  if op = 6 then decide (2 ≤ n ∧ n ≤ 65) else
  if op = 7 ∨ op = 8 then decide (n = 0) else false
/-- mach.end. -/
def endErr (e : End List) (blocks : Int) : Int :=
  if !toOk e.op e.to.length then 30 else
  if (needs e).any badReg then 31 else
  if e.to.any (fun b => decide (b < 1 ∨ blocks ≤ b)) then 14 else 0
/-- mach.phi. -/
def phiErr (p : Phi List) (ahead : List (Phi List)) : Int :=
  if badReg p.dst ∨ p.ins.any (fun x => badReg x.val) then 31 else
  if ahead.any (fun x => decide (x.dst = p.dst)) then 12 else 0
end Jq
