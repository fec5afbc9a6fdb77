/-
  What mach.graph and mach.Func come to, as plain functions. No program in sight.
-/
import Derived.Test.YtjlehpgfhlkjlaaPMach
set_option linter.all false
namespace Jq
open Go Go.RowKit
/-! ### mach.graph -/
/-- Block b is noted at each of its targets, once. -/
def addTo (b : Int) : List Int → List (List Int) → List (List Int)
  | [], ps => ps
  | t :: ts, ps => addTo b ts (if (ps.getD t.toNat []).contains b then ps else ps.set t.toNat (ps.getD t.toNat [] ++ [b]))
theorem addTo_step (b : Int) (l : List Int) (j : Nat) (h : j < l.length) (ps : List (List Int)) :
    addTo b (l.drop j) ps = addTo b (l.drop (j + 1)) (if (ps.getD (l[j]).toNat []).contains b then ps else ps.set (l[j]).toNat (ps.getD (l[j]).toNat [] ++ [b])) := by
  rw [List.drop_eq_getElem_cons h, addTo]
theorem addTo_yes (b : Int) (l : List Int) (j : Nat) (h : j < l.length) (ps : List (List Int)) (t : Nat) (ht : l[j] = t) (x : List Int) (hx : ps.getD t [] = x) (hc : x.contains b = true) :
    addTo b (l.drop j) ps = addTo b (l.drop (j + 1)) ps := by
  rw [addTo_step b l j h, ht, Int.toNat_natCast, hx, if_pos hc]
theorem addTo_no (b : Int) (l : List Int) (j : Nat) (h : j < l.length) (ps : List (List Int)) (t : Nat) (ht : l[j] = t) (x : List Int) (hx : ps.getD t [] = x) (hc : x.contains b = false) :
    addTo b (l.drop j) ps = addTo b (l.drop (j + 1)) (ps.set t (x ++ [b])) := by
  rw [addTo_step b l j h, ht, Int.toNat_natCast, hx, if_neg (by rw [hc]; simp)]
def predsFrom : Nat → List (List Int) → List (List Int) → List (List Int)
  | _, [], ps => ps
  | b, ts :: rest, ps => predsFrom (b + 1) rest (addTo b ts ps)
/-- Targets that are not reached yet are, and wait. -/
def visit : List Int → List Bool → List Int → List Bool × List Int
  | [], r, q => (r, q)
  | t :: ts, r, q => if r.getD t.toNat false then visit ts r q else visit ts (r.set t.toNat true) (q ++ [t])
theorem visit_yes (l : List Int) (j : Nat) (h : j < l.length) (r : List Bool) (q : List Int) (t : Nat) (ht : l[j] = t) (hr : r.getD t false = true) : visit (l.drop j) r q = visit (l.drop (j + 1)) r q := by
  rw [List.drop_eq_getElem_cons h, visit, ht, Int.toNat_natCast, if_pos hr]
theorem visit_no (l : List Int) (j : Nat) (h : j < l.length) (r : List Bool) (q : List Int) (t : Nat) (ht : l[j] = t) (hr : r.getD t false = false) : visit (l.drop j) r q = visit (l.drop (j + 1)) (r.set t true) (q ++ [(t : Int)]) := by
  rw [List.drop_eq_getElem_cons h, visit, ht, Int.toNat_natCast, if_neg (by rw [hr]; simp)]
theorem visit_step : True := trivial
def bfs (tos : List (List Int)) : Nat → List Bool → List Int → List Bool
  | 0, r, _ => r
  | _ + 1, r, [] => r
  | f + 1, r, x :: q => bfs tos f (visit (tos.getD x.toNat []) r (x :: q)).1 (visit (tos.getD x.toNat []) r (x :: q)).2.tail
theorem bfs_nil (tos : List (List Int)) (f : Nat) (r : List Bool) : bfs tos f r [] = r := by cases f <;> rfl
theorem bfs_cons (tos : List (List Int)) (f : Nat) (r : List Bool) (x : Int) (q : List Int) : bfs tos (f + 1) r (x :: q) = bfs tos f (visit (tos.getD x.toNat []) r (x :: q)).1 (visit (tos.getD x.toNat []) r (x :: q)).2.tail := rfl
/-- How many are not reached. -/
def cf (r : List Bool) : Nat := r.count false
theorem cf_set (r : List Bool) (t : Nat) (h : t < r.length) (hr : r.getD t false = false) : cf (r.set t true) + 1 = cf r := by
  unfold cf
  have he : r[t] = false := by simpa [List.getD_eq_getElem?_getD, h] using hr
  have h1 : 0 < r.count false := List.count_pos_iff.2 (by rw [← he]; exact List.getElem_mem h)
  rw [List.count_set h, he]
  simp
  omega
def tosOf (m : MFunc List) : List (List Int) := m.blocks.map fun b => b.fin.to
def predsOf (m : MFunc List) : List (List Int) := predsFrom 0 (tosOf m) (List.replicate m.blocks.length [])
def reachedOf (m : MFunc List) : List Bool := bfs (tosOf m) (m.blocks.length + 1) ((List.replicate m.blocks.length false).set 0 true) [0]
/-- Is a phi one of a block, by its predecessors? -/
def phiFits (b : Nat) (preds : List Int) (p : Phi List) : Bool := !(b == 0) && (p.ins.map (·.from_) == preds)
/-- The first phi of a block that does not fit, from place i on. -/
def badPhi (b : Nat) (preds : List Int) : Nat → List (Phi List) → Option Int
  | _, [] => none
  | i, p :: ps => if phiFits b preds p then badPhi b preds (i + 1) ps else some (-1 - i)
def badPhis (preds : List (List Int)) : Nat → List (MBlock List) → Option (Int × Int)
  | _, [] => none
  | b, x :: xs => match badPhi b (preds.getD b []) 0 x.phis with
    | some i => some (b, i)
    | none => badPhis preds (b + 1) xs
theorem badPhi_step (b : Nat) (preds : List Int) (i : Nat) (l : List (Phi List)) (h : i < l.length) : badPhi b preds i (l.drop i) = if phiFits b preds l[i] then badPhi b preds (i + 1) (l.drop (i + 1)) else some (-1 - i) := by
  rw [List.drop_eq_getElem_cons h, badPhi]
theorem badPhis_step (ps : List (List Int)) (b : Nat) (l : List (MBlock List)) (h : b < l.length) : badPhis ps b (l.drop b) = match badPhi b (ps.getD b []) 0 l[b].phis with | some i => some ((b : Int), i) | none => badPhis ps (b + 1) (l.drop (b + 1)) := by
  rw [List.drop_eq_getElem_cons h, badPhis]
theorem phis_no (b : Nat) (preds : List Int) (l : List (Phi List)) (i : Nat) (x : Phi List) (hx : l[i]? = some x) (hp : badPhi b preds i (l.drop i) = badPhi b preds 0 l) (hf : phiFits b preds x = false) : badPhi b preds 0 l = some (-1 - (i : Int)) := by
  obtain ⟨h, rfl⟩ := List.getElem?_eq_some_iff.1 hx
  rw [← hp, badPhi_step b preds i l h, hf]; rfl
theorem phis_yes (b : Nat) (preds : List Int) (l : List (Phi List)) (i : Nat) (x : Phi List) (hx : l[i]? = some x) (hp : badPhi b preds i (l.drop i) = badPhi b preds 0 l) (hf : phiFits b preds x = true) : badPhi b preds (i + 1) (l.drop (i + 1)) = badPhi b preds 0 l := by
  obtain ⟨h, rfl⟩ := List.getElem?_eq_some_iff.1 hx
  rw [← hp, badPhi_step b preds i l h, hf]; rfl
theorem phis_end (b : Nat) (preds : List Int) (l : List (Phi List)) (i : Nat) (h : l.length ≤ i) (hp : badPhi b preds i (l.drop i) = badPhi b preds 0 l) : badPhi b preds 0 l = none := by
  rw [← hp, List.drop_eq_nil_of_le h]; rfl
theorem blocks_no (ps : List (List Int)) (l : List (MBlock List)) (b : Nat) (x : MBlock List) (hx : l[b]? = some x) (hp : badPhis ps b (l.drop b) = badPhis ps 0 l) (i : Int) (hb : badPhi b (ps.getD b []) 0 x.phis = some i) : badPhis ps 0 l = some ((b : Int), i) := by
  obtain ⟨h, rfl⟩ := List.getElem?_eq_some_iff.1 hx
  rw [← hp, badPhis_step ps b l h, hb]
theorem blocks_yes (ps : List (List Int)) (l : List (MBlock List)) (b : Nat) (x : MBlock List) (hx : l[b]? = some x) (hp : badPhis ps b (l.drop b) = badPhis ps 0 l) (hb : badPhi b (ps.getD b []) 0 x.phis = none) : badPhis ps (b + 1) (l.drop (b + 1)) = badPhis ps 0 l := by
  obtain ⟨h, rfl⟩ := List.getElem?_eq_some_iff.1 hx
  rw [← hp, badPhis_step ps b l h, hb]
theorem blocks_end (ps : List (List Int)) (l : List (MBlock List)) (b : Nat) (h : l.length ≤ b) (hp : badPhis ps b (l.drop b) = badPhis ps 0 l) : badPhis ps 0 l = none := by
  rw [← hp, List.drop_eq_nil_of_le h]; rfl
def graphErr (m : MFunc List) : Int × Int × Int :=
  let r := idx (fun x => false == x) (reachedOf m)
  if 0 ≤ r then (15, r, 0) else
  match badPhis (predsOf m) 0 m.blocks with
  | some (b, i) => (16, b, i)
  | none => (0, 0, 0)
theorem graphErr_phi (m : MFunc List) (h0 : ¬ 0 ≤ idx (fun x => false == x) (reachedOf m)) (b i : Int) (h : badPhis (predsOf m) 0 m.blocks = some (b, i)) : graphErr m = (16, b, i) := by
  unfold graphErr
  rw [if_neg h0, h]
theorem graphErr_none (m : MFunc List) (h0 : ¬ 0 ≤ idx (fun x => false == x) (reachedOf m)) (h : badPhis (predsOf m) 0 m.blocks = none) : graphErr m = (0, 0, 0) := by
  unfold graphErr
  rw [if_neg h0, h]
/-! ### mach.Func -/
def phisErr : Nat → List (Phi List) → List (Phi List) → Option (Int × Int)
  | _, _, [] => none
  | i, ahead, p :: ps => if phiErr p ahead = 0 then phisErr (i + 1) (ahead ++ [p]) ps else some (phiErr p ahead, -1 - i)
def inssErr : Nat → List (Mach List) → Option (Int × Int)
  | _, [] => none
  | i, x :: xs => if insErr x = 0 then inssErr (i + 1) xs else some (insErr x, i)
def blockErr (n : Int) (x : MBlock List) : Option (Int × Int) :=
  match phisErr 0 [] x.phis with
  | some r => some r
  | none => match inssErr 0 x.ins with
    | some r => some r
    | none => if endErr x.fin n = 0 then none else some (endErr x.fin n, x.ins.length)
def blocksErr (n : Int) : Nat → List (MBlock List) → Option (Int × Int × Int)
  | _, [] => none
  | b, x :: xs => match blockErr n x with
    | some (e, p) => some (e, b, p)
    | none => blocksErr n (b + 1) xs
def sizeOf_ (l : List (MBlock List)) : Int := (l.map fun b => (b.phis.length : Int) + b.ins.length + 1).sum
def funcErr (m : MFunc List) : Int × Int × Int :=
  if m.params < 0 ∨ 4 < m.params then (1, 0, 0) else
  if m.blocks.length = 0 then (14, 0, 0) else
  if 512 < m.blocks.length ∨ 16384 < sizeOf_ m.blocks then (2, 0, 0) else
  match blocksErr m.blocks.length 0 m.blocks with
  | some r => r
  | none => graphErr m
end Jq
