/-
  Laws for map literals over int keys, that the call itself makes: what 'insert' and 'lookup' do to a map block written out. No program in sight.
-/
import Derived.WalkKit
import Derived.MapKept
import Derived.WalkSpells
import Derived.WalkLawsBesides
set_option linter.all false
namespace Jq
open Go Go.RowKit

/-- A map's entries, by number: what stands under a key first. -/
def lk : List (Int × Value) → Int → Option Value
  | [], _ => none
  | (k, v) :: l, n => if n = k then some v else lk l n
theorem lk_nil (n : Int) : lk [] n = none := by rw [lk]
theorem lk_cons (k : Int) (v : Value) (l : List (Int × Value)) (n : Int) : lk ((k, v) :: l) n = if n = k then some v else lk l n := by rw [lk]

def ents (q : IntKind) : Nat → List (Int × Value) → List MapEntry
  | _, [] => []
  | i, (k, v) :: l => { key := .int q k, val := v, born := i } :: ents q (i + 1) l
/-- A map that was made by so many inserts of new keys. -/
def mapObj (q : IntKind) (l : List (Int × Value)) : Obj := .map (ents q 0 l).toArray l.length

theorem ents_snoc (q : IntKind) (l : List (Int × Value)) (k : Int) (v : Value) : ∀ i, ents q i (l ++ [(k, v)]) = ents q i l ++ [{ key := .int q k, val := v, born := i + l.length }] := by
  induction l with
  | nil => intro i; simp [ents]
  | cons x l ih =>
    intro i
    obtain ⟨k', v'⟩ := x
    simp only [List.cons_append, ents, ih, List.length_cons]
    rw [show i + 1 + l.length = i + (l.length + 1) from by omega]

theorem find_ents (q : IntKind) (n : Int) (l : List (Int × Value)) : ∀ i j, ∃ m, Instr.findNow (.int q) (.int q n) (ents q i l) j = some ((lk l n).map fun v => (m, v)) := by
  induction l with
  | nil => intro i j; exact ⟨0, rfl⟩
  | cons x l ih =>
    intro i j
    obtain ⟨k, v⟩ := x
    by_cases h : n = k
    · subst h
      exact ⟨j, by simp [ents, Instr.findNow, Instr.sameNow, lk]⟩
    · obtain ⟨m, hm⟩ := ih (i + 1) (j + 1)
      have hb : (n == k) = false := by simpa using h
      exact ⟨m, by simp [ents, Instr.findNow, Instr.sameNow, lk, h, hm, hb]⟩

theorem set_alloc (w : World) (o o' : Obj) : { w.alloc o with heap := (w.alloc o).heap.setIfInBounds w.heap.size o' } = w.alloc o' := by
  have h : (w.heap.push o).setIfInBounds w.heap.size o' = w.heap.push o' := by
    apply Array.ext_getElem?
    intro i
    rw [Array.getElem?_setIfInBounds]
    simp only [Array.getElem?_push, Array.size_push]
    split <;> rename_i h
    · subst h; simp
    · by_cases h' : i = w.heap.size
      · exact absurd h'.symm h
      · simp [h']
  unfold World.alloc
  simp only [h]

section
variable {P : Program}

theorem run_checkKey_int (d : Nat) (K : TypeId) (q : IntKind) (hK : P.underlying K = some (.int q)) (v : Value) (w : World) (b : Bool) :
    (Instr.checkKey b (d + 1) K v).run P w = .ok () w := by
  simp [Instr.checkKey, run_underlying hK]

/-- Laid ahead of a walk: a new map. -/
theorem run_newMap (T : TypeId) (q : IntKind) (w : World) : (Instr.makeMap T none).run P w = .ok (.map (some w.heap.size)) (w.alloc (mapObj q [])) := rfl

/-- Laid ahead of a walk: a new key is laid into the map that is the world's last block. -/
theorem run_newKey (T K E : TypeId) (q : IntKind) (hT : P.underlying T = some (.map K E)) (hK : P.underlying K = some (.int q)) (w : World) (r : Nat) (l : List (Int × Value)) (n : Int) (v : Value)
    (hr : r = w.heap.size) (hn : lk l n = none) : (Instr.mapUpdate T (.map (some r)) (.int q n) v).run P (w.alloc (mapObj q l)) = .ok () (w.alloc (mapObj q (l ++ [(n, v)]))) := by
  subst hr
  have hx : (w.alloc (mapObj q l)).heap[w.heap.size]? = some (mapObj q l) := by
    show (w.heap.push _)[w.heap.size]? = _
    simp
  obtain ⟨m, hf⟩ := find_ents q n l 0 0
  rw [hn] at hf
  have hs := set_alloc w (mapObj q l) (mapObj q (l ++ [(n, v)]))
  unfold mapObj at hs hx ⊢
  simp [Instr.mapUpdate, run_underlying hT, run_checkKey_int 9999 K q hK, Instr.findKey, run_underlying hK, hf, Result.andThen, MapKept.run_getObj_map hx, MapKept.run_setObj_map _ hx]
  simp only [List.length_append, List.length_cons, List.length_nil, Nat.zero_add] at hs
  have he : (ents q 0 l ++ [{ key := .int q n, val := v, born := l.length }]) = ents q 0 (l ++ [(n, v)]) := by rw [ents_snoc]; simp
  rw [he]
  exact hs

/-- The map in block r is asked for a key. -/
theorem run_ask (T K E : TypeId) (q : IntKind) (hT : P.underlying T = some (.map K E)) (hK : P.underlying K = some (.int q)) (z : Value) (hz : ∀ w : World, (zeroValue E).run P w = .ok z w) (w : World) (r : Nat) (l : List (Int × Value)) (n : Int)
    (hr : w.heap[r]? = some (mapObj q l)) : (Instr.lookup T (.map (some r)) (.int q n) false).run P w = .ok ((lk l n).getD z) w := by
  obtain ⟨m, hf⟩ := find_ents q n l 0 0
  unfold mapObj at hr
  cases h : lk l n <;> rw [h] at hf <;>
    simp [Instr.lookup, run_underlying hT, run_checkKey_int 9999 K q hK, Instr.findKey, run_underlying hK, hf, Result.andThen, MapKept.run_getObj_map hr, hz]

theorem run_ask2 (T K E : TypeId) (q : IntKind) (hT : P.underlying T = some (.map K E)) (hK : P.underlying K = some (.int q)) (z : Value) (hz : ∀ w : World, (zeroValue E).run P w = .ok z w) (w : World) (r : Nat) (l : List (Int × Value)) (n : Int)
    (hr : w.heap[r]? = some (mapObj q l)) : (Instr.lookup T (.map (some r)) (.int q n) true).run P w = .ok (.tuple #[(lk l n).getD z, .bool (lk l n).isSome]) w := by
  obtain ⟨m, hf⟩ := find_ents q n l 0 0
  unfold mapObj at hr
  cases h : lk l n <;> rw [h] at hf <;>
    simp [Instr.lookup, run_underlying hT, run_checkKey_int 9999 K q hK, Instr.findKey, run_underlying hK, hf, Result.andThen, MapKept.run_getObj_map hr, hz]
theorem ask_last (w : World) (o : Obj) (r : Nat) (hr : r = w.heap.size) : (w.alloc o).heap[r]? = some o := by
  subst hr
  show (w.heap.push _)[w.heap.size]? = _
  simp
/-- Laid ahead of a walk: the map that is the world's last block is asked for a key. -/
theorem run_askLast (T K E : TypeId) (q : IntKind) (hT : P.underlying T = some (.map K E)) (hK : P.underlying K = some (.int q)) (z : Value) (hz : ∀ w : World, (zeroValue E).run P w = .ok z w) (w : World) (r : Nat) (l : List (Int × Value)) (n : Int)
    (hr : r = w.heap.size) : (Instr.lookup T (.map (some r)) (.int q n) false).run P (w.alloc (mapObj q l)) = .ok ((lk l n).getD z) (w.alloc (mapObj q l)) :=
  run_ask T K E q hT hK z hz _ r l n (ask_last _ _ _ hr)
theorem run_askLast2 (T K E : TypeId) (q : IntKind) (hT : P.underlying T = some (.map K E)) (hK : P.underlying K = some (.int q)) (z : Value) (hz : ∀ w : World, (zeroValue E).run P w = .ok z w) (w : World) (r : Nat) (l : List (Int × Value)) (n : Int)
    (hr : r = w.heap.size) : (Instr.lookup T (.map (some r)) (.int q n) true).run P (w.alloc (mapObj q l)) = .ok (.tuple #[(lk l n).getD z, .bool (lk l n).isSome]) (w.alloc (mapObj q l)) :=
  run_ask2 T K E q hT hK z hz _ r l n (ask_last _ _ _ hr)
end
end Jq
