/-
  Maps of whole numbers in any block: an entry is laid or turned. No program in sight.
-/
import Derived.Test.YtjlehpgfhlkjlaaCk1
import Derived.Test.YtjlehpgfhlkjlaaPRun
set_option linter.all false
namespace Jq
open Go Go.RowKit
theorem ents_len (q : IntKind) : ∀ (l : List (Int × Value)) (i : Nat), (ents q i l).length = l.length
  | [], _ => rfl
  | (_, _) :: l, i => by simp [ents, ents_len q l]
theorem ents_get (q : IntKind) : ∀ (l : List (Int × Value)) (i j : Nat) (h : j < l.length), (ents q i l)[j]? = some { key := .int q l[j].1, val := l[j].2, born := i + j }
  | (k, v) :: l, i, 0, _ => by simp [ents]
  | (k, v) :: l, i, j + 1, h => by
    simp only [ents, List.getElem?_cons_succ, List.getElem_cons_succ]
    rw [ents_get q l (i + 1) j (by simpa using h)]
    simp only [Option.some.injEq, MapEntry.mk.injEq, true_and]
    omega
/-- Where a key stands. -/
def spotOf : List (Int × Value) → Int → Nat
  | [], _ => 0
  | (k, _) :: l, n => if n = k then 0 else spotOf l n + 1
theorem find_at (q : IntKind) (n : Int) : ∀ (l : List (Int × Value)) (i j : Nat) (v : Value), lk l n = some v → Instr.findNow (.int q) (.int q n) (ents q i l) j = some (some (j + spotOf l n, v))
  | [], _, _, _, h => by simp [lk] at h
  | (k, x) :: l, i, j, v, h => by
    by_cases hk : n = k
    · subst hk
      simp [lk] at h
      subst h
      simp [ents, Instr.findNow, Instr.sameNow, spotOf]
    · rw [lk, if_neg hk] at h
      have hb : (n == k) = false := by simpa using hk
      have ih := find_at q n l (i + 1) (j + 1) v h
      simp [ents, Instr.findNow, Instr.sameNow, spotOf, hk, hb, ih]
      omega
theorem find_none (q : IntKind) (n : Int) (l : List (Int × Value)) (h : lk l n = none) : Instr.findNow (.int q) (.int q n) (ents q 0 l) 0 = some none := by
  obtain ⟨m, hm⟩ := find_ents q n l 0 0
  rw [h] at hm
  exact hm
theorem ents_put (q : IntKind) (n : Int) (v : Value) : ∀ (l : List (Int × Value)) (i : Nat) (x : Value), lk l n = some x →
    (ents q i l).modify (spotOf l n) (fun e => { e with key := .int q n, val := v }) = ents q i (putE l n v)
  | [], _, _, h => by simp [lk] at h
  | (k, y) :: l, i, x, h => by
    by_cases hk : n = k
    · subst hk
      simp [ents, spotOf, putE]
    · rw [lk, if_neg hk] at h
      have ih := ents_put q n v l (i + 1) x h
      simp only [ents, spotOf, putE, if_neg hk, List.modify_succ_cons, ih]
theorem putE_len_old (n : Int) (v : Value) : ∀ (l : List (Int × Value)) (x : Value), lk l n = some x → (putE l n v).length = l.length
  | [], _, h => by simp [lk] at h
  | (k, y) :: l, x, h => by
    by_cases hk : n = k
    · simp [putE, hk]
    · rw [lk, if_neg hk] at h
      simp [putE, hk, putE_len_old n v l x h]
theorem spot_key (n : Int) : ∀ (l : List (Int × Value)) (x : Value), lk l n = some x → ∃ h : spotOf l n < l.length, (l[spotOf l n]'h).1 = n
  | [], _, h => by simp [lk] at h
  | (k, y) :: l, x, h => by
    by_cases hk : n = k
    · exact ⟨by simp [spotOf, hk], by simp [spotOf, hk]⟩
    · rw [lk, if_neg hk] at h
      obtain ⟨h1, h2⟩ := spot_key n l x h
      exact ⟨by simp [spotOf, hk]; exact h1, by simp [spotOf, hk, h2]⟩
/-- A block's map is another one. -/
def setMap (w : World) (r : Nat) (o : Obj) : World := { w with heap := w.heap.setIfInBounds r o }
theorem setMap_self {w : World} {r : Nat} {o : Obj} (h : r < w.heap.size) : (setMap w r o).heap[r]? = some o := by
  simp [setMap, h]
theorem setMap_other {w : World} {r k : Nat} {o : Obj} (h : k ≠ r) : (setMap w r o).heap[k]? = w.heap[k]? := by
  simp [setMap, Array.getElem?_setIfInBounds, Ne.symm h]
theorem setMap_size {w : World} {r : Nat} {o : Obj} : (setMap w r o).heap.size = w.heap.size := by simp [setMap]
section
variable {P : Program}
theorem run_putKey (T K E : TypeId) (q : IntKind) (hT : P.underlying T = some (.map K E)) (hK : P.underlying K = some (.int q)) (w : World) (r : Nat) (l : List (Int × Value)) (n : Int) (v : Value)
    (hr : w.heap[r]? = some (mapObj q l)) : (Instr.mapUpdate T (.map (some r)) (.int q n) v).run P w = .ok () (setMap w r (mapObj q (putE l n v))) := by
  have hx := hr
  unfold mapObj at hx
  cases hl : lk l n with
  | none =>
    have hf := find_none q n l hl
    rw [putE_new l n v hl]
    unfold mapObj setMap
    simp [Instr.mapUpdate, run_underlying hT, run_checkKey_int 9999 K q hK, Instr.findKey, run_underlying hK, hf, Result.andThen, MapKept.run_getObj_map hx, MapKept.run_setObj_map _ hx]
    have he : (ents q 0 l ++ [{ key := .int q n, val := v, born := l.length }]) = ents q 0 (l ++ [(n, v)]) := by rw [ents_snoc]; simp
    rw [he]
  | some x =>
    have hf := find_at q n l 0 0 x hl
    have hp := ents_put q n v l 0 x hl
    have hlen := putE_len_old n v l x hl
    obtain ⟨h1, h2⟩ := spot_key n l x hl
    have hg := ents_get q l 0 (spotOf l n) h1
    unfold mapObj setMap
    simp [Instr.mapUpdate, run_underlying hT, run_checkKey_int 9999 K q hK, Instr.findKey, run_underlying hK, hf, Result.andThen, MapKept.run_getObj_map hx, MapKept.run_setObj_map _ hx, hg, h2, Instr.keyThatStays]
    have hs : Instr.sameBits 10000 (Value.int q n) (Value.int q n) = true := by simp [Instr.sameBits]
    rw [if_pos hs]
    simp only []
    rw [MapKept.run_setObj_map _ hx, hp, hlen]
end
/-- What a map holds under a number, as a whole number (0, where there is none). -/
def lkI (l : List (Int × Value)) (n : Int) : Int := match lk l n with | some (.int _ v) => v | _ => 0
theorem Chg.setMap {F : Nat → Prop} {w w1 : World} (h : Chg F w w1) (r : Nat) (o : Obj) (hf : F r ∨ w.heap.size ≤ r) : Chg F w (setMap w1 r o) := by
  refine ⟨h.os, h.tape, h.output, by rw [setMap_size]; exact h.size, fun k hk hn => (setMap_other ?_).trans (h.block k hk hn)⟩
  rintro rfl
  rcases hf with hf | hf
  · exact hn hf
  · omega
end Jq
