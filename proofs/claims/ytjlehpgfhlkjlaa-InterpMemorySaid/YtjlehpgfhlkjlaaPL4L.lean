/-
  The runs of InterpLoop: plain.
-/
import Derived.Test.YtjlehpgfhlkjlaaL4
set_option linter.all false
namespace Jq
open Go Go.RowKit
def Floop : Jq.Func List := ⟨2, [⟨[], [⟨1, 2, 0, [], 0⟩], ⟨1, [], [1], 0⟩⟩, ⟨[⟨3, [⟨0, 2⟩, ⟨2, 7⟩]⟩, ⟨4, [⟨0, 1⟩, ⟨2, 8⟩]⟩], [⟨12, 5, 0, [3, 0], 0⟩], ⟨2, [5], [2, 3], 0⟩⟩, ⟨[], [⟨1, 6, 0, [], 1⟩, ⟨2, 7, 0, [3, 6], 0⟩, ⟨2, 8, 0, [4, 3], 0⟩], ⟨1, [], [1], 0⟩⟩, ⟨[], [], ⟨4, [4], [], 0⟩⟩]⟩
theorem step_go {s : IS} {lim : Int} (hf : s.fin = 0) (h : s.steps < lim) : s.step lim = ({ s with steps := s.steps + 1 }, true) := by
  have h2 : ¬ lim ≤ s.steps := by omega
  simp [IS.step, IS.stop, hf, h2]
theorem step_stop {s : IS} {lim : Int} (hf : s.fin = 0) (h : lim ≤ s.steps) : s.step lim = (s.end_ 3 0, false) := by
  simp [IS.step, IS.stop, hf, h, IS.end_]
/-- Ahead of the loop's head. -/
structure LS (k src i acc st : Int) (s : IS) : Prop where
  v0 : s.vals 0 = k
  v : src = 0 ∧ s.vals 2 = i ∧ s.vals 1 = acc ∨ src = 2 ∧ s.vals 7 = i ∧ s.vals 8 = acc
  fin : s.fin = 0
  val : s.val = 0
  mem : s.mem = []
  calls : s.calls = []
  steps : s.steps = st
/-- Behind the loop's head. -/
structure BS (k i acc st : Int) (s : IS) : Prop where
  v0 : s.vals 0 = k
  v3 : s.vals 3 = i
  v4 : s.vals 4 = acc
  fin : s.fin = 0
  val : s.val = 0
  mem : s.mem = []
  calls : s.calls = []
  steps : s.steps = st
def cut3 (lim : Int) : Outcome List := ⟨3, 0, [], [], lim⟩
theorem phis_loop {k src i acc st : Int} {s : IS} (h : LS k src i acc st s) : ∃ s1, phisI [⟨3, [⟨0, 2⟩, ⟨2, 7⟩]⟩, ⟨4, [⟨0, 1⟩, ⟨2, 8⟩]⟩] src s = some s1 ∧ BS k i acc st s1 := by
  obtain ⟨v0, v, fin, val, mem, calls, steps⟩ := h
  rcases v with ⟨rfl, v1, v2⟩ | ⟨rfl, v1, v2⟩
  · refine ⟨_, rfl, ?_⟩
    constructor <;> simp [*, putV, getV]
  · refine ⟨_, rfl, ?_⟩
    constructor <;> simp [*, putV, getV]
theorem b1_stop {k src i acc st lim : Int} {s : IS} (n : Nat) (h : LS k src i acc st s) (h1 : st ≤ lim) (h2 : lim < st + 2) : (blocksI Floop.blocks lim (n + 1) 1 src s).map IS.out = some (cut3 lim) := by
  obtain ⟨s1, hp, b⟩ := phis_loop h
  have e : (Floop.blocks)[(1 : Int).toNat]? = some ⟨[⟨3, [⟨0, 2⟩, ⟨2, 7⟩]⟩, ⟨4, [⟨0, 1⟩, ⟨2, 8⟩]⟩], [⟨12, 5, 0, [3, 0], 0⟩], ⟨2, [5], [2, 3], 0⟩⟩ := rfl
  rw [blocksI, if_neg (by decide), e]
  simp only [hp]
  by_cases hA : lim ≤ st
  · have hl : lim = st := by omega
    rw [inssI, step_stop b.fin (by rw [b.steps]; exact hA)]
    simp [IS.out, IS.end_, cut3, b.mem, b.calls, b.steps, hl]
  · rw [inssI, step_go b.fin (by rw [b.steps]; omega)]
    have hl : lim = st + 1 := by omega
    simp [insI, IS.words, wdo, IS.put, inssI, IS.step, IS.stop, IS.end_, b.fin, b.steps, hl, IS.out, cut3, b.mem, b.calls]
theorem b1_go {k src i acc st lim : Int} {s : IS} (n : Nat) (h : LS k src i acc st s) (h2 : st + 2 ≤ lim) : ∃ s2, BS k i acc (st + 2) s2 ∧ blocksI Floop.blocks lim (n + 1) 1 src s = blocksI Floop.blocks lim n (if i < k then 2 else 3) 1 s2 := by
  obtain ⟨s1, hp, b⟩ := phis_loop h
  have e : (Floop.blocks)[(1 : Int).toNat]? = some ⟨[⟨3, [⟨0, 2⟩, ⟨2, 7⟩]⟩, ⟨4, [⟨0, 1⟩, ⟨2, 8⟩]⟩], [⟨12, 5, 0, [3, 0], 0⟩], ⟨2, [5], [2, 3], 0⟩⟩ := rfl
  rw [blocksI, if_neg (by decide), e]
  simp only [hp]
  have q1 : ¬ lim ≤ st := by omega
  have q2 : ¬ lim ≤ st + 1 := by omega
  by_cases hik : i < k
  · refine ⟨{ s1 with vals := putF s1.vals 5 1, steps := st + 2 }, ?_, ?_⟩
    · constructor <;> simp [putF, b.v0, b.v3, b.v4, b.fin, b.val, b.mem, b.calls]
    · simp [inssI, insI, IS.words, wdo, IS.put, IS.step, IS.stop, IS.end_, b.fin, b.steps, q1, q2, termI, b.v3, b.v0, hik, putF, Int.add_assoc]
  · refine ⟨{ s1 with vals := putF s1.vals 5 0, steps := st + 2 }, ?_, ?_⟩
    · constructor <;> simp [putF, b.v0, b.v3, b.v4, b.fin, b.val, b.mem, b.calls]
    · simp [inssI, insI, IS.words, wdo, IS.put, IS.step, IS.stop, IS.end_, b.fin, b.steps, q1, q2, termI, b.v3, b.v0, hik, putF, Int.add_assoc]
theorem b2_stop {k i acc st lim : Int} {s : IS} (n : Nat) (b : BS k i acc st s) (h1 : st ≤ lim) (h2 : lim < st + 4) : (blocksI Floop.blocks lim (n + 1) 2 1 s).map IS.out = some (cut3 lim) := by
  have e : (Floop.blocks)[(2 : Int).toNat]? = some ⟨[], [⟨1, 6, 0, [], 1⟩, ⟨2, 7, 0, [3, 6], 0⟩, ⟨2, 8, 0, [4, 3], 0⟩], ⟨1, [], [1], 0⟩⟩ := rfl
  rw [blocksI, if_neg (by decide), e]
  have hl : lim = st ∨ lim = st + 1 ∨ lim = st + 2 ∨ lim = st + 3 := by omega
  have a2 : st + 1 + 1 = st + 2 := by omega
  have a3 : st + 2 + 1 = st + 3 := by omega
  rcases hl with rfl | rfl | rfl | rfl
  · simp [phisI, nextI, inssI, insI, IS.words, wdo, IS.put, IS.step, IS.stop, IS.end_, b.fin, b.steps, IS.out, cut3, b.mem, b.calls, b.val]
  · simp [phisI, nextI, inssI, insI, IS.words, wdo, IS.put, IS.step, IS.stop, IS.end_, b.fin, b.steps, IS.out, cut3, b.mem, b.calls, b.val, show ¬ st + 1 ≤ st by omega]
  · simp [phisI, nextI, inssI, insI, IS.words, wdo, IS.put, IS.step, IS.stop, IS.end_, b.fin, b.steps, IS.out, cut3, b.mem, b.calls, b.val, show ¬ st + 2 ≤ st by omega, show ¬ st + 2 ≤ st + 1 by omega, a2]
  · simp [phisI, nextI, inssI, insI, IS.words, wdo, IS.put, IS.step, IS.stop, IS.end_, b.fin, b.steps, IS.out, cut3, b.mem, b.calls, b.val, show ¬ st + 3 ≤ st by omega, show ¬ st + 3 ≤ st + 1 by omega, show ¬ st + 3 ≤ st + 2 by omega, a2, a3]
theorem b2_go {k i acc st lim : Int} {s : IS} (n : Nat) (b : BS k i acc st s) (h2 : st + 4 ≤ lim) : ∃ s2, LS k 2 (wrap32 (i + 1)) (wrap32 (acc + i)) (st + 4) s2 ∧ blocksI Floop.blocks lim (n + 1) 2 1 s = blocksI Floop.blocks lim n 1 2 s2 := by
  have e : (Floop.blocks)[(2 : Int).toNat]? = some ⟨[], [⟨1, 6, 0, [], 1⟩, ⟨2, 7, 0, [3, 6], 0⟩, ⟨2, 8, 0, [4, 3], 0⟩], ⟨1, [], [1], 0⟩⟩ := rfl
  rw [blocksI, if_neg (by decide), e]
  have a2 : st + 1 + 1 = st + 2 := by omega
  have a3 : st + 2 + 1 = st + 3 := by omega
  have a4 : st + 3 + 1 = st + 4 := by omega
  refine ⟨{ s with vals := putF (putF (putF s.vals 6 1) 7 (wrap32 (i + 1))) 8 (wrap32 (acc + i)), steps := st + 4 }, ?_, ?_⟩
  · constructor <;> simp [putF, b.v0, b.v3, b.v4, b.fin, b.val, b.mem, b.calls]
  · simp [phisI, nextI, inssI, insI, IS.words, wdo, IS.put, IS.step, IS.stop, IS.end_, b.fin, b.steps, show ¬ lim ≤ st by omega, show ¬ lim ≤ st + 1 by omega, show ¬ lim ≤ st + 2 by omega, show ¬ lim ≤ st + 3 by omega, a2, a3, a4, termI, putF, b.v3, b.v4]
theorem b3_run {k i acc st lim : Int} {s : IS} (n : Nat) (b : BS k i acc st s) (h1 : st ≤ lim) : (blocksI Floop.blocks lim (n + 1) 3 1 s).map IS.out = some (if lim ≤ st then cut3 lim else ⟨1, acc, [], [], st + 1⟩) := by
  have e : (Floop.blocks)[(3 : Int).toNat]? = some ⟨[], [], ⟨4, [4], [], 0⟩⟩ := rfl
  rw [blocksI, if_neg (by decide), e]
  by_cases h : lim ≤ st
  · have hl : lim = st := by omega
    simp [phisI, nextI, inssI, IS.step, IS.stop, IS.end_, b.fin, b.steps, IS.out, cut3, b.mem, b.calls, hl]
  · simp [phisI, nextI, inssI, IS.step, IS.stop, IS.end_, b.fin, b.steps, IS.out, cut3, b.mem, b.calls, h, termI, IS.words, b.v4]
def tri : Nat → Int
  | 0 => 0
  | n + 1 => tri n + n
theorem wrap_add (x y : Int) : wrap32 (wrap32 x + y) = wrap32 (x + y) := by unfold wrap32; omega
theorem wrap_small {x : Int} (h1 : 0 ≤ x) (h2 : x ≤ 2147483647) : wrap32 x = x := by unfold wrap32; omega
theorem loop_run (a lim : Int) (m : Nat) (hm : m ≤ 60) (d : Nat) : ∀ (i : Nat) (st src : Int) (s : IS), i + d = m → LS m src i (wrap32 (a + tri i)) st s → st ≤ lim →
    (blocksI Floop.blocks lim (2 * d + 2) 1 src s).map IS.out = some (if lim < st + 6 * d + 3 then cut3 lim else ⟨1, wrap32 (a + tri m), [], [], st + 6 * d + 3⟩) := by
  induction d with
  | zero =>
    intro i st src s hi h hl
    obtain rfl : i = m := by omega
    by_cases h2 : lim < st + 2
    · rw [b1_stop 1 h hl h2, if_pos (by omega)]
    · obtain ⟨s2, b, e⟩ := b1_go (lim := lim) 1 h (by omega)
      rw [e, if_neg (by omega), b3_run 0 b (by omega)]
      by_cases h3 : lim ≤ st + 2
      · rw [if_pos h3, if_pos (by omega)]
      · rw [if_neg h3, if_neg (by omega)]
        congr 2
        omega
  | succ d ih =>
    intro i st src s hi h hl
    have hn : 2 * (d + 1) + 2 = 2 * d + 2 + 1 + 1 := by omega
    rw [hn]
    by_cases h2 : lim < st + 2
    · rw [b1_stop _ h hl h2, if_pos (by omega)]
    · obtain ⟨s2, b, e⟩ := b1_go (lim := lim) (2 * d + 2 + 1) h (by omega)
      rw [e, if_pos (by omega)]
      by_cases h4 : lim < st + 2 + 4
      · rw [b2_stop _ b (by omega) h4, if_pos (by omega)]
      · obtain ⟨s3, b3, e3⟩ := b2_go (lim := lim) (2 * d + 2) b (by omega)
        rw [e3]
        rw [wrap_add, wrap_small (by omega) (by omega)] at b3
        have ea : a + tri i + (i : Int) = a + tri (i + 1) := by simp only [tri]; omega
        rw [ea] at b3
        rw [ih (i + 1) (st + 2 + 4) 2 s3 (by omega) (by simpa using b3) (by omega)]
        by_cases h5 : lim < st + 6 * ((d + 1 : Nat) : Int) + 3
        · rw [if_pos h5, if_pos (by omega)]
        · rw [if_neg h5, if_neg (by omega)]
          congr 2
          omega
theorem tri_eq (n : Nat) : 2 * tri n = n * (n - 1) := by
  induction n with
  | zero => rfl
  | succ n ih =>
    simp only [tri, Int.mul_add, ih]
    push_cast
    rw [Int.mul_sub, Int.add_mul, Int.mul_sub, Int.mul_add]
    omega
def loopOut (m : Nat) (a lim : Int) : Outcome List := if lim < 5 + 6 * (m : Int) then cut3 lim else ⟨1, wrap32 (a + tri m), [], [], 5 + 6 * (m : Int)⟩
theorem run_loop (m : Nat) (hm : m ≤ 60) (a lim : Int) (ha : wrap32 a = a) (hl : 0 ≤ lim) : (runI Floop ⟨[(m : Int), a], [], [], lim⟩ (2 * m + 3)).map IS.out = some (loopOut m a lim) := by
  have e : (Floop.blocks)[(0 : Int).toNat]? = some ⟨[], [⟨1, 2, 0, [], 0⟩], ⟨1, [], [1], 0⟩⟩ := rfl
  have e0 : is0 Floop.params ⟨[(m : Int), a], [], [], lim⟩ = ⟨putF (putF (fun _ => 0) 0 m) 1 a, 0, 0, [], [], 0, []⟩ := by
    simp [is0, Floop, argsI]
  show (blocksI Floop.blocks lim (2 * m + 2 + 1) 0 (-1) (is0 Floop.params ⟨[(m : Int), a], [], [], lim⟩)).map IS.out = _
  rw [e0, blocksI, if_neg (by decide), e]
  unfold loopOut
  by_cases h0 : lim = 0
  · subst h0
    rw [if_pos (by omega)]
    simp [phisI, nextI, inssI, IS.step, IS.stop, IS.end_, IS.out, cut3]
  by_cases h1 : lim = 1
  · subst h1
    rw [if_pos (by omega)]
    simp [phisI, nextI, inssI, insI, IS.put, IS.step, IS.stop, IS.end_, IS.out, cut3]
  have q0 : ¬ lim ≤ 0 := by omega
  have q1 : ¬ lim ≤ 1 := by omega
  have hL : LS m 0 (0 : Nat) (wrap32 (a + tri 0)) 2 ⟨putF (putF (putF (fun _ => 0) 0 m) 1 a) 2 0, 0, 0, [], [], 2, []⟩ := by
    have ha0 : wrap32 (a + tri 0) = a := by simp [tri, ha]
    rw [ha0]
    constructor <;> simp [putF]
  have h := loop_run a lim m hm m 0 2 0 _ (by omega) hL (by omega)
  have e5 : (2 : Int) + 6 * (m : Int) + 3 = 5 + 6 * (m : Int) := by omega
  rw [e5] at h
  rw [← h]
  simp [phisI, nextI, inssI, insI, IS.put, IS.step, IS.stop, IS.end_, q0, q1, termI]
theorem rows_loop : rowsOf Floop = [[1], [2, 3], [1], []] := by
  show [keptOf 4 [1], keptOf 4 [2, 3], keptOf 4 [1], keptOf 4 []] = _
  rw [Go.Proofs.Ytjlehpgfhlkjlaa.keptOf_nil, keptOf_sorted 4 [1] (by simp) (by simp), keptOf_sorted 4 [2, 3] (by simp) (by simp)]
theorem runs_loop (m : Nat) (hm : m ≤ 60) (a lim : Int) (ha : wrap32 a = a) (hl : 0 ≤ lim) (hl2 : lim ≤ 1000) : RunsTo Floop ⟨[(m : Int), a], [], [], lim⟩ (loopOut m a lim) := by
  refine ⟨⟨8, 2 * m + 3, by rw [rows_loop]; decide, run_loop m hm a lim ha hl⟩, by decide, by decide, by show lim ≤ _; omega⟩
end Jq
