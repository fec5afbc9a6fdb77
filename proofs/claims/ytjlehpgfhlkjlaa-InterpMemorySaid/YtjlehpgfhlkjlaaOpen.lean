/-
  What a caller hands in, of the program's types.
-/
import Derived.Test.YtjlehpgfhlkjlaaOpenG
import Derived.Test.YtjlehpgfhlkjlaaChecked
set_option linter.all false
namespace Go.Proofs.Ytjlehpgfhlkjlaa
open Go Go.RowKit Jq Go.ChangeShapes
theorem opInt : Opens Try.prog kI 3 Fits64 := opens_int Try.underlying3
theorem opW : Opens Try.prog kW 21 Fits32 := opens_word Try.underlying21
theorem opInts : Opens Try.prog kI.sl 38 fun s => s.l.length * 8 ≤ 140737488351232 ∧ ∀ x, x ∈ s.l → Fits64 x := opens_slice Try.underlying38 (by kernel_rfl) (by decide) 8 (by kernel_rfl) (by decide) opInt
theorem opWs : Opens Try.prog kW.sl 25 fun s => s.l.length * 4 ≤ 140737488351232 ∧ ∀ x, x ∈ s.l → Fits32 x := opens_slice Try.underlying25 (by kernel_rfl) (by decide) 4 (by kernel_rfl) (by decide) opW
abbrev IntsOk (s : Sl Int) : Prop := s.l.length * 8 ≤ 140737488351232 ∧ ∀ x, x ∈ s.l → Fits64 x
abbrev WordsOk (s : Sl Int) : Prop := s.l.length * 4 ≤ 140737488351232 ∧ ∀ x, x ∈ s.l → Fits32 x
structure MachOk (x : Mach Sl) : Prop where
  op : Fits64 x.op
  d : Fits64 x.d
  e : Fits64 x.e
  a : Fits64 x.a
  b : Fits64 x.b
  c : Fits64 x.c
  imm : Fits32 x.imm
  args : IntsOk x.args
theorem opMach : Opens Try.prog kMach 40 MachOk := by
  intro H enc w fuel cs x hx hw
  obtain ⟨hl, hf⟩ := opens_struct Try.underlying40 hx hw
  have hl : cs.length = 8 := hl.trans (by kernel_rfl)
  have g0 := hf 0 _ kI Fits64 0 1 rfl rfl (by kernel_rfl) opInt
  have g1 := hf 1 _ kI Fits64 1 1 rfl rfl (by kernel_rfl) opInt
  have g2 := hf 2 _ kI Fits64 2 1 rfl rfl (by kernel_rfl) opInt
  have g3 := hf 3 _ kI Fits64 3 1 rfl rfl (by kernel_rfl) opInt
  have g4 := hf 4 _ kI Fits64 4 1 rfl rfl (by kernel_rfl) opInt
  have g5 := hf 5 _ kI Fits64 5 1 rfl rfl (by kernel_rfl) opInt
  have g6 := hf 6 _ kW Fits32 6 1 rfl rfl (by kernel_rfl) opW
  have g7 := hf 7 _ kI.sl IntsOk 7 1 rfl rfl (by kernel_rfl) opInts
  clear hf hx hw
  match cs, hl with
  | [c0, c1, c2, c3, c4, c5, c6, c7], _ =>
    obtain ⟨y0, e0, _, o0⟩ := g0
    obtain ⟨y1, e1, _, o1⟩ := g1
    obtain ⟨y2, e2, _, o2⟩ := g2
    obtain ⟨y3, e3, _, o3⟩ := g3
    obtain ⟨y4, e4, _, o4⟩ := g4
    obtain ⟨y5, e5, _, o5⟩ := g5
    obtain ⟨y6, e6, _, o6⟩ := g6
    obtain ⟨y7, e7, r7, o7⟩ := g7
    simp [kI, kW, Kd.scalar, Kd.sl] at e0 e1 e2 e3 e4 e5 e6 e7
    subst e0 e1 e2 e3 e4 e5 e6 e7
    exact ⟨⟨y0, y1, y2, y3, y4, y5, y6, y7⟩, rfl, r7, o0, o1, o2, o3, o4, o5, o6, o7⟩
theorem opRow16 : Opens Try.prog (kRow 16) 41 fun x => ∀ y, y ∈ x.1 → Fits32 y := by
  intro H enc w fuel cs x hx hw
  obtain ⟨hl, l, hll, hp⟩ := opens_array Try.underlying41 (by kernel_rfl) opW enc w fuel cs x hx hw
  have hl : cs.length = 16 := hl.trans (by kernel_rfl)
  refine ⟨⟨l, hll⟩, ?_, trivial, fun y hy => ?_⟩
  · refine List.ext_getElem (by simp [kRow, hl, hll]) fun i h1 h2 => ?_
    have h3 := (hp i (by omega)).1
    simp only [kW, Kd.scalar, Nat.mul_one] at h3
    have h4 : ((cs.drop i).take 1)[0]? = some (.int .i32 (l[i]'(by omega))) := by rw [h3]; rfl
    rw [List.getElem?_take_of_lt (by omega), List.getElem?_drop, Nat.add_zero, List.getElem?_eq_getElem h1] at h4
    simpa [kRow] using h4
  · obtain ⟨i, hi, rfl⟩ := List.mem_iff_getElem.1 hy
    exact (hp i hi).2.2
theorem opRegs2 : Opens Try.prog (kRow 32) 42 fun x => ∀ y, y ∈ x.1 → Fits32 y := by
  intro H enc w fuel cs x hx hw
  obtain ⟨hl, l, hll, hp⟩ := opens_array Try.underlying42 (by kernel_rfl) opRow16 enc w fuel cs x hx hw
  have hl : cs.length = 32 := hl.trans (by kernel_rfl)
  have h0 := hp 0 (by omega)
  have h1 := hp 1 (by omega)
  simp only [kRow, Nat.zero_mul, Nat.one_mul, List.drop_zero] at h0 h1
  refine ⟨⟨l[0].1 ++ l[1].1, by simp [l[0].2, l[1].2]⟩, ?_, trivial, fun y hy => ?_⟩
  · simp only [kRow, List.map_append]
    rw [← h0.1, ← h1.1]
    have : (cs.drop 16).take 16 = cs.drop 16 := List.take_of_length_le (by simp; omega)
    rw [this, List.take_append_drop]
  · rcases List.mem_append.1 hy with hy | hy
    · exact h0.2.2 y hy
    · exact h1.2.2 y hy
end Go.Proofs.Ytjlehpgfhlkjlaa
