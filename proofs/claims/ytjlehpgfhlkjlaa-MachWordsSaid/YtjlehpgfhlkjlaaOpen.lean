/-
  What a caller hands in, of the program's types.
-/
import Derived.Test.YtjlehpgfhlkjlaaOpenG
import Derived.Test.YtjlehpgfhlkjlaaChecked
set_option linter.all false
namespace Go.Proofs.Ytjlehpgfhlkjlaa
open Go Go.RowKit Jq Go.ChangeShapes
theorem opInt : Opens Try.prog kI 3 Fits64 := opens_int Try.underlying3
theorem opW : Opens Try.prog kW 21 Fits32 := opens_word Try.underlying21
theorem opInts : Opens Try.prog kI.sl 38 fun s => s.l.length * 8 ≤ 140737488351232 ∧ ∀ x, x ∈ s.l → Fits64 x := opens_slice Try.underlying38 (by kernel_rfl) (by decide) 8 (by kernel_rfl) (by decide) opInt
theorem opWs : Opens Try.prog kW.sl 25 fun s => s.l.length * 4 ≤ 140737488351232 ∧ ∀ x, x ∈ s.l → Fits32 x := opens_slice Try.underlying25 (by kernel_rfl) (by decide) 4 (by kernel_rfl) (by decide) opW
abbrev IntsOk (s : Sl Int) : Prop := s.l.length * 8 ≤ 140737488351232 ∧ ∀ x, x ∈ s.l → Fits64 x
abbrev WordsOk (s : Sl Int) : Prop := s.l.length * 4 ≤ 140737488351232 ∧ ∀ x, x ∈ s.l → Fits32 x
structure MachOk (x : Mach Sl) : Prop where
  op : Fits64 x.op
  d : Fits64 x.d
  e : Fits64 x.e
  a : Fits64 x.a
  b : Fits64 x.b
  c : Fits64 x.c
  imm : Fits32 x.imm
  args : IntsOk x.args
theorem opMach : Opens Try.prog kMach 40 MachOk := by
  intro H enc w fuel cs x hx hw
  obtain ⟨hl, hf⟩ := opens_struct Try.underlying40 hx hw
  have hl : cs.length = 8 := hl.trans (by kernel_rfl)
  have g0 := hf 0 _ kI Fits64 0 1 rfl rfl (by kernel_rfl) opInt
  have g1 := hf 1 _ kI Fits64 1 1 rfl rfl (by kernel_rfl) opInt
  have g2 := hf 2 _ kI Fits64 2 1 rfl rfl (by kernel_rfl) opInt
  have g3 := hf 3 _ kI Fits64 3 1 rfl rfl (by kernel_rfl) opInt
  have g4 := hf 4 _ kI Fits64 4 1 rfl rfl (by kernel_rfl) opInt
  have g5 := hf 5 _ kI Fits64 5 1 rfl rfl (by kernel_rfl) opInt
  have g6 := hf 6 _ kW Fits32 6 1 rfl rfl (by kernel_rfl) opW
  have g7 := hf 7 _ kI.sl IntsOk 7 1 rfl rfl (by kernel_rfl) opInts
  clear hf hx hw
  match cs, hl with
  | [c0, c1, c2, c3, c4, c5, c6, c7], _ =>
    obtain ⟨y0, e0, _, o0⟩ := g0
    obtain ⟨y1, e1, _, o1⟩ := g1
    obtain ⟨y2, e2, _, o2⟩ := g2
    obtain ⟨y3, e3, _, o3⟩ := g3
    obtain ⟨y4, e4, _, o4⟩ := g4
    obtain ⟨y5, e5, _, o5⟩ := g5
    obtain ⟨y6, e6, _, o6⟩ := g6
    obtain ⟨y7, e7, r7, o7⟩ := g7
    simp [kI, kW, Kd.scalar, Kd.sl] at e0 e1 e2 e3 e4 e5 e6 e7
    subst e0 e1 e2 e3 e4 e5 e6 e7
    exact ⟨⟨y0, y1, y2, y3, y4, y5, y6, y7⟩, rfl, r7, o0, o1, o2, o3, o4, o5, o6, o7⟩
end Go.Proofs.Ytjlehpgfhlkjlaa
