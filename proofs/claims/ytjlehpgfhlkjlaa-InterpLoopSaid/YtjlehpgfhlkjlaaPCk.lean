/-
  What check.looker.shape comes to, on the road where nothing is wrong: plain.
-/
import Derived.Test.YtjlehpgfhlkjlaaCk2
set_option linter.all false
namespace Jq
open Go Go.RowKit
def phiSites (params : Int) (b : Nat) : Nat → List (Phi List) → List Site → Option (List Site)
  | _, [], l => some l
  | i, p :: ps, l => match allSites params b (-1 - (i : Int)) [p.dst] l with
    | none => none
    | some l1 => phiSites params b (i + 1) ps l1
def insShape (x : Ins List) : Bool := decide (1 ≤ x.op ∧ x.op ≤ 18) && decide (opLo x.op ≤ (x.args.length : Int) ∧ (x.args.length : Int) ≤ opHi x.op)
def insSites (params : Int) (b : Nat) : Nat → List (Ins List) → List Site → Option (List Site)
  | _, [], l => some l
  | i, x :: xs, l => if insShape x then match allSites params b i (insMakes x) l with
    | none => none
    | some l1 => insSites params b (i + 1) xs l1 else none
/-- How many operands and targets a kind of term has. -/
def shapeL : List (Int × Value) := [(1, .agg #[.int .i64 0, .int .i64 0, .int .i64 1, .int .i64 1]), (2, .agg #[.int .i64 1, .int .i64 1, .int .i64 2, .int .i64 2]), (3, .agg #[.int .i64 1, .int .i64 1, .int .i64 2, .int .i64 65]), (4, .agg #[.int .i64 0, .int .i64 1, .int .i64 0, .int .i64 0]), (5, .agg #[.int .i64 0, .int .i64 0, .int .i64 0, .int .i64 0])]
def shapeOf (kind : Int) : Option (Int × Int × Int × Int) := if kind = 1 then some (0, 0, 1, 1) else if kind = 2 then some (1, 1, 2, 2) else if kind = 3 then some (1, 1, 2, 65) else if kind = 4 then some (0, 1, 0, 0) else if kind = 5 then some (0, 0, 0, 0) else none
theorem lk_shape (kind a m t l : Int) (h : shapeOf kind = some (a, m, t, l)) : lk shapeL kind = some (.agg #[.int .i64 a, .int .i64 m, .int .i64 t, .int .i64 l]) := by
  unfold shapeOf at h
  unfold shapeL
  by_cases h1 : kind = 1
  · subst h1; simp at h; obtain ⟨rfl, rfl, rfl, rfl⟩ := h; simp [lk]
  rw [if_neg h1] at h
  by_cases h2 : kind = 2
  · subst h2; simp at h; obtain ⟨rfl, rfl, rfl, rfl⟩ := h; simp [lk]
  rw [if_neg h2] at h
  by_cases h3 : kind = 3
  · subst h3; simp at h; obtain ⟨rfl, rfl, rfl, rfl⟩ := h; simp [lk]
  rw [if_neg h3] at h
  by_cases h4 : kind = 4
  · subst h4; simp at h; obtain ⟨rfl, rfl, rfl, rfl⟩ := h; simp [lk]
  rw [if_neg h4] at h
  by_cases h5 : kind = 5
  · subst h5; simp at h; obtain ⟨rfl, rfl, rfl, rfl⟩ := h; simp [lk]
  rw [if_neg h5] at h
  exact absurd h (by simp)
def termShape (kind : Int) (args tn : Nat) : Bool := match shapeOf kind with
  | some (a, m, t, l) => decide (a ≤ (args : Int) ∧ (args : Int) ≤ m) && decide (t ≤ (tn : Int) ∧ (tn : Int) ≤ l)
  | none => false
theorem termShape_of {kind : Int} {args tn : Nat} (h : termShape kind args tn = true) : ∃ a m t l, shapeOf kind = some (a, m, t, l) ∧ (a ≤ (args : Int) ∧ (args : Int) ≤ m) ∧ (t ≤ (tn : Int) ∧ (tn : Int) ≤ l) := by
  unfold termShape at h
  split at h
  · rename_i a m t l hs
    simp only [Bool.and_eq_true, decide_eq_true_eq] at h
    exact ⟨a, m, t, l, hs, h.1, h.2⟩
  · exact absurd h (by simp)
def termOk (t : Term List) (nb : Nat) : Bool := termShape t.kind t.args.length t.to.length && t.to.all fun b => decide (1 ≤ b ∧ b ≤ (nb : Int) - 1)
def blockSites (params : Int) (nb b : Nat) (x : Block List) (l : List Site) : Option (List Site) :=
  match phiSites params b 0 x.phis l with
  | none => none
  | some l1 => match insSites params b 0 x.ins l1 with
    | none => none
    | some l2 => if termOk x.term nb then some l2 else none
def blocksSites (params : Int) (nb : Nat) : Nat → List (Block List) → List Site → Option (List Site)
  | _, [], l => some l
  | b, x :: xs, l => match blockSites params nb b x l with
    | none => none
    | some l1 => blocksSites params nb (b + 1) xs l1
theorem phiSites_at {params : Int} {b : Nat} {ps : List (Phi List)} {i : Nat} {p : Phi List} (hp : ps[i]? = some p) {l l2 : List Site} (h : phiSites params b i (ps.drop i) l = some l2) : ∃ l1, allSites params b (-1 - (i : Int)) [p.dst] l = some l1 ∧ phiSites params b (i + 1) (ps.drop (i + 1)) l1 = some l2 := by
  obtain ⟨hi, rfl⟩ := List.getElem?_eq_some_iff.1 hp
  rw [List.drop_eq_getElem_cons hi, phiSites] at h
  split at h
  · exact absurd h (by simp)
  · rename_i l1 h1; exact ⟨l1, h1, h⟩
theorem insSites_at {params : Int} {b : Nat} {xs : List (Ins List)} {i : Nat} {x : Ins List} (hx : xs[i]? = some x) {l l2 : List Site} (h : insSites params b i (xs.drop i) l = some l2) : insShape x = true ∧ ∃ l1, allSites params b i (insMakes x) l = some l1 ∧ insSites params b (i + 1) (xs.drop (i + 1)) l1 = some l2 := by
  obtain ⟨hi, rfl⟩ := List.getElem?_eq_some_iff.1 hx
  rw [List.drop_eq_getElem_cons hi, insSites] at h
  split at h
  · rename_i h0
    refine ⟨h0, ?_⟩
    split at h
    · exact absurd h (by simp)
    · rename_i l1 h1; exact ⟨l1, h1, h⟩
  · exact absurd h (by simp)
theorem blocksSites_at {params : Int} {nb : Nat} {bs : List (Block List)} {b : Nat} {x : Block List} (hx : bs[b]? = some x) {l l2 : List Site} (h : blocksSites params nb b (bs.drop b) l = some l2) :
    ∃ l1 l3, phiSites params b 0 x.phis l = some l1 ∧ insSites params b 0 x.ins l1 = some l3 ∧ termOk x.term nb = true ∧ blocksSites params nb (b + 1) (bs.drop (b + 1)) l3 = some l2 := by
  obtain ⟨hi, rfl⟩ := List.getElem?_eq_some_iff.1 hx
  rw [List.drop_eq_getElem_cons hi, blocksSites] at h
  split at h
  · exact absurd h (by simp)
  · rename_i l3 h3
    unfold blockSites at h3
    split at h3
    · exact absurd h3 (by simp)
    · rename_i l1 h1
      split at h3
      · exact absurd h3 (by simp)
      · rename_i l4 h4
        split at h3
        · rename_i h5
          injection h3 with h3
          subst h3
          exact ⟨l1, l4, h1, h4, h5, h⟩
        · exact absurd h3 (by simp)
theorem phiSites_end {params : Int} {b i : Nat} {ps : List (Phi List)} (hi : ps.length ≤ i) {l l2 : List Site} (h : phiSites params b i (ps.drop i) l = some l2) : l = l2 := by
  rw [List.drop_eq_nil_of_le hi, phiSites] at h
  injection h
theorem insSites_end {params : Int} {b i : Nat} {ps : List (Ins List)} (hi : ps.length ≤ i) {l l2 : List Site} (h : insSites params b i (ps.drop i) l = some l2) : l = l2 := by
  rw [List.drop_eq_nil_of_le hi, insSites] at h
  injection h
theorem blocksSites_end {params : Int} {nb b : Nat} {ps : List (Block List)} (hi : ps.length ≤ b) {l l2 : List Site} (h : blocksSites params nb b (ps.drop b) l = some l2) : l = l2 := by
  rw [List.drop_eq_nil_of_le hi, blocksSites] at h
  injection h
/-! ### Elements in memory -/
section
variable {P : Program} (T e : TypeId) (hT : P.underlying T = some (.slice e)) {w : World}
include hT
theorem getIns {s : Sl (Ins Sl)} (hsz : (P.info? e).map (·.size) = some 5) (h : kIns.sl.rd w s) (i : Int) {k : Nat} (hk : k < s.l.length) (hi : i = k) :
    ∃ b o, (∀ W, (Instr.indexAt T s.val (.int .i64 i)).run P W = .ok (.pointer (some ⟨b, o + k * 5, none⟩)) W) ∧ b < w.heap.size ∧
      (w.cell? ⟨b, o + k * 5, none⟩ = some (.int .i64 s.l[k].op) ∧ w.cell? ⟨b, o + k * 5 + 1, none⟩ = some (.int .i64 s.l[k].dst) ∧ w.cell? ⟨b, o + k * 5 + 2, none⟩ = some (.int .i64 s.l[k].two) ∧ w.cell? ⟨b, o + k * 5 + 3, none⟩ = some s.l[k].args.val ∧ w.cell? ⟨b, o + k * 5 + 4, none⟩ = some (.int .i32 s.l[k].imm)) ∧ kIns.rd w s.l[k] := by
  obtain ⟨b, o, h1, h2, h3, h4⟩ := kIns.get T e hT hsz h i hk hi
  exact ⟨b, o, h1, h2, ⟨h3 0 (by decide), h3 1 (by decide), h3 2 (by decide), h3 3 (by decide), h3 4 (by decide)⟩, h4⟩
theorem getBlock {s : Sl (Block Sl)} (hsz : (P.info? e).map (·.size) = some 6) (h : kBlock.sl.rd w s) (i : Int) {k : Nat} (hk : k < s.l.length) (hi : i = k) :
    ∃ b o, (∀ W, (Instr.indexAt T s.val (.int .i64 i)).run P W = .ok (.pointer (some ⟨b, o + k * 6, none⟩)) W) ∧ b < w.heap.size ∧
      (w.cell? ⟨b, o + k * 6, none⟩ = some s.l[k].phis.val ∧ w.cell? ⟨b, o + k * 6 + 1, none⟩ = some s.l[k].ins.val ∧ w.cell? ⟨b, o + k * 6 + 2, none⟩ = some (.int .i64 s.l[k].term.kind) ∧ w.cell? ⟨b, o + k * 6 + 3, none⟩ = some s.l[k].term.args.val ∧
       w.cell? ⟨b, o + k * 6 + 4, none⟩ = some s.l[k].term.to.val ∧ w.cell? ⟨b, o + k * 6 + 5, none⟩ = some (.int .i32 s.l[k].term.imm)) ∧ kBlock.rd w s.l[k] := by
  obtain ⟨b, o, h1, h2, h3, h4⟩ := kBlock.get T e hT hsz h i hk hi
  exact ⟨b, o, h1, h2, ⟨h3 0 (by decide), h3 1 (by decide), h3 2 (by decide), h3 3 (by decide), h3 4 (by decide), h3 5 (by decide)⟩, h4⟩
end
theorem bk_at (s : Sl (Block Sl)) {k : Nat} (h : k < s.l.length) : (s.l.map Block.p)[k]? = some s.l[k].p := by simp [h]
theorem is_at (x : Block Sl) {k : Nat} (h : k < x.ins.l.length) : x.p.ins[k]? = some x.ins.l[k].p := by simp [Block.p, h]
theorem ph_at (x : Block Sl) {k : Nat} (h : k < x.phis.l.length) : x.p.phis[k]? = some x.phis.l[k].p := by simp [Block.p, h]
end Jq
