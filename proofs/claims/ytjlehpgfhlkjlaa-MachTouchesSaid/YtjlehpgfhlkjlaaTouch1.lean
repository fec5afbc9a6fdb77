/-
  What the law MachTouches holds: an instruction, what it takes and makes, and rows of one's own that lie apart.
-/
import Derived.Test.YtjlehpgfhlkjlaaL7B
import Derived.Test.YtjlehpgfhlkjlaaPTouch
import Derived.Test.YtjlehpgfhlkjlaaOpenG
set_option linter.all false
namespace Go.Proofs.Ytjlehpgfhlkjlaa
open Go Go.RowKit Jq
/-- Rows of words of one's own, apart from each other. -/
structure ORows (T : TypeId) (B : Nat) (W : World) (n : Nat) (r : Nat → Sl Int) : Prop where
  own : ∀ i, i < n → Own kW T B W (r i)
  pair : ∀ i j, i < n → j < n → i ≠ j → ∀ k, some k = (r i).val.ownBlock → some k ≠ (r j).val.ownBlock
namespace ORows
variable {T : TypeId} {B n : Nat} {W W1 : World} {r : Nat → Sl Int}
theorem go (h : ORows T B W n r) (hb : Below W.heap.size W W1) : ORows T B W1 n r := ⟨fun i hi => (h.own i hi).below hb, h.pair⟩
/-- A new row. -/
theorem add (h : ORows T B W n r) (hb : Below W.heap.size W W1) (hBW : B ≤ W.heap.size) {t : Sl Int} (ht : Own kW T W.heap.size W1 t) (i : Nat) : ORows T B W1 n (fun j => if j = i then t else r j) := by
  refine ⟨fun j hj => ?_, fun a b ha hb2 hab k hk => ?_⟩
  · by_cases e : j = i
    · rw [if_pos e]; exact ht.lower hBW
    · rw [if_neg e]; exact (h.own j hj).below hb
  · by_cases ea : a = i
    · subst ea
      rw [if_pos rfl] at hk
      rw [if_neg (Ne.symm hab)]
      intro e
      have h1 := ht.ge k hk
      have h2 := (h.own b hb2).lt k (Or.inl e)
      omega
    · rw [if_neg ea] at hk
      by_cases eb : b = i
      · subst eb
        rw [if_pos rfl]
        intro e
        have h1 := ht.ge k e
        have h2 := (h.own a ha).lt k (Or.inl hk)
        omega
      · rw [if_neg eb]
        exact h.pair a b ha hb2 hab k hk
/-- One row has been written. -/
theorem put (h : ORows T B W n r) (i : Nat) (hi : i < n) {l : List Int} (hl : l.length = (r i).l.length) (hc : Chg (fun k => some k = (r i).val.ownBlock) W W1) (ht : Own kW T B W1 ((r i).wl l)) : ORows T B W1 n (fun j => if j = i then (r i).wl l else r j) := by
  have hv : ((r i).wl l).val = (r i).val := Sl.wl_val hl
  refine ⟨fun j hj => ?_, fun a b ha hb2 hab k hk => ?_⟩
  · by_cases e : j = i
    · rw [if_pos e]; exact ht
    · rw [if_neg e]
      refine (h.own j hj).mv fun k hk => ?_
      rcases hk with hk | ⟨y, _, hk⟩
      · exact hc.block k ((h.own j hj).lt k (Or.inl hk)) fun f => h.pair j i hj hi e k hk f
      · simp [kW, Kd.scalar] at hk
  · by_cases ea : a = i
    · subst ea
      rw [if_pos rfl, hv] at hk
      rw [if_neg (Ne.symm hab)]
      exact h.pair _ b ha hb2 hab k hk
    · rw [if_neg ea] at hk
      by_cases eb : b = i
      · subst eb
        rw [if_pos rfl, hv]
        exact h.pair a _ ha hb2 hab k hk
      · rw [if_neg eb]
        exact h.pair a b ha hb2 hab k hk
/-- Two rows have been written. -/
theorem put2 (h : ORows T B W n r) (i j : Nat) (hi : i < n) (hj : j < n) (hij : i ≠ j) {l m : List Int} (hl : l.length = (r i).l.length) (hm : m.length = (r j).l.length) (hc : Chg (DoF (r i) (r j)) W W1) (ht : Own kW T B W1 ((r i).wl l)) (hu : Own kW T B W1 ((r j).wl m)) :
    ORows T B W1 n (fun q => if q = i then (r i).wl l else if q = j then (r j).wl m else r q) := by
  have hv : ((r i).wl l).val = (r i).val := Sl.wl_val hl
  have hw : ((r j).wl m).val = (r j).val := Sl.wl_val hm
  have hval : ∀ q, (if q = i then (r i).wl l else if q = j then (r j).wl m else r q).val = (r q).val := by
    intro q
    by_cases e : q = i
    · subst e; rw [if_pos rfl]; exact hv
    · rw [if_neg e]
      by_cases e2 : q = j
      · subst e2; rw [if_pos rfl]; exact hw
      · rw [if_neg e2]
  refine ⟨fun q hq => ?_, fun a b ha hb2 hab k hk => ?_⟩
  · by_cases e : q = i
    · rw [if_pos e]; exact ht
    · rw [if_neg e]
      by_cases e2 : q = j
      · rw [if_pos e2]; exact hu
      · rw [if_neg e2]
        refine (h.own q hq).mv fun k hk => ?_
        rcases hk with hk | ⟨y, _, hk⟩
        · exact hc.block k ((h.own q hq).lt k (Or.inl hk)) fun f => by
            rcases f with f | f
            · exact h.pair q i hq hi e k hk f
            · exact h.pair q j hq hj e2 k hk f
        · simp [kW, Kd.scalar] at hk
  · rw [hval] at hk
    rw [hval]
    exact h.pair a b ha hb2 hab k hk
end ORows
/-- What the law holds. -/
structure TI (TM TI_ TW : TypeId) (w W : World) (xb : Nat) (x : Mach Sl) (tk mk : Sl Int) (r : Nat → Sl Int) : Prop where
  below : Below w.heap.size w W
  bx : W.heap[xb]? = some (.cells (kMach.cs x).toArray TM (0, 0))
  xge : w.heap.size ≤ xb
  args : Own kI TI_ w.heap.size W x.args
  tk : Own kI TI_ w.heap.size W tk
  mks : Own kI TI_ w.heap.size W mk
  rows : ORows TW w.heap.size W 5 r
namespace TI
variable {TM TI_ TW : TypeId} {w W W1 : World} {xb : Nat} {x : Mach Sl} {tk mk : Sl Int} {r : Nat → Sl Int}
theorem go (h : TI TM TI_ TW w W xb x tk mk r) (hb : Below W.heap.size W W1) : TI TM TI_ TW w W1 xb x tk mk r :=
  ⟨bthen h.below hb, (hb.block _ (lt_of_block h.bx)).trans h.bx, h.xge, h.args.below hb, h.tk.below hb, h.mks.below hb, h.rows.go hb⟩
theorem add (h : TI TM TI_ TW w W xb x tk mk r) (hb : Below W.heap.size W W1) {t : Sl Int} (ht : Own kW TW W.heap.size W1 t) (i : Nat) : TI TM TI_ TW w W1 xb x tk mk (fun j => if j = i then t else r j) :=
  ⟨bthen h.below hb, (hb.block _ (lt_of_block h.bx)).trans h.bx, h.xge, h.args.below hb, h.tk.below hb, h.mks.below hb, h.rows.add hb h.below.size ht i⟩
/-- Blocks of rows alone have been written. -/
theorem chg (h : TI TM TI_ TW w W xb x tk mk r) (hM : TM ≠ TW) (hI : TI_ ≠ TW) {F : Nat → Prop} (hF : ∀ k, F k → ∃ i, i < 5 ∧ some k = (r i).val.ownBlock) (hc : Chg F W W1) {r' : Nat → Sl Int} (hr : ORows TW w.heap.size W1 5 r') : TI TM TI_ TW w W1 xb x tk mk r' := by
  have hI2 : ∀ {s : Sl Int}, Own kI TI_ w.heap.size W s → Own kI TI_ w.heap.size W1 s := by
    intro s hs
    refine hs.mv fun k hk => ?_
    rcases hk with hk | ⟨y, _, hk⟩
    · refine hc.block k (hs.lt k (Or.inl hk)) fun f => ?_
      obtain ⟨i, hi, hik⟩ := hF k f
      rcases hs.row.2 with ⟨h1, _⟩ | ⟨g1, c1, cu1, hv1, _, hh1, _⟩
      · rw [h1] at hk; simp [Value.ownBlock] at hk
      · rw [hv1] at hk
        simp only [Value.ownBlock, Option.some.injEq] at hk
        subst hk
        exact own_ne (h.rows.own i hi) hh1 hI hik.symm
    · simp [kI, Kd.scalar] at hk
  refine ⟨below_chg h.below hc (fun k f => ?_) h.below.size, (hc.block _ (lt_of_block h.bx) fun f => ?_).trans h.bx, h.xge, hI2 h.args, hI2 h.tk, hI2 h.mks, hr⟩
  · obtain ⟨i, hi, hik⟩ := hF k f
    exact (h.rows.own i hi).ge k hik
  · obtain ⟨i, hi, hik⟩ := hF _ f
    exact own_ne (h.rows.own i hi) h.bx hM hik.symm
theorem setTk (h : TI TM TI_ TW w W xb x tk mk r) (hb : Below W.heap.size W W1) {t : Sl Int} (ht : Own kI TI_ W.heap.size W1 t) : TI TM TI_ TW w W1 xb x t mk r :=
  ⟨bthen h.below hb, (hb.block _ (lt_of_block h.bx)).trans h.bx, h.xge, h.args.below hb, ht.lower h.below.size, h.mks.below hb, h.rows.go hb⟩
theorem setMk (h : TI TM TI_ TW w W xb x tk mk r) (hb : Below W.heap.size W W1) {t : Sl Int} (ht : Own kI TI_ W.heap.size W1 t) : TI TM TI_ TW w W1 xb x tk t r :=
  ⟨bthen h.below hb, (hb.block _ (lt_of_block h.bx)).trans h.bx, h.xge, h.args.below hb, h.tk.below hb, ht.lower h.below.size, h.rows.go hb⟩
theorem cells (h : TI TM TI_ TW w W xb x tk mk r) : W.cell? ⟨xb, 0, none⟩ = some (.int .i64 x.op) ∧ W.cell? ⟨xb, 1, none⟩ = some (.int .i64 x.d) ∧ W.cell? ⟨xb, 2, none⟩ = some (.int .i64 x.e) ∧ W.cell? ⟨xb, 3, none⟩ = some (.int .i64 x.a) ∧
    W.cell? ⟨xb, 4, none⟩ = some (.int .i64 x.b) ∧ W.cell? ⟨xb, 5, none⟩ = some (.int .i64 x.c) ∧ W.cell? ⟨xb, 6, none⟩ = some (.int .i32 x.imm) ∧ W.cell? ⟨xb, 7, none⟩ = some x.args.val := by
  refine ⟨?_, ?_, ?_, ?_, ?_, ?_, ?_, ?_⟩ <;> simp [World.cell?, h.bx, kMach]
/-- The rows: a, c, b, d, was. -/
def rw5 (a c b d v : Sl Int) : Nat → Sl Int := fun q => if q = 0 then a else if q = 1 then c else if q = 2 then b else if q = 3 then d else v
theorem eta (h : TI TM TI_ TW w W xb x tk mk r) {r' : Nat → Sl Int} (he : ∀ q, q < 5 → r q = r' q) : TI TM TI_ TW w W xb x tk mk r' := by
  refine ⟨h.below, h.bx, h.xge, h.args, h.tk, h.mks, ⟨fun i hi => by rw [← he i hi]; exact h.rows.own i hi, fun i j hi hj hij k hk => ?_⟩⟩
  rw [← he i hi] at hk
  rw [← he j hj]
  exact h.rows.pair i j hi hj hij k hk
theorem putC (hM : TM ≠ TW) (hI : TI_ ≠ TW) {a c b d v : Sl Int} (h : TI TM TI_ TW w W xb x tk mk (rw5 a c b d v)) {l : List Int} (hl : l.length = c.l.length) (hc : Chg (fun k => some k = c.val.ownBlock) W W1) (ht : Own kW TW w.heap.size W1 (c.wl l)) : TI TM TI_ TW w W1 xb x tk mk (rw5 a (c.wl l) b d v) := by
  have h1 := h.chg hM hI (F := fun k => some k = c.val.ownBlock) (fun k hk => ⟨1, by decide, hk⟩) hc (h.rows.put 1 (by decide) hl hc ht)
  refine h1.eta fun q hq => ?_
  rcases (by omega : q = 0 ∨ q = 1 ∨ q = 2 ∨ q = 3 ∨ q = 4) with rfl | rfl | rfl | rfl | rfl <;> rfl
theorem addB {a c b d v : Sl Int} (h : TI TM TI_ TW w W xb x tk mk (rw5 a c b d v)) (hb : Below W.heap.size W W1) {t : Sl Int} (ht : Own kW TW W.heap.size W1 t) : TI TM TI_ TW w W1 xb x tk mk (rw5 a c t d v) := by
  refine (h.add hb ht 2).eta fun q hq => ?_
  rcases (by omega : q = 0 ∨ q = 1 ∨ q = 2 ∨ q = 3 ∨ q = 4) with rfl | rfl | rfl | rfl | rfl <;> rfl
theorem addD {a c b d v : Sl Int} (h : TI TM TI_ TW w W xb x tk mk (rw5 a c b d v)) (hb : Below W.heap.size W W1) {t : Sl Int} (ht : Own kW TW W.heap.size W1 t) : TI TM TI_ TW w W1 xb x tk mk (rw5 a c b t v) := by
  refine (h.add hb ht 3).eta fun q hq => ?_
  rcases (by omega : q = 0 ∨ q = 1 ∨ q = 2 ∨ q = 3 ∨ q = 4) with rfl | rfl | rfl | rfl | rfl <;> rfl
theorem addV {a c b d v : Sl Int} (h : TI TM TI_ TW w W xb x tk mk (rw5 a c b d v)) (hb : Below W.heap.size W W1) {t : Sl Int} (ht : Own kW TW W.heap.size W1 t) : TI TM TI_ TW w W1 xb x tk mk (rw5 a c b d t) := by
  refine (h.add hb ht 4).eta fun q hq => ?_
  rcases (by omega : q = 0 ∨ q = 1 ∨ q = 2 ∨ q = 3 ∨ q = 4) with rfl | rfl | rfl | rfl | rfl <;> rfl
theorem doAB (hM : TM ≠ TW) (hI : TI_ ≠ TW) {a c b d v : Sl Int} (h : TI TM TI_ TW w W xb x tk mk (rw5 a c b d v)) {l m : List Int} (hl : l.length = a.l.length) (hm : m.length = b.l.length) (hc : Chg (DoF a b) W W1) (ht : Own kW TW w.heap.size W1 (a.wl l)) (hu : Own kW TW w.heap.size W1 (b.wl m)) :
    TI TM TI_ TW w W1 xb x tk mk (rw5 (a.wl l) c (b.wl m) d v) := by
  have h1 := h.chg hM hI (F := DoF a b) (fun k hk => by rcases hk with hk | hk; exact ⟨0, by decide, hk⟩; exact ⟨2, by decide, hk⟩) hc (h.rows.put2 0 2 (by decide) (by decide) (by decide) hl hm hc ht hu)
  refine h1.eta fun q hq => ?_
  rcases (by omega : q = 0 ∨ q = 1 ∨ q = 2 ∨ q = 3 ∨ q = 4) with rfl | rfl | rfl | rfl | rfl <;> rfl
theorem doCD (hM : TM ≠ TW) (hI : TI_ ≠ TW) {a c b d v : Sl Int} (h : TI TM TI_ TW w W xb x tk mk (rw5 a c b d v)) {l m : List Int} (hl : l.length = c.l.length) (hm : m.length = d.l.length) (hc : Chg (DoF c d) W W1) (ht : Own kW TW w.heap.size W1 (c.wl l)) (hu : Own kW TW w.heap.size W1 (d.wl m)) :
    TI TM TI_ TW w W1 xb x tk mk (rw5 a (c.wl l) b (d.wl m) v) := by
  have h1 := h.chg hM hI (F := DoF c d) (fun k hk => by rcases hk with hk | hk; exact ⟨1, by decide, hk⟩; exact ⟨3, by decide, hk⟩) hc (h.rows.put2 1 3 (by decide) (by decide) (by decide) hl hm hc ht hu)
  refine h1.eta fun q hq => ?_
  rcases (by omega : q = 0 ∨ q = 1 ∨ q = 2 ∨ q = 3 ∨ q = 4) with rfl | rfl | rfl | rfl | rfl <;> rfl
section
variable {a c b d v : Sl Int}
theorem oa (h : TI TM TI_ TW w W xb x tk mk (rw5 a c b d v)) : Own kW TW w.heap.size W a := h.rows.own 0 (by decide)
theorem oc (h : TI TM TI_ TW w W xb x tk mk (rw5 a c b d v)) : Own kW TW w.heap.size W c := h.rows.own 1 (by decide)
theorem ob (h : TI TM TI_ TW w W xb x tk mk (rw5 a c b d v)) : Own kW TW w.heap.size W b := h.rows.own 2 (by decide)
theorem od (h : TI TM TI_ TW w W xb x tk mk (rw5 a c b d v)) : Own kW TW w.heap.size W d := h.rows.own 3 (by decide)
theorem ov (h : TI TM TI_ TW w W xb x tk mk (rw5 a c b d v)) : Own kW TW w.heap.size W v := h.rows.own 4 (by decide)
theorem ab (h : TI TM TI_ TW w W xb x tk mk (rw5 a c b d v)) : a.val.ownBlock = none ∨ a.val.ownBlock ≠ b.val.ownBlock := by
  cases hk : a.val.ownBlock with
  | none => exact Or.inl rfl
  | some k => exact Or.inr (h.rows.pair 0 2 (by decide) (by decide) (by decide) k hk.symm)
theorem cd (h : TI TM TI_ TW w W xb x tk mk (rw5 a c b d v)) : c.val.ownBlock = none ∨ c.val.ownBlock ≠ d.val.ownBlock := by
  cases hk : c.val.ownBlock with
  | none => exact Or.inl rfl
  | some k => exact Or.inr (h.rows.pair 1 3 (by decide) (by decide) (by decide) k hk.symm)
end
end TI
/-- A part of an array, as a slice. -/
theorem arr_rd {W : World} {b : Nat} {T : TypeId} {g : { l : List Int // l.length = 32 }} (h : W.heap[b]? = some (.cells ((kRow 32).cs g).toArray T (0, 0))) (o : Nat) (ho : o + 16 ≤ 32) : kW.sl.rd W ⟨some ⟨b, o, none⟩, 16, (g.1.drop o).take 16⟩ := by
  have hl : ((g.1.drop o).take 16).length = 16 := by rw [List.length_take, List.length_drop, g.2]; omega
  refine ⟨by rw [hl]; exact Nat.le_refl _, by rw [hl]; decide, fun _ => ⟨b, o, rfl, lt_of_block h, fun i hi j hj => ?_⟩, fun _ _ => trivial⟩
  have hj0 : j = 0 := by simp only [kW, Kd.scalar] at hj; omega
  subst hj0
  have hi' : i < 16 := by rw [hl] at hi; exact hi
  simp only [kW, Kd.scalar, Nat.mul_one, Nat.add_zero, World.cell?, h, kRow]
  simp
theorem arr_sl (b : Nat) (T : TypeId) (g : { l : List Int // l.length = 32 }) (o : Nat) (ho : o + 16 ≤ 32) :
    ∃ s : Sl Int, s.val = .slice (some ⟨b, o, none⟩) 16 16 ∧ s.l.length = 16 ∧ ∀ W : World, W.heap[b]? = some (.cells ((kRow 32).cs g).toArray T (0, 0)) → kW.sl.rd W s := by
  have hl : ((g.1.drop o).take 16).length = 16 := by rw [List.length_take, List.length_drop, g.2]; omega
  exact ⟨⟨some ⟨b, o, none⟩, 16, (g.1.drop o).take 16⟩, by simp only [Sl.val, hl], hl, fun W h => arr_rd h o ho⟩
end Go.Proofs.Ytjlehpgfhlkjlaa
