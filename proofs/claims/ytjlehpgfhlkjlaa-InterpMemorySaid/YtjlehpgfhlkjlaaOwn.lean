/-
  Rows of the call's own: what memory bears of a slice that was made. No program in sight.
-/
import Derived.Test.YtjlehpgfhlkjlaaCore
import Derived.Maps.AppendAt
set_option linter.all false
namespace Jq
open Go Go.RowKit

theorem flat_at {α β : Type} (f : α → List β) (n : Nat) (hf : ∀ x, (f x).length = n) (l : List α) : ∀ (i : Nat) (h : i < l.length) (j : Nat), j < n → (l.flatMap f)[i * n + j]? = (f l[i])[j]? := by
  induction l with
  | nil => intro i h; simp at h
  | cons x l ih =>
    intro i h j hj
    rw [List.flatMap_cons]
    cases i with
    | zero => simp only [Nat.zero_mul, Nat.zero_add, List.getElem_cons_zero]; rw [List.getElem?_append_left (by rw [hf]; exact hj)]
    | succ i =>
      rw [List.getElem?_append_right (by rw [hf, Nat.succ_mul]; omega)]
      have e : (i + 1) * n + j - (f x).length = i * n + j := by rw [hf, Nat.succ_mul]; omega
      rw [e]
      simpa using ih i (by simpa using h) j hj
theorem flat_len {α β : Type} (f : α → List β) (n : Nat) (hf : ∀ x, (f x).length = n) (l : List α) : (l.flatMap f).length = l.length * n := by
  induction l with
  | nil => simp
  | cons x l ih => rw [List.flatMap_cons, List.length_append, hf, ih, List.length_cons, Nat.succ_mul, Nat.add_comm]
theorem flat_one {α : Type} (f : α → Value) (l : List α) : l.flatMap (fun x => [f x]) = l.map f := by
  induction l with
  | nil => rfl
  | cons x l ih => simp [List.flatMap_cons, ih]

/-- A slice of the call's own (its block is none of those below base; its elements' blocks are others). -/
structure Own {α : Type} (d : Kd α) (e : TypeId) (base : Nat) (w : World) (s : Sl α) : Prop where
  row : w.ownsRow base e d.sz s.val s.l.length (s.l.flatMap d.cs)
  short : s.l.length ≤ 140737488355328
  elems : ∀ x, x ∈ s.l → d.rd w x
  apart : ∀ x, x ∈ s.l → ∀ k, k ∈ d.fp x → some k ≠ s.val.ownBlock

namespace Own
variable {α : Type} {d : Kd α} {e : TypeId} {base : Nat} {w : World} {s : Sl α}
theorem rd (h : Own d e base w s) : d.sl.rd w s := by
  obtain ⟨hr, hn, he, _⟩ := h
  refine ⟨?_, hn, fun h0 => ?_, he⟩
  · rcases hr.2 with ⟨h1, h2⟩ | ⟨g, cap, cur, hv, _, _, h1, _⟩
    · omega
    · simp only [Sl.val, Value.slice.injEq] at hv
      omega
  · rcases hr.2 with ⟨h1, h2⟩ | ⟨g, cap, cur, hv, hb, hh, h1, h2, h3, h4⟩
    · omega
    · simp only [Sl.val, Value.slice.injEq] at hv
      obtain ⟨hA, _, hc⟩ := hv
      refine ⟨g, 0, hA, (Array.getElem?_eq_some_iff.1 hh).1, fun i hi j hj => ?_⟩
      have hlt : i * d.sz + j < s.l.length * d.sz := by
        have : (i + 1) * d.sz ≤ s.l.length * d.sz := Nat.mul_le_mul_right _ hi
        rw [Nat.succ_mul] at this
        omega
      rw [← flat_at d.cs d.sz d.len s.l i hi j hj, ← h4]
      rw [List.getElem?_take_of_lt hlt]
      simp [World.cell?, hh]
theorem nil (d : Kd α) (e : TypeId) (base : Nat) (w : World) : Own d e base w nilSl := ⟨World.ownsRow_nil _ _ _ _, by simp, fun _ h => absurd h (by simp), fun _ h => absurd h (by simp)⟩
theorem lower {base' : Nat} (h : Own d e base w s) (hb : base' ≤ base) : Own d e base' w s := by
  refine ⟨⟨h.row.1, ?_⟩, h.short, h.elems, h.apart⟩
  rcases h.row.2 with h1 | ⟨g, cap, cur, hv, hg, r⟩
  · exact .inl h1
  · exact .inr ⟨g, cap, cur, hv, by omega, r⟩
/-- Whatever leaves its blocks alone keeps it. -/
theorem mv {w' : World} (h : Own d e base w s) (hm : ∀ k, some k = s.val.ownBlock ∨ (∃ x, x ∈ s.l ∧ k ∈ d.fp x) → w'.heap[k]? = w.heap[k]?) : Own d e base w' s := by
  refine ⟨⟨h.row.1, ?_⟩, h.short, fun x hx => d.mv (h.elems x hx) fun k hk => hm k (.inr ⟨x, hx, hk⟩), h.apart⟩
  rcases h.row.2 with h1 | ⟨g, cap, cur, hv, hg, hh, r⟩
  · exact .inl h1
  · exact .inr ⟨g, cap, cur, hv, hg, (hm g (.inl (by rw [hv]; rfl))).trans hh, r⟩
theorem lt (h : Own d e base w s) (k : Nat) (hk : some k = s.val.ownBlock ∨ (∃ x, x ∈ s.l ∧ k ∈ d.fp x)) : k < w.heap.size := by
  rcases hk with hk | ⟨x, hx, hk⟩
  · exact (h.row.lt k hk.symm).2
  · exact d.lt (h.elems x hx) k hk
theorem below {w' : World} (h : Own d e base w s) (hb : Below w.heap.size w w') : Own d e base w' s := h.mv fun k hk => hb.block k (h.lt k hk)
theorem ge (h : Own d e base w s) (k : Nat) (hk : some k = s.val.ownBlock) : base ≤ k := (h.row.lt k hk.symm).1
end Own

/-- A call hands back a row of its own. -/
def RetSl {α : Type} (d : Kd α) (e : TypeId) (w : World) (l : List α) (en : Ending) (w' : World) : Prop :=
  ∃ t : Sl α, en = .returned t.val ∧ t.l = l ∧ Own d e w.heap.size w' t ∧ Below w.heap.size w w'
theorem kI_one : ∀ (x : Int) u, u ∈ kI.cs x → u.oneCell' = true := by
  intro x u hu
  simp [kI, Kd.scalar] at hu
  subst hu
  rfl
theorem kW_one : ∀ (x : Int) u, u ∈ kW.cs x → u.oneCell' = true := by
  intro x u hu
  simp [kW, Kd.scalar] at hu
  subst hu
  rfl
theorem kI_apart {P : Nat → Prop} {l : List Int} : ∀ x, x ∈ l → ∀ k, k ∈ kI.fp x → P k := fun _ _ k hk => by simp [kI, Kd.scalar] at hk
theorem kW_apart {P : Nat → Prop} {l : List Int} : ∀ x, x ∈ l → ∀ k, k ∈ kW.fp x → P k := fun _ _ k hk => by simp [kW, Kd.scalar] at hk
/-- A literal of scalars lies in a new block. -/
theorem own_lit {α : Type} (enc : α → Value) (e : TypeId) (base : Nat) (w : World) (l : List α) (hb : base ≤ w.heap.size) (hn : l.length ≤ 140737488355328) :
    Own (Kd.scalar enc) e base (w.alloc (.cells (l.map enc).toArray e)) ⟨some ⟨w.heap.size, 0, none⟩, l.length, l⟩ := by
  refine ⟨?_, hn, fun _ _ => trivial, fun _ _ k hk => by simp [Kd.scalar] at hk⟩
  have h := World.ownsRow_lit (base := base) (e := e) (size := 1) w (l.map enc).toArray l.length hb (by simp only [maxLen]; omega) (by simp)
  have e1 : l.flatMap (Kd.scalar enc).cs = (l.map enc).toArray.toList := by
    show l.flatMap (fun x => [enc x]) = _
    rw [flat_one]
  rw [e1]
  exact h

section
variable {P : Program} {ops : Array Oper} {rest : List Oper} {o : Oper} {a : Act} {Q : Exit → Act → World → Prop} {α : Type}

theorem run_append_nothing (base : Nat) (t ty e : TypeId) (i : TypeInfo) (size : Nat) (ht : P.underlying t = some (.slice e)) (hi : P.info? e = some i) (w : World)
    (v : Value) (n : Nat) (xs : List Value) (hown : w.ownsRow base e size v n xs) (A : Option Addr) (c : Nat) :
    (Builtin.append_ #[t, t] ty #[v, .slice A 0 c]).run P w = .ok v w := by
  have hl : ∀ (a : Addr) (W : World), (loadCells a 0).run P W = .ok #[] W := fun a W => rfl
  rcases hown.2 with ⟨rfl, rfl⟩ | ⟨g, cap, cur, rfl, _, _, hnc, _⟩
  · cases A <;> simp [hl, Builtin.append_, run_underlying ht, Go.sizeOf, typeInfo, hi, Builtin.lenOf, Builtin.firstCells]
  · cases A <;> simp [hl, Builtin.append_, run_underlying ht, Go.sizeOf, typeInfo, hi, Builtin.lenOf, Builtin.firstCells, hnc, storeCells]

/-- What 'append(s, t...)' comes to: s a row of the call's own, t any row that memory bears. -/
theorem run_app (d : Kd α) (hd : 0 < d.sz) (h1 : ∀ x u, u ∈ d.cs x → u.oneCell' = true) (base : Nat) (t ty e : TypeId) (z : Value) (bytes : Nat) (ht : P.underlying t = some (.slice e))
    (hinfo : (P.info? e).map (fun i => (i.zero, i.size, i.bytes)) = some (some z, d.sz, bytes)) (hz : z.cells.size = d.sz) (hb0 : 0 < bytes) (w : World) (s u : Sl α) (HO : Own d e base w s) (hu : d.sl.rd w u) (hbase : base ≤ w.heap.size)
    (hap : ∀ x, x ∈ u.l → ∀ k, k ∈ d.fp x → some k ≠ s.val.ownBlock) (hbytes : (s.l.length + u.l.length) * bytes ≤ 140737488355328) :
    ∃ s' w', (Builtin.append_ #[t, t] ty #[s.val, u.val]).run P w = .ok s'.val w' ∧ Own d e base w' s' ∧ s'.l = s.l ++ u.l ∧ w.grownBy w' s.val.ownBlock ∧ (s'.val.ownBlock = s.val.ownBlock ∨ s'.val.ownBlock = some w.heap.size) := by
  obtain ⟨i0, hi, hzz⟩ := Option.map_eq_some_iff.1 hinfo
  simp only [Prod.mk.injEq] at hzz
  obtain ⟨hz0, hz1, hz2⟩ := hzz
  have hlen : s.l.length + u.l.length ≤ 140737488355328 := Nat.le_trans (Nat.le_mul_of_pos_right _ hb0) hbytes
  by_cases h0 : u.l = []
  · have hv : u.val = .slice u.A 0 u.cap := by simp [Sl.val, h0]
    refine ⟨s, w, ?_, HO, by simp [h0], ⟨rfl, rfl, rfl, Nat.le_refl _, fun _ _ _ => rfl⟩, .inl rfl⟩
    rw [hv]
    exact run_append_nothing base t ty e i0 d.sz ht hi w s.val s.l.length _ HO.row u.A u.cap
  · obtain ⟨b, off, hA, hbl, hcell⟩ := hu.2.2.1 (List.length_pos_iff.2 h0)
    have hv : u.val = .slice (some ⟨b, off, none⟩) u.l.length u.cap := by simp [Sl.val, hA]
    have hnews : ∀ j v, (u.l.flatMap d.cs)[j]? = some v → w.cell? ((⟨b, off, none⟩ : Addr).add j) = some v := by
      intro j v hj
      have hlt : j < u.l.length * d.sz := by
        rw [← flat_len d.cs d.sz d.len u.l]
        exact (List.getElem?_eq_some_iff.1 hj).1
      have hi' : j / d.sz < u.l.length := Nat.div_lt_of_lt_mul (by rw [Nat.mul_comm]; exact hlt)
      have hm : j % d.sz < d.sz := Nat.mod_lt _ hd
      have e1 : j / d.sz * d.sz + j % d.sz = j := by rw [Nat.mul_comm]; exact Nat.div_add_mod j d.sz
      have h2 := hcell (j / d.sz) hi' (j % d.sz) hm
      rw [← flat_at d.cs d.sz d.len u.l _ hi' _ hm, e1] at h2
      have e2 : (⟨b, off, none⟩ : Addr).add j = ⟨b, off + j, none⟩ := by
        unfold Addr.add
        split
        · rename_i hj0; rw [hj0]; rfl
        · rfl
      rw [e2, h2, hj]
    obtain ⟨v', w', hr, h2, h3, h4, h5⟩ := run_append_own_at (P := P) w base t ty e i0 z d.sz bytes ht hi hz0 hz1 hz2 hz hd s.val s.l.length (s.l.flatMap d.cs) HO.row ⟨b, off, none⟩ u.l.length u.cap (u.l.flatMap d.cs) (flat_len d.cs d.sz d.len u.l) hnews
      (fun v hv => by obtain ⟨x, _, hx⟩ := List.mem_flatMap.1 hv; exact h1 x v hx) (by simp only [maxLen]; omega) hbytes hbase
    have hshape : ∃ A c, v' = .slice A (s.l.length + u.l.length) c := by
      rcases h2.2 with ⟨e1, e2⟩ | ⟨g, cap, cur, e1, _⟩
      · exact ⟨none, 0, by rw [e1]; congr 1; omega⟩
      · exact ⟨_, cap, e1⟩
    obtain ⟨A, c, rfl⟩ := hshape
    have hval : (⟨A, c, s.l ++ u.l⟩ : Sl α).val = .slice A (s.l.length + u.l.length) c := by simp [Sl.val]
    refine ⟨⟨A, c, s.l ++ u.l⟩, w', by rw [hv, hval]; exact hr, ⟨?_, by simpa using hlen, ?_, ?_⟩, rfl, h3, by rw [hval]; exact h5⟩
    · rw [hval, List.length_append, List.flatMap_append]
      exact h2
    · intro x hx
      rcases List.mem_append.1 hx with hx | hx
      · exact d.mv (HO.elems x hx) fun k hk => h3.block k (d.lt (HO.elems x hx) k hk) (HO.apart x hx k hk)
      · exact d.mv (hu.2.2.2 x hx) fun k hk => h3.block k (d.lt (hu.2.2.2 x hx) k hk) (hap x hx k hk)
    · intro x hx k hk
      rw [hval]
      rcases h5 with h5 | h5 <;> rw [h5]
      · rcases List.mem_append.1 hx with hx | hx
        · exact HO.apart x hx k hk
        · exact hap x hx k hk
      · rcases List.mem_append.1 hx with hx | hx
        · have := d.lt (HO.elems x hx) k hk
          simp; omega
        · have := d.lt (hu.2.2.2 x hx) k hk
          simp; omega

/-- At the operation, for a walk. -/
theorem wpList_app (d : Kd α) (hd : 0 < d.sz) (h1 : ∀ x u, u ∈ d.cs x → u.oneCell' = true) (base : Nat) (hgd : o.guard = none) (t e : TypeId) (sx ux : Operand) (ho : o.op = .call { callee := .builtin .append, args := #[sx, ux], argTypes := #[t, t] })
    (z : Value) (bytes : Nat) (ht : P.underlying t = some (.slice e)) (hinfo : (P.info? e).map (fun i => (i.zero, i.size, i.bytes)) = some (some z, d.sz, bytes)) (hz : z.cells.size = d.sz) (hb0 : 0 < bytes) (w : World) (s u : Sl α)
    (hs : a.eval sx = s.val) (hux : a.eval ux = u.val) (HO : Own d e base w s) (hu : d.sl.rd w u) (hbase : base ≤ w.heap.size)
    (hap : ∀ x, x ∈ u.l → ∀ k, k ∈ d.fp x → some k ≠ s.val.ownBlock) (hbytes : (s.l.length + u.l.length) * bytes ≤ 140737488355328)
    (h : ∀ s' w', Own d e base w' s' → s'.l = s.l ++ u.l → w.grownBy w' s.val.ownBlock → (s'.val.ownBlock = s.val.ownBlock ∨ s'.val.ownBlock = some w.heap.size) → wpList P ops Q rest (a.put o.dst s'.val) w') :
    wpList P ops Q (o :: rest) a w := by
  refine wpList_plain hgd fun K hK => ?_
  obtain ⟨s', w', hr, h2, h3, h4, h5⟩ := run_app (P := P) d hd h1 base t o.type e z bytes ht hinfo hz hb0 w s u HO hu hbase hap hbytes
  unfold Oper.wp execOp
  simp only [ho, resolve, invoke, builtin, Sem.run_bind, Sem.run_pure, Result.andThen_ok, List.map_toArray, List.map_cons, List.map_nil, hs, hux, hr]
  exact hK _ _ (h s' w' h2 h3 h4 h5)
end
end Jq
