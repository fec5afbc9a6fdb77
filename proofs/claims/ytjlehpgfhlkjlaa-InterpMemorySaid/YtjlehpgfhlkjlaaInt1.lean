/-
  What interp.run holds in memory, and what its methods may change.
-/
import Derived.Test.YtjlehpgfhlkjlaaPInt
set_option linter.all false
namespace Go.Proofs.Ytjlehpgfhlkjlaa
open Go.RowKit Jq
set_option linter.unusedVariables false
/-- What a run holds. -/
structure RK (kb mb B : Nat) (lim : Int) (w : World) (s : IS) (M : Sl Int) (C : Sl (Jq.Event Sl)) (A : Sl Int) : Prop where
  k : w.heap[kb]? = some (.cells [.map (some mb), .int .i64 s.fin, .int .i32 s.val, M.val, C.val, .int .i64 s.steps, A.val, .int .i64 lim].toArray 122 (0, 0))
  m : ∃ l, w.heap[mb]? = some (mapObj .i64 (l.map vE)) ∧ ∀ n, getV l n = s.vals n
  mem : Own kW 21 B w M
  ml : M.l = s.mem
  calls : Own kEvent 56 B w C
  cfp : ∀ y, y ∈ C.l → ∀ q, q ∈ kEvent.fp y → B ≤ q ∧ q ≠ kb ∧ q ≠ mb ∧ some q ≠ M.val.ownBlock
  cl : C.l.map Jq.Event.p = s.calls
  ans : kW.sl.rd w A
  afp : ∀ q, q ∈ kW.sl.fp A → q < B
  al : A.l = s.ans
  ge : B ≤ kb ∧ B ≤ mb
/-- What a run's methods may change. -/
def FI (kb mb B : Nat) (w : World) (k : Nat) : Prop := k = kb ∨ k = mb ∨ (B ≤ k ∧ ∃ cs T fz, w.heap[k]? = some (.cells cs T fz) ∧ (T = 21 ∨ T = 56))
def ChI (kb mb B : Nat) (w w' : World) : Prop := Chg (FI kb mb B w) w w'
section
variable {kb mb B : Nat} {lim : Int} {w w1 w2 : World} {s : IS} {M : Sl Int} {C : Sl (Jq.Event Sl)} {A : Sl Int}
theorem ChI.refl (w : World) : ChI kb mb B w w := Chg.refl _ _
theorem ChI.trans (h : ChI kb mb B w w1) (k : ChI kb mb B w1 w2) : ChI kb mb B w w2 := by
  refine ⟨k.os.trans h.os, k.tape.trans h.tape, k.output.trans h.output, Nat.le_trans h.size k.size, fun q hq hn => ?_⟩
  have e := h.block q hq hn
  refine (k.block q (Nat.lt_of_lt_of_le hq h.size) fun hf => hn ?_).trans e
  rcases hf with hf | hf | ⟨hf, cs, T, fz, hc, ht⟩
  · exact Or.inl hf
  · exact Or.inr (Or.inl hf)
  · exact Or.inr (Or.inr ⟨hf, cs, T, fz, by rw [← e]; exact hc, ht⟩)
theorem ChI.of (h : Below w.heap.size w w1) : ChI kb mb B w w1 := Chg.of h
theorem ChI.below (h : ChI kb mb B w w1) (k : Below w1.heap.size w1 w2) : ChI kb mb B w w2 := h.trans (ChI.of k)
theorem ChI.set (h : ChI kb mb B w w1) (o : Nat) (v : Value) : ChI kb mb B w (w1.setCell ⟨kb, o, none⟩ v) := h.trans ((Chg.refl _ _).set kb o v (Or.inl (Or.inl rfl)))
theorem ChI.setMap (h : ChI kb mb B w w1) (o : Obj) : ChI kb mb B w (setMap w1 mb o) := h.trans ((Chg.refl _ _).setMap mb o (Or.inl (Or.inr (Or.inl rfl))))
theorem ChI.toBelow (h : ChI kb mb B w w1) (hg : B ≤ kb ∧ B ≤ mb) (hB : B ≤ w.heap.size) : Below B w w1 := by
  refine ⟨h.os, h.tape, h.output, h.size, fun q hq => h.block q (by omega) fun hf => ?_⟩
  rcases hf with hf | hf | ⟨hf, _⟩ <;> omega
/-- A box of the caller's stands. -/
theorem ChI.box (h : ChI kb mb B w w1) {q : Nat} {cs : Array Value} {T : TypeId} {fz : Nat × Nat} (hq : w.heap[q]? = some (.cells cs T fz)) (ht : T ≠ 21 ∧ T ≠ 56) (hk : q ≠ kb) (hm : q ≠ mb) : w1.heap[q]? = some (.cells cs T fz) := by
  refine (h.block q (lt_of_block hq) fun hf => ?_).trans hq
  rcases hf with hf | hf | ⟨_, cs', T', fz', hc, hT⟩
  · exact hk hf
  · exact hm hf
  · rw [hq] at hc
    injection hc with hc
    injection hc with _ e2
    subst e2
    rcases hT with hT | hT
    · exact ht.1 hT
    · exact ht.2 hT
theorem RK.ne (h : RK kb mb B lim w s M C A) : kb ≠ mb := by
  intro e
  obtain ⟨l, hl, _⟩ := h.m
  have h1 := h.k
  rw [e, hl] at h1
  simp [mapObj] at h1
theorem RK.mk_ne (h : RK kb mb B lim w s M C A) : M.val.ownBlock ≠ some kb := own_ne h.mem h.k (by decide)
theorem RK.ck_ne (h : RK kb mb B lim w s M C A) : C.val.ownBlock ≠ some kb := own_ne h.calls h.k (by decide)
theorem own_cells {α : Type} {d : Kd α} {e : TypeId} {base : Nat} {W : World} {u : Sl α} {g : Nat} (h : Own d e base W u) (hg : u.val.ownBlock = some g) : ∃ cs, W.heap[g]? = some (.cells cs e (0, 0)) := by
  rcases h.row.2 with ⟨h1, _⟩ | ⟨g1, c1, cu1, hv1, _, hh1, _⟩
  · rw [h1] at hg; simp [Value.ownBlock] at hg
  · rw [hv1] at hg
    simp only [Value.ownBlock, Option.some.injEq] at hg
    subst hg
    exact ⟨_, hh1⟩
theorem RK.mm_ne (h : RK kb mb B lim w s M C A) : M.val.ownBlock ≠ some mb := by
  intro e
  obtain ⟨cs, hc⟩ := own_cells h.mem e
  obtain ⟨l, hl, _⟩ := h.m
  rw [hl] at hc
  simp [mapObj] at hc
theorem RK.cm_ne (h : RK kb mb B lim w s M C A) : C.val.ownBlock ≠ some mb := by
  intro e
  obtain ⟨cs, hc⟩ := own_cells h.calls e
  obtain ⟨l, hl, _⟩ := h.m
  rw [hl] at hc
  simp [mapObj] at hc
theorem RK.cM_ne (h : RK kb mb B lim w s M C A) {g : Nat} (hg : C.val.ownBlock = some g) : M.val.ownBlock ≠ some g := by
  intro e
  obtain ⟨cs, hc⟩ := own_cells h.mem e
  obtain ⟨cs2, hc2⟩ := own_cells h.calls hg
  rw [hc] at hc2
  injection hc2 with hc2
  injection hc2 with _ e2
  exact absurd e2 (by decide)
/-- Nothing that it holds is changed. -/
theorem RK.mv (h : RK kb mb B lim w s M C A) (hk : w1.heap[kb]? = w.heap[kb]?) (hm : w1.heap[mb]? = w.heap[mb]?) (hb : ∀ q, q < w.heap.size → q ≠ kb → q ≠ mb → w1.heap[q]? = w.heap[q]?) : RK kb mb B lim w1 s M C A := by
  have g := h.ge
  have e : ∀ q, q < w.heap.size → w1.heap[q]? = w.heap[q]? := fun q hq => by
    by_cases h1 : q = kb
    · rw [h1]; exact hk
    by_cases h2 : q = mb
    · rw [h2]; exact hm
    exact hb q hq h1 h2
  obtain ⟨l, hl, hg⟩ := h.m
  exact ⟨hk.trans h.k, ⟨l, hm.trans hl, hg⟩, h.mem.mv fun q hq => e q (h.mem.lt q hq), h.ml, h.calls.mv fun q hq => e q (h.calls.lt q hq), h.cfp, h.cl, kW.sl.mv h.ans fun q hq => e q (kW.sl.lt h.ans q hq), h.afp, h.al, g⟩
theorem RK.go (h : RK kb mb B lim w s M C A) (hb : Below w.heap.size w w1) : RK kb mb B lim w1 s M C A := by
  obtain ⟨l, hl, _⟩ := h.m
  exact h.mv (hb.block _ (lt_of_block h.k)) (hb.block _ (lt_of_block hl)) fun q hq _ _ => hb.block q hq
/-- One of its cells is another one. -/
theorem RK.setk (h : RK kb mb B lim w s M C A) (o : Nat) (v : Value) (s' : IS) (A' : Sl Int) (h1 : s'.vals = s.vals) (h2 : s'.mem = s.mem) (h3 : s'.calls = s.calls) (hA : kW.sl.rd w A') (hf : ∀ q, q ∈ kW.sl.fp A' → q < B) (hal : A'.l = s'.ans)
    (he : [Value.map (some mb), .int .i64 s.fin, .int .i32 s.val, M.val, C.val, .int .i64 s.steps, A.val, .int .i64 lim].set o v = [Value.map (some mb), .int .i64 s'.fin, .int .i32 s'.val, M.val, C.val, .int .i64 s'.steps, A'.val, .int .i64 lim]) :
    RK kb mb B lim (w.setCell ⟨kb, o, none⟩ v) s' M C A' := by
  have hb : ∀ q, q ≠ kb → (w.setCell ⟨kb, o, none⟩ v).heap[q]? = w.heap[q]? := fun q hq => Below.heap_setCell _ _ _ _ hq
  obtain ⟨l, hl, hg⟩ := h.m
  have g := h.ge
  refine ⟨by rw [← he]; exact heap_set_self h.k, ⟨l, (hb _ h.ne.symm).trans hl, by rw [h1]; exact hg⟩, h.mem.mv fun q hq => hb q ?_, by rw [h2]; exact h.ml, h.calls.mv fun q hq => hb q ?_, h.cfp, by rw [h3]; exact h.cl, kW.sl.mv hA fun q hq => hb q ?_, hf, hal, g⟩
  · rcases hq with hq | ⟨x, _, hq⟩
    · intro e; subst e; exact h.mk_ne hq.symm
    · simp [kW, Kd.scalar] at hq
  · rcases hq with hq | ⟨x, hx, hq⟩
    · intro e; subst e; exact h.ck_ne hq.symm
    · exact (h.cfp x hx q hq).2.1
  · have := hf q hq
    omega
/-- A value is put. -/
theorem RK.putm (h : RK kb mb B lim w s M C A) (l : List (Int × Int)) (hl : w.heap[mb]? = some (mapObj .i64 (l.map vE))) (hg : ∀ n, getV l n = s.vals n) (n v : Int) :
    RK kb mb B lim (setMap w mb (mapObj .i64 (putE (l.map vE) n (.int .i32 v)))) (s.put n v) M C A := by
  have hb : ∀ q, q ≠ mb → (setMap w mb (mapObj .i64 (putE (l.map vE) n (.int .i32 v)))).heap[q]? = w.heap[q]? := fun q hq => setMap_other hq
  have g := h.ge
  refine ⟨(hb _ h.ne).trans h.k, ⟨putV l n v, by rw [setMap_self (lt_of_block hl), putE_vE], fun m => by rw [getV_put, hg]; rfl⟩, h.mem.mv fun q hq => hb q ?_, h.ml, h.calls.mv fun q hq => hb q ?_, h.cfp, h.cl, kW.sl.mv h.ans fun q hq => hb q ?_, h.afp, h.al, g⟩
  · rcases hq with hq | ⟨x, _, hq⟩
    · intro e; subst e; exact h.mm_ne hq.symm
    · simp [kW, Kd.scalar] at hq
  · rcases hq with hq | ⟨x, hx, hq⟩
    · intro e; subst e; exact h.cm_ne hq.symm
    · exact (h.cfp x hx q hq).2.2.1
  · have := h.afp q hq
    omega
/-- A word of memory is stored. -/
theorem RK.store (h : RK kb mb B lim w s M C A) (l : List Int) (hl : l.length = s.mem.length) (hM : Own kW 21 B w1 (M.wl l)) (hc : Chg (fun k => some k = M.val.ownBlock) w w1) : RK kb mb B lim w1 { s with mem := l } (M.wl l) C A := by
  have hv : (M.wl l).val = M.val := Sl.wl_val (by rw [hl, h.ml])
  obtain ⟨lv, hlv, hg⟩ := h.m
  have g := h.ge
  refine ⟨by rw [hv]; exact (hc.block _ (lt_of_block h.k) fun e => h.mk_ne e.symm).trans h.k, ⟨lv, (hc.block _ (lt_of_block hlv) fun e => h.mm_ne e.symm).trans hlv, hg⟩, hM, rfl, h.calls.mv fun q hq => hc.block q (h.calls.lt q hq) fun e => ?_, fun y hy q hq => by rw [hv]; exact h.cfp y hy q hq, h.cl, kW.sl.mv h.ans fun q hq => hc.block q (kW.sl.lt h.ans q hq) fun e => ?_, h.afp, h.al, g⟩
  · rcases hq with hq | ⟨x, hx, hq⟩
    · exact h.cM_ne hq.symm e.symm
    · exact (h.cfp x hx q hq).2.2.2 e
  · have h1 := h.afp q hq
    have h2 := h.mem.ge q e
    omega
theorem RK.storeC (h : RK kb mb B lim w s M C A) (hc : Chg (fun k => some k = M.val.ownBlock) w w1) : ChI kb mb B w w1 := by
  refine hc.mono fun q hq => ?_
  obtain ⟨cs, hcs⟩ := own_cells h.mem hq.symm
  exact Or.inr (Or.inr ⟨h.mem.ge q hq, cs, _, _, hcs, Or.inl rfl⟩)
/-- Its cells, one by one. -/
theorem RK.c (h : RK kb mb B lim w s M C A) : w.cell? ⟨kb, 0, none⟩ = some (.map (some mb)) ∧ w.cell? ⟨kb, 1, none⟩ = some (.int .i64 s.fin) ∧ w.cell? ⟨kb, 2, none⟩ = some (.int .i32 s.val) ∧ w.cell? ⟨kb, 3, none⟩ = some M.val ∧ w.cell? ⟨kb, 4, none⟩ = some C.val ∧ w.cell? ⟨kb, 5, none⟩ = some (.int .i64 s.steps) ∧ w.cell? ⟨kb, 6, none⟩ = some A.val ∧ w.cell? ⟨kb, 7, none⟩ = some (.int .i64 lim) ∧ ∀ j, w.frozen? ⟨kb, j, none⟩ = false := by
  refine ⟨?_, ?_, ?_, ?_, ?_, ?_, ?_, ?_, fun j => ?_⟩ <;> simp [World.cell?, World.frozen?, h.k]
theorem RK.end_ (h : RK kb mb B lim w s M C A) (k v : Int) : RK kb mb B lim ((w.setCell ⟨kb, 1, none⟩ (.int .i64 k)).setCell ⟨kb, 2, none⟩ (.int .i32 v)) (s.end_ k v) M C A := by
  have h1 := h.setk 1 (.int .i64 k) { s with fin := k } A rfl rfl rfl h.ans h.afp h.al rfl
  exact h1.setk 2 (.int .i32 v) (s.end_ k v) A rfl rfl rfl h1.ans h1.afp h1.al rfl
end
end Go.Proofs.Ytjlehpgfhlkjlaa
