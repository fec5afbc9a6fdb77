/-
  interp.run.ins: loads.
  interp.run.ins: loads of words that there are not; stores.
-/
import Derived.Test.YtjlehpgfhlkjlaaInt6
set_option linter.all false
namespace Go.Proofs.Ytjlehpgfhlkjlaa
open Go.RowKit Jq Go.Deep
set_option linter.unusedVariables false
section
variable {kb mb B : Nat} {lim : Int} {w w1 w2 : World} {s : IS} {M : Sl Int} {C : Sl (Jq.Event Sl)} {A : Sl Int} {x : Jq.Ins Sl} {o : Sl Int}
/-- The world behind 'run.end'. -/
def endW (kb : Nat) (k v : Int) (w : World) : World := (w.setCell ⟨kb, 1, none⟩ (.int .i64 k)).setCell ⟨kb, 2, none⟩ (.int .i32 v)
set_option maxRecDepth 100000 in
set_option maxHeartbeats 1000000 in
/-- 'run.end', and the very world. -/
theorem inEndX (h : RK kb mb B lim w s M C A) (k v : Int) : Calls Try.prog 115 #[.pointer (some ⟨kb, 0, none⟩), .int .i64 k, .int .i32 v] w fun e w' => e = .returned (.tuple #[]) ∧ endW kb k v w = w' := by
  obtain ⟨c0, c1, c2, c3, c4, c5, c6, c7, cf⟩ := h.c
  have f1 := cf 1
  have f2 := cf 2
  have h1 := h.setk 1 (.int .i64 k) { s with fin := k } A rfl rfl rfl h.ans h.afp h.al rfl
  have d2 : (w.setCell ⟨kb, 1, none⟩ (.int .i64 k)).cell? ⟨kb, 2, none⟩ = some (.int .i32 s.val) := by simp [World.cell?, h1.k]
  have g2 : (w.setCell ⟨kb, 1, none⟩ (.int .i64 k)).frozen? ⟨kb, 2, none⟩ = false := by simp [World.frozen?, h1.k]
  clear h h1 c0 c3 c4 c5 c6 c7 cf
  go_enter Try.func115, Try.ntmps115
  go_wp2_with fail
  go_end0
  exact ⟨rfl, rfl⟩
set_option maxRecDepth 100000 in
set_option maxHeartbeats 1000000 in
/-- 'memory', where there is such a word. -/
theorem inMemT (gk : Nat) (v : Int) (w : World) : Calls Try.prog 117 #[.int .i32 v, .bool true, .pointer (some ⟨gk, 0, none⟩)] w fun e w' => e = .returned (.int .i32 v) ∧ w = w' := by
  go_enter Try.func117, Try.ntmps117
  go_wp2_with fail
  go_ret
  exact ⟨rfl, rfl⟩
set_option maxRecDepth 100000 in
set_option maxHeartbeats 1000000 in
/-- 'memory', where there is none. -/
theorem inMemX (h : RK kb mb B lim w s M C A) (gk : Nat) (hk : w.cell? ⟨gk, 0, none⟩ = some (.pointer (some ⟨kb, 0, none⟩))) (v : Int) : Calls Try.prog 117 #[.int .i32 v, .bool false, .pointer (some ⟨gk, 0, none⟩)] w fun e w' => e = .returned (.int .i32 v) ∧ endW kb 2 (-2) w = w' := by
  have hc := Lib.hid (inEndX h 2 (-2))
  clear h
  go_enter Try.func117, Try.ntmps117
  go_wp2_with fail
  refine hc.out.mono ?_
  rintro e w1 ⟨rfl, rfl⟩
  go_wp2_with fail
  go_ret
  exact ⟨rfl, rfl⟩
theorem ldT (h : RK kb mb B lim w1 s M C A) {W : World} (hbW : Below w1.heap.size w1 W) (n : Int) (hok : ldOk s.mem (wrap32 n) = true) : Calls Try.prog 40 #[M.val, .int .i32 (IntKind.i32.wrap n)] W fun e w' => e = .returned (.tuple #[.int .i32 (ldV s.mem (wrap32 n)), .bool true]) ∧ W = w' := by
  rw [show IntKind.i32.wrap n = wrap32 n from by unfold wrap32; exact IntKind.wrap_i32 n]
  refine (interpLoad M (wrap32 n) W (h.mem.below hbW).rd (Jq.wrap32_64 n)).mono ?_
  rintro e w' ⟨rfl, rfl⟩
  rw [h.ml, hok]
  exact ⟨rfl, rfl⟩
theorem ldF (h : RK kb mb B lim w1 s M C A) {W : World} (hbW : Below w1.heap.size w1 W) (n : Int) (hok : ldOk s.mem (wrap32 n) = false) : Calls Try.prog 40 #[M.val, .int .i32 (IntKind.i32.wrap n)] W fun e w' => e = .returned (.tuple #[.int .i32 0, .bool false]) ∧ W = w' := by
  rw [show IntKind.i32.wrap n = wrap32 n from by unfold wrap32; exact IntKind.wrap_i32 n]
  refine (interpLoad M (wrap32 n) W (h.mem.below hbW).rd (Jq.wrap32_64 n)).mono ?_
  rintro e w' ⟨rfl, rfl⟩
  rw [h.ml, hok]
  refine ⟨?_, rfl⟩
  unfold ldV
  rw [if_neg (by rw [hok]; simp)]
theorem endW_cell {kb : Nat} {k v : Int} {w : World} {a : Nat} {j : Nat} (h : a ≠ kb) : (endW kb k v w).cell? ⟨a, j, none⟩ = w.cell? ⟨a, j, none⟩ :=
  World.cell?_of_block (w := w) (a := ⟨a, j, none⟩) ((Below.heap_setCell _ _ _ _ h).trans (Below.heap_setCell _ _ _ _ h))
set_option maxRecDepth 100000 in
set_option maxHeartbeats 2000000 in
/-- 'run.ins', of a load of a word that there is. -/
theorem inInsL (h : RK kb mb B lim w s M C A) (hB : B ≤ w.heap.size) (x : Jq.Ins Sl) (hx : kIns.rd w x) (h8 : x.args.l.length * 4 ≤ 140737488355320) (hop : x.op = 15) (a : Int) (ha : (s.words x.args.l)[0]? = some a) (hok : ldOk s.mem (wrap32 (a + x.imm)) = true) :
    Calls Try.prog 79 #[.pointer (some ⟨kb, 0, none⟩), x.v] w (MR kb mb B lim w (.tuple #[]) (s.put x.dst (ldV s.mem (wrap32 (a + x.imm))))) := by
  have hc := Lib.hid (iw_of h hB x hx h8)
  have d1 : (x.op == 1) = false := by simp [hop]
  have d15 : (x.op == 15) = true := by simp [hop]
  have ha' := Lib.hid ha
  have hok' := Lib.hid hok
  have hmf : ∀ (fn : Fn) (first cap : Array Value) (w : World), (Instr.makeFunc fn first cap).run Try.prog w = .ok (.func fn first cap) w := fun _ _ _ _ => rfl
  clear h hx hop ha hok
  go_enter Try.func79, Try.ntmps79
  go_wp2_with fail
  refine hc.out.mono ?_
  rintro e w1 ⟨o, rfl, hW⟩
  have c2 := hW.c.2.1
  have hW' := Lib.hid hW
  clear hW
  go_wp2_with fail
  obtain ⟨c1, c2', c3, c4, c5⟩ := hW'.out.c
  have c6 := hW'.out.rk.c.1
  have c9 := hW'.out.rk.c.2.2.2.1
  obtain ⟨hk0, e0⟩ := hW'.out.el ha'.out
  obtain ⟨b4, o4, h4, hb4, hc4⟩ := getW 25 21 Try.underlying25 (by kernel_rfl) hW'.out.own.rd 0 hk0 rfl
  rw [Nat.add_zero, e0] at hc4
  have hLd := Lib.hid (fun (W : World) (hbW : Below w1.heap.size w1 W) => ldT hW'.out.rk hbW (a + x.imm) hok'.out)
  have hm : ∃ lv, w1.heap[mb]? = some (mapObj .i64 (List.map vE lv)) := by obtain ⟨lv, hlv, _⟩ := hW'.out.rk.m; exact ⟨lv, hlv⟩
  have hnc : ∀ (q : Nat) (j : Nat) (v : Value), w1.cell? ⟨q, j, none⟩ = some v → q ≠ mb := fun q j v hv e => by
    obtain ⟨lv, hlv⟩ := hm
    subst e
    simp [World.cell?, hlv, mapObj] at hv
  obtain ⟨w2, hput, hR, hC, hM⟩ := (hW'.out.rk.go (Below.refl _ _).drew).putW x.dst (ldV s.mem (wrap32 (a + x.imm)))
  have hmv : ∀ (q : Nat) (j : Nat) (v : Value), w1.cell? ⟨q, j, none⟩ = some v → w2.cell? ⟨q, j, none⟩ = some v := fun q j v hv => by
    have hq := hM q (hnc q j v hv)
    rw [← hv]
    simp only [World.cell?]
    rw [hq]
    rfl
  have m1 := hmv _ _ _ c1
  have m3 := hmv _ _ _ c3
  have m5 := hmv _ _ _ c5
  have m6 := hmv _ _ _ c6
  have m7 := hmv _ _ _ hc4
  have m9 := hmv _ _ _ c9
  have hR' := Lib.hid hR
  have hC' := Lib.hid ((ChI.of hW'.out.below.drew).trans hC)
  clear hR hC hM hm hnc hmv hk0 e0 c2 c2' c4 hok'
  go_region_held3 (fun w' => w'.cell? ⟨w.heap.size, 0, none⟩ = some (.pointer (some ⟨kb, 0, none⟩)) ∧ w'.cell? ⟨kb, 0, none⟩ = some (.map (some mb)) ∧ w'.cell? ⟨w.heap.size + 1, 1, none⟩ = some (.int .i64 x.dst) ∧ w'.cell? ⟨w.heap.size + 1, 4, none⟩ = some (.int .i32 x.imm) ∧ w'.cell? ⟨b4, o4, none⟩ = some (.int .i32 a) ∧ w'.cell? ⟨kb, 3, none⟩ = some M.val) (first | go_keep | exact ⟨by assumption, by assumption, by assumption, by assumption, by assumption, by assumption⟩) (first | (go_at_call 40; refine (hLd.out _ (by repeat (first | exact Below.refl _ _ | refine Below.drew ?_))).mono ?_; rintro e w9 ⟨rfl, rfl⟩) | (go_at_call 117; refine (inMemT w.heap.size (ldV s.mem (wrap32 (a + x.imm))) _).mono ?_; rintro e w9 ⟨rfl, rfl⟩))
  clear hput m1 m3 m5 m6 m7 m9 c1 c3 c5 c6 hc4 c9 hLd
  go_wp2_with fail
  go_end0
  exact ⟨rfl, ⟨_, _, _, hR'.out⟩, hC'.out⟩
end
end Go.Proofs.Ytjlehpgfhlkjlaa
set_option linter.all false
namespace Go.Proofs.Ytjlehpgfhlkjlaa
open Go.RowKit Jq Go.Deep
set_option linter.unusedVariables false
section
variable {kb mb B : Nat} {lim : Int} {w w1 w2 : World} {s : IS} {M : Sl Int} {C : Sl (Jq.Event Sl)} {A : Sl Int} {x : Jq.Ins Sl} {o : Sl Int}
/-- An operand's word, and where it lies. -/
theorem IW.el2 (h : IW kb mb B lim w s M C A x o w1) {k : Nat} {v : Int} (hv : (s.words x.args.l)[k]? = some v) (i : Int) (hi : i = k) :
    ∃ b, (∀ W, (Instr.indexAt 25 o.val (.int .i64 i)).run Try.prog W = .ok (.pointer (some ⟨b, k, none⟩)) W) ∧ w1.cell? ⟨b, k, none⟩ = some (.int .i32 v) ∧ w.heap.size + 2 ≤ b := by
  obtain ⟨hk, e⟩ := h.el hv
  obtain ⟨g, hA, hge, hlt, hc, hf, hob, _⟩ := h.own.spot (c := fun x => .int .i32 x) rfl (fun _ => rfl) hk
  refine ⟨g, fun W => ?_, by rw [hc, e], hge⟩
  have := Kd.run_index (P := Try.prog) 25 21 Try.underlying25 o g 0 1 hA (by kernel_rfl) i k hi hk W
  rw [Nat.zero_add, Nat.mul_one] at this
  exact this
/-- What a store is told, and the very world. -/
theorem stT (h : RK kb mb B lim w1 s M C A) (n v : Int) (hok : ldOk s.mem (wrap32 n) = true) :
    ∃ g, M.val.ownBlock = some g ∧ Calls Try.prog 41 #[M.val, .int .i32 (IntKind.i32.wrap n), .int .i32 v] w1 (fun e w' => e = .returned (.bool true) ∧ w1.setCell ⟨g, (wrap32 n).toNat, none⟩ (.int .i32 v) = w') ∧
      RK kb mb B lim (w1.setCell ⟨g, (wrap32 n).toNat, none⟩ (.int .i32 v)) { s with mem := mset s.mem (wrap32 n) v } (M.wl (mset s.mem (wrap32 n) v)) C A ∧ ChI kb mb B w1 (w1.setCell ⟨g, (wrap32 n).toNat, none⟩ (.int .i32 v)) := by
  rw [show IntKind.i32.wrap n = wrap32 n from by unfold wrap32; exact IntKind.wrap_i32 n]
  obtain ⟨r, hr⟩ : ∃ r, r = wrap32 n := ⟨_, rfl⟩
  have hr64 : wrap64 r = r := by rw [hr]; exact Jq.wrap32_64 n
  rw [← hr] at hok ⊢
  clear hr
  have hok2 : ldOk M.l r = true := by rw [h.ml]; exact hok
  have hc' := Lib.hid (interpLoad M r w1 h.mem.rd hr64)
  rw [hok2] at hc'
  obtain ⟨g, hA, hbs, hlt, hc, hf, hob, hst⟩ := h.mem.setAt r v ((ldOk_iff _ _).1 hok2)
  have hat := run_index32 (P := Try.prog) 25 21 Try.underlying25 M g 0 1 hA (by kernel_rfl) r r.toNat (by have := (ldOk_iff _ _).1 hok2; omega) (by have := (ldOk_iff _ _).1 hok2; omega)
  rw [Nat.zero_add, Nat.mul_one] at hat
  have hch : Chg (fun k => some k = M.val.ownBlock) w1 (w1.setCell ⟨g, r.toNat, none⟩ (.int .i32 v)) := (Chg.refl _ _).set _ _ _ (Or.inl hob.symm)
  rw [h.ml] at hst
  refine ⟨g, hob, ?_, h.store (mset s.mem r v) (by simp) hst hch, h.storeC hch⟩
  clear h hst hch hok hob hbs
  go_enter Try.func41, Try.ntmps41
  go_wp2_with fail
  refine hc'.out.mono ?_
  rintro e w1 ⟨rfl, rfl⟩
  go_wp2_with fail
  go_ret
  exact ⟨rfl, rfl⟩
theorem stF (h : RK kb mb B lim w1 s M C A) {W : World} (hbW : Below w1.heap.size w1 W) (n v : Int) (hok : ldOk s.mem (wrap32 n) = false) :
    Calls Try.prog 41 #[M.val, .int .i32 (IntKind.i32.wrap n), .int .i32 v] W (fun e w' => e = .returned (.bool false) ∧ W = w') := by
  have hc' := Lib.hid (ldF h hbW n hok)
  rw [show IntKind.i32.wrap n = wrap32 n from by unfold wrap32; exact IntKind.wrap_i32 n] at hc' ⊢
  obtain ⟨r, hr⟩ : ∃ r, r = wrap32 n := ⟨_, rfl⟩
  rw [← hr] at hc' ⊢
  clear hr h hok hbW
  go_enter Try.func41, Try.ntmps41
  go_wp2_with fail
  refine hc'.out.mono ?_
  rintro e w1 ⟨rfl, rfl⟩
  go_wp2_with fail
  go_ret
  exact ⟨rfl, rfl⟩
set_option maxRecDepth 100000 in
set_option maxHeartbeats 2000000 in
/-- 'run.ins', of a load of a word that there is not. -/
theorem inInsLx (h : RK kb mb B lim w s M C A) (hB : B ≤ w.heap.size) (x : Jq.Ins Sl) (hx : kIns.rd w x) (h8 : x.args.l.length * 4 ≤ 140737488355320) (hop : x.op = 15) (a : Int) (ha : (s.words x.args.l)[0]? = some a) (hok : ldOk s.mem (wrap32 (a + x.imm)) = false) :
    Calls Try.prog 79 #[.pointer (some ⟨kb, 0, none⟩), x.v] w (MR kb mb B lim w (.tuple #[]) ((s.end_ 2 (-2)).put x.dst 0)) := by
  have hc := Lib.hid (iw_of h hB x hx h8)
  have d1 : (x.op == 1) = false := by simp [hop]
  have d15 : (x.op == 15) = true := by simp [hop]
  have d16 : (x.op == 16) = false := by simp [hop]
  have ha' := Lib.hid ha
  have hok' := Lib.hid hok
  have hMlt := Lib.hid (fun (g : Nat) (hg : M.val.ownBlock = some g) => h.mem.lt g (Or.inl hg.symm))
  have hmf : ∀ (fn : Fn) (first cap : Array Value) (w : World), (Instr.makeFunc fn first cap).run Try.prog w = .ok (.func fn first cap) w := fun _ _ _ _ => rfl
  clear h hx hop ha hok
  go_enter Try.func79, Try.ntmps79
  go_wp2_with fail
  refine hc.out.mono ?_
  rintro e w1 ⟨o, rfl, hW⟩
  have c2 := hW.c.2.1
  have hW' := Lib.hid hW
  clear hW
  go_wp2_with fail
  obtain ⟨c1, c2', c3, c4, c5⟩ := hW'.out.c
  have c6 := hW'.out.rk.c.1
  have c9 := hW'.out.rk.c.2.2.2.1
  obtain ⟨b4, h4, hc4, hge4⟩ := hW'.out.el2 ha'.out 0 rfl
  have hm : ∃ lv, w1.heap[mb]? = some (mapObj .i64 (List.map vE lv)) := by obtain ⟨lv, hlv, _⟩ := hW'.out.rk.m; exact ⟨lv, hlv⟩
  have hnc : ∀ (q : Nat) (j : Nat) (v : Value), w1.cell? ⟨q, j, none⟩ = some v → q ≠ mb := fun q j v hv e => by
    obtain ⟨lv, hlv⟩ := hm
    subst e
    simp [World.cell?, hlv, mapObj] at hv
  have hRd := hW'.out.rk.go (Below.refl _ _).drew
  have hkne : kb ≠ w.heap.size := fun e => by
    have h1 := hW'.out.rk.k
    rw [e, hW'.out.b2] at h1
    injection h1 with h1
    injection h1 with h1
    have h2 := congrArg Array.size h1
    simp at h2
  have hkne1 : kb ≠ w.heap.size + 1 := fun e => by
    have h1 := hW'.out.rk.k
    rw [e, hW'.out.b3] at h1
    injection h1 with h1
    injection h1 with h1
    have h2 := congrArg Array.size h1
    simp at h2
  have hk4 : b4 ≠ kb := fun e => by
    have := hW'.out.rk.k
    obtain ⟨hk0, e0⟩ := hW'.out.el ha'.out
    obtain ⟨g, hA, hge, hlt, hc, hf, hob, _⟩ := hW'.out.own.spot (c := fun x => .int .i32 x) rfl (fun _ => rfl) hk0
    have h2 := h4 w1
    have h3 := Kd.run_index (P := Try.prog) 25 21 Try.underlying25 o g 0 1 hA (by kernel_rfl) 0 0 rfl hk0 w1
    rw [h2] at h3
    injection h3 with h3
    injection h3 with h3
    injection h3 with h3
    injection h3 with h3
    exact own_ne hW'.out.own hW'.out.rk.k (by decide) (by rw [hob, ← h3, e])
  obtain ⟨W2, hW2⟩ : ∃ W2, W2 = endW kb 2 (-2) w1.drew := ⟨_, rfl⟩
  have hE : RK kb mb B lim W2 (s.end_ 2 (-2)) M C A := by rw [hW2]; exact hRd.end_ 2 (-2)
  have hCE : ChI kb mb B w1.drew W2 := by rw [hW2]; exact ((ChI.refl _).set 1 _).set 2 _
  have p1 : W2.cell? ⟨w.heap.size, 0, none⟩ = some (.pointer (some ⟨kb, 0, none⟩)) := by rw [hW2, endW_cell hkne.symm]; exact c1
  have p3 : W2.cell? ⟨w.heap.size + 1, 1, none⟩ = some (.int .i64 x.dst) := by rw [hW2, endW_cell hkne1.symm]; exact c3
  have p5 : W2.cell? ⟨w.heap.size + 1, 4, none⟩ = some (.int .i32 x.imm) := by rw [hW2, endW_cell hkne1.symm]; exact c5
  have p6 := hE.c.1
  have p7 : W2.cell? ⟨b4, 0, none⟩ = some (.int .i32 a) := by rw [hW2, endW_cell hk4]; exact hc4
  have p9 := hE.c.2.2.2.1
  obtain ⟨w2, hput, hR, hC, hM⟩ := hE.putW x.dst 0
  have hmv : ∀ (q : Nat) (j : Nat) (v : Value), q ≠ mb → W2.cell? ⟨q, j, none⟩ = some v → w2.cell? ⟨q, j, none⟩ = some v := fun q j v hq hv => by
    have hq := hM q hq
    rw [← hv]
    simp only [World.cell?]
    rw [hq]
  have m1 := hmv _ _ _ (hnc _ _ _ c1) p1
  have m3 := hmv _ _ _ (hnc _ _ _ c3) p3
  have m5 := hmv _ _ _ (hnc _ _ _ c3) p5
  have m6 := hmv _ _ _ (hnc _ _ _ c6) p6
  have m7 := hmv _ _ _ (hnc _ _ _ hc4) p7
  have m9 := hmv _ _ _ (hnc _ _ _ c6) p9
  have hLd := Lib.hid (fun (W : World) (hbW : Below w1.heap.size w1 W) => ldF hW'.out.rk hbW (a + x.imm) hok'.out)
  have hEn := Lib.hid (show Calls Try.prog 117 #[.int .i32 0, .bool false, .pointer (some ⟨w.heap.size, 0, none⟩)] w1.drew fun e w' => e = .returned (.int .i32 0) ∧ W2 = w' from by rw [hW2]; exact inMemX hRd w.heap.size c1 0)
  have hR' := Lib.hid hR
  have hC' := Lib.hid ((ChI.of hW'.out.below.drew).trans (hCE.trans hC))
  clear hR hC hM hm hnc hmv hge4 c2 c2' c4 hok' hE hCE hRd hk4 hkne hkne1 hW2
  go_region_held3 (fun w' => w'.cell? ⟨w.heap.size, 0, none⟩ = some (.pointer (some ⟨kb, 0, none⟩)) ∧ w'.cell? ⟨kb, 0, none⟩ = some (.map (some mb)) ∧ w'.cell? ⟨w.heap.size + 1, 1, none⟩ = some (.int .i64 x.dst) ∧ w'.cell? ⟨w.heap.size + 1, 4, none⟩ = some (.int .i32 x.imm) ∧ w'.cell? ⟨b4, 0, none⟩ = some (.int .i32 a) ∧ w'.cell? ⟨kb, 3, none⟩ = some M.val) (first | go_keep | exact ⟨by assumption, by assumption, by assumption, by assumption, by assumption, by assumption⟩) (first | (go_at_call 40; refine (hLd.out _ (by repeat (first | exact Below.refl _ _ | refine Below.drew ?_))).mono ?_; rintro e w9 ⟨rfl, rfl⟩) | (go_at_call 117; refine hEn.out.mono ?_; rintro e w9 ⟨rfl, rfl⟩))
  clear hput m1 m3 m5 m6 m7 m9 p1 p3 p5 p6 p7 p9 c1 c3 c5 c6 hc4 c9 hLd hEn
  go_wp2_with fail
  go_end0
  exact ⟨rfl, ⟨_, _, _, hR'.out⟩, hC'.out⟩
set_option maxRecDepth 100000 in
set_option maxHeartbeats 2000000 in
/-- 'run.ins', of a store into a word that there is. -/
theorem inInsS (h : RK kb mb B lim w s M C A) (hB : B ≤ w.heap.size) (x : Jq.Ins Sl) (hx : kIns.rd w x) (h8 : x.args.l.length * 4 ≤ 140737488355320) (hop : x.op = 16) (a : Int) (ha : (s.words x.args.l)[0]? = some a) (b : Int) (hb : (s.words x.args.l)[1]? = some b) (hok : ldOk s.mem (wrap32 (a + x.imm)) = true) :
    Calls Try.prog 79 #[.pointer (some ⟨kb, 0, none⟩), x.v] w (MR kb mb B lim w (.tuple #[]) ({ s with mem := mset s.mem (wrap32 (a + x.imm)) b })) := by
  have hc := Lib.hid (iw_of h hB x hx h8)
  have d1 : (x.op == 1) = false := by simp [hop]
  have d15 : (x.op == 15) = false := by simp [hop]
  have d16 : (x.op == 16) = true := by simp [hop]
  have ha' := Lib.hid ha
  have hb' := Lib.hid hb
  have hok' := Lib.hid hok
  have hMlt := Lib.hid (fun (g : Nat) (hg : M.val.ownBlock = some g) => h.mem.lt g (Or.inl hg.symm))
  have hmf : ∀ (fn : Fn) (first cap : Array Value) (w : World), (Instr.makeFunc fn first cap).run Try.prog w = .ok (.func fn first cap) w := fun _ _ _ _ => rfl
  clear h hx hop ha hok hb
  go_enter Try.func79, Try.ntmps79
  go_wp2_with fail
  refine hc.out.mono ?_
  rintro e w1 ⟨o, rfl, hW⟩
  have c2 := hW.c.2.1
  have hW' := Lib.hid hW
  clear hW
  go_wp2_with fail
  obtain ⟨c1, c2', c3, c4, c5⟩ := hW'.out.c
  have c6 := hW'.out.rk.c.1
  have c9 := hW'.out.rk.c.2.2.2.1
  obtain ⟨b4, h4, hc4, hge4⟩ := hW'.out.el2 ha'.out 0 rfl
  obtain ⟨b5, h5, hc5, hge5⟩ := hW'.out.el2 hb'.out 1 rfl
  have hm : ∃ lv, w1.heap[mb]? = some (mapObj .i64 (List.map vE lv)) := by obtain ⟨lv, hlv, _⟩ := hW'.out.rk.m; exact ⟨lv, hlv⟩
  have hnc : ∀ (q : Nat) (j : Nat) (v : Value), w1.cell? ⟨q, j, none⟩ = some v → q ≠ mb := fun q j v hv e => by
    obtain ⟨lv, hlv⟩ := hm
    subst e
    simp [World.cell?, hlv, mapObj] at hv
  have hRd := hW'.out.rk.go (Below.refl _ _).drew
  have hkne : kb ≠ w.heap.size := fun e => by
    have h1 := hW'.out.rk.k
    rw [e, hW'.out.b2] at h1
    injection h1 with h1
    injection h1 with h1
    have h2 := congrArg Array.size h1
    simp at h2
  have hkne1 : kb ≠ w.heap.size + 1 := fun e => by
    have h1 := hW'.out.rk.k
    rw [e, hW'.out.b3] at h1
    injection h1 with h1
    injection h1 with h1
    have h2 := congrArg Array.size h1
    simp at h2
  obtain ⟨g, hg, hSt, hR, hC⟩ := stT hRd (a + x.imm) b hok'.out
  have hgl := hMlt.out g hg
  have hkg : kb ≠ g := fun e => hW'.out.rk.mk_ne (by rw [hg, e])
  obtain ⟨W2, hW2⟩ : ∃ W2, W2 = w1.drew.setCell ⟨g, (wrap32 (a + x.imm)).toNat, none⟩ (.int .i32 b) := ⟨_, rfl⟩
  rw [← hW2] at hSt hR hC
  have hcc : ∀ (q : Nat) (j : Nat), q ≠ g → W2.cell? ⟨q, j, none⟩ = w1.cell? ⟨q, j, none⟩ := fun q j hq => by
    rw [hW2]
    exact (World.cell?_of_block (w := w1.drew) (a := ⟨q, j, none⟩) (Below.heap_setCell _ _ _ _ hq))
  have p1 := (hcc w.heap.size 0 (by omega)).trans c1
  have p5 := (hcc (w.heap.size + 1) 4 (by omega)).trans c5
  have p7 := (hcc b4 0 (by omega)).trans hc4
  have p8 := (hcc b5 1 (by omega)).trans hc5
  have p9 := (hcc kb 3 hkg).trans c9
  have hSt' := Lib.hid hSt
  have hR' := Lib.hid hR
  have hC' := Lib.hid ((ChI.of hW'.out.below.drew).trans hC)
  clear hSt hR hC hm hnc hcc hkg hgl hg hge4 hge5 c2 c2' c3 c4 c6 hok' hRd hkne hkne1 hW2
  go_region_held3 (fun w' => w'.cell? ⟨w.heap.size, 0, none⟩ = some (.pointer (some ⟨kb, 0, none⟩)) ∧ w'.cell? ⟨kb, 3, none⟩ = some M.val ∧ w'.cell? ⟨w.heap.size + 1, 4, none⟩ = some (.int .i32 x.imm) ∧ w'.cell? ⟨b4, 0, none⟩ = some (.int .i32 a) ∧ w'.cell? ⟨b5, 1, none⟩ = some (.int .i32 b)) (first | go_keep | exact ⟨by assumption, by assumption, by assumption, by assumption, by assumption⟩) (first | (go_at_call 41; refine hSt'.out.mono ?_; rintro e w9 ⟨rfl, rfl⟩) | (go_at_call 117; refine (inMemT w.heap.size 0 _).mono ?_; rintro e w9 ⟨rfl, rfl⟩))
  clear hSt' p1 p5 p7 p8 p9 c1 c5 hc4 hc5 c9
  go_wp2_with fail
  go_end0
  exact ⟨rfl, ⟨_, _, _, hR'.out⟩, hC'.out⟩
set_option maxRecDepth 100000 in
set_option maxHeartbeats 2000000 in
/-- 'run.ins', of a store into a word that there is not. -/
theorem inInsSx (h : RK kb mb B lim w s M C A) (hB : B ≤ w.heap.size) (x : Jq.Ins Sl) (hx : kIns.rd w x) (h8 : x.args.l.length * 4 ≤ 140737488355320) (hop : x.op = 16) (a : Int) (ha : (s.words x.args.l)[0]? = some a) (b : Int) (hb : (s.words x.args.l)[1]? = some b) (hok : ldOk s.mem (wrap32 (a + x.imm)) = false) :
    Calls Try.prog 79 #[.pointer (some ⟨kb, 0, none⟩), x.v] w (MR kb mb B lim w (.tuple #[]) (s.end_ 2 (-2))) := by
  have hc := Lib.hid (iw_of h hB x hx h8)
  have d1 : (x.op == 1) = false := by simp [hop]
  have d15 : (x.op == 15) = false := by simp [hop]
  have d16 : (x.op == 16) = true := by simp [hop]
  have ha' := Lib.hid ha
  have hb' := Lib.hid hb
  have hok' := Lib.hid hok
  have hMlt := Lib.hid (fun (g : Nat) (hg : M.val.ownBlock = some g) => h.mem.lt g (Or.inl hg.symm))
  have hmf : ∀ (fn : Fn) (first cap : Array Value) (w : World), (Instr.makeFunc fn first cap).run Try.prog w = .ok (.func fn first cap) w := fun _ _ _ _ => rfl
  clear h hx hop ha hok hb
  go_enter Try.func79, Try.ntmps79
  go_wp2_with fail
  refine hc.out.mono ?_
  rintro e w1 ⟨o, rfl, hW⟩
  have c2 := hW.c.2.1
  have hW' := Lib.hid hW
  clear hW
  go_wp2_with fail
  obtain ⟨c1, c2', c3, c4, c5⟩ := hW'.out.c
  have c6 := hW'.out.rk.c.1
  have c9 := hW'.out.rk.c.2.2.2.1
  obtain ⟨b4, h4, hc4, hge4⟩ := hW'.out.el2 ha'.out 0 rfl
  obtain ⟨b5, h5, hc5, hge5⟩ := hW'.out.el2 hb'.out 1 rfl
  have hm : ∃ lv, w1.heap[mb]? = some (mapObj .i64 (List.map vE lv)) := by obtain ⟨lv, hlv, _⟩ := hW'.out.rk.m; exact ⟨lv, hlv⟩
  have hnc : ∀ (q : Nat) (j : Nat) (v : Value), w1.cell? ⟨q, j, none⟩ = some v → q ≠ mb := fun q j v hv e => by
    obtain ⟨lv, hlv⟩ := hm
    subst e
    simp [World.cell?, hlv, mapObj] at hv
  have hRd := hW'.out.rk.go (Below.refl _ _).drew
  have hkne : kb ≠ w.heap.size := fun e => by
    have h1 := hW'.out.rk.k
    rw [e, hW'.out.b2] at h1
    injection h1 with h1
    injection h1 with h1
    have h2 := congrArg Array.size h1
    simp at h2
  have hkne1 : kb ≠ w.heap.size + 1 := fun e => by
    have h1 := hW'.out.rk.k
    rw [e, hW'.out.b3] at h1
    injection h1 with h1
    injection h1 with h1
    have h2 := congrArg Array.size h1
    simp at h2
  have hk4 : b4 ≠ kb := fun e => by
    have := hW'.out.rk.k
    obtain ⟨hk0, e0⟩ := hW'.out.el ha'.out
    obtain ⟨g, hA, hge, hlt, hc, hf, hob, _⟩ := hW'.out.own.spot (c := fun x => .int .i32 x) rfl (fun _ => rfl) hk0
    have h2 := h4 w1
    have h3 := Kd.run_index (P := Try.prog) 25 21 Try.underlying25 o g 0 1 hA (by kernel_rfl) 0 0 rfl hk0 w1
    rw [h2] at h3
    injection h3 with h3
    injection h3 with h3
    injection h3 with h3
    injection h3 with h3
    exact own_ne hW'.out.own hW'.out.rk.k (by decide) (by rw [hob, ← h3, e])
  have hk5 : b5 ≠ kb := fun e => by
    have := hW'.out.rk.k
    obtain ⟨hk0, e0⟩ := hW'.out.el hb'.out
    obtain ⟨g, hA, hge, hlt, hc, hf, hob, _⟩ := hW'.out.own.spot (c := fun x => .int .i32 x) rfl (fun _ => rfl) hk0
    have h2 := h5 w1
    have h3 := Kd.run_index (P := Try.prog) 25 21 Try.underlying25 o g 0 1 hA (by kernel_rfl) 1 1 rfl hk0 w1
    rw [h2] at h3
    injection h3 with h3
    injection h3 with h3
    injection h3 with h3
    injection h3 with h3
    exact own_ne hW'.out.own hW'.out.rk.k (by decide) (by rw [hob, ← h3, e])
  obtain ⟨W2, hW2⟩ : ∃ W2, W2 = endW kb 2 (-2) w1.drew := ⟨_, rfl⟩
  have hE : RK kb mb B lim W2 (s.end_ 2 (-2)) M C A := by rw [hW2]; exact hRd.end_ 2 (-2)
  have hCE : ChI kb mb B w1.drew W2 := by rw [hW2]; exact ((ChI.refl _).set 1 _).set 2 _
  have p1 : W2.cell? ⟨w.heap.size, 0, none⟩ = some (.pointer (some ⟨kb, 0, none⟩)) := by rw [hW2, endW_cell hkne.symm]; exact c1
  have p5 : W2.cell? ⟨w.heap.size + 1, 4, none⟩ = some (.int .i32 x.imm) := by rw [hW2, endW_cell hkne1.symm]; exact c5
  have p7 : W2.cell? ⟨b4, 0, none⟩ = some (.int .i32 a) := by rw [hW2, endW_cell hk4]; exact hc4
  have p8 : W2.cell? ⟨b5, 1, none⟩ = some (.int .i32 b) := by rw [hW2, endW_cell hk5]; exact hc5
  have p9 := hE.c.2.2.2.1
  have hSt := Lib.hid (fun (W : World) (hbW : Below w1.heap.size w1 W) => stF hW'.out.rk hbW (a + x.imm) b hok'.out)
  have hEn := Lib.hid (show Calls Try.prog 117 #[.int .i32 0, .bool false, .pointer (some ⟨w.heap.size, 0, none⟩)] w1.drew fun e w' => e = .returned (.int .i32 0) ∧ W2 = w' from by rw [hW2]; exact inMemX hRd w.heap.size c1 0)
  have hR' := Lib.hid hE
  have hC' := Lib.hid ((ChI.of hW'.out.below.drew).trans hCE)
  clear hm hnc hge4 hge5 c2 c2' c3 c4 c6 hok' hE hCE hRd hk4 hk5 hkne hkne1 hW2
  go_region_held3 (fun w' => w'.cell? ⟨w.heap.size, 0, none⟩ = some (.pointer (some ⟨kb, 0, none⟩)) ∧ w'.cell? ⟨kb, 3, none⟩ = some M.val ∧ w'.cell? ⟨w.heap.size + 1, 4, none⟩ = some (.int .i32 x.imm) ∧ w'.cell? ⟨b4, 0, none⟩ = some (.int .i32 a) ∧ w'.cell? ⟨b5, 1, none⟩ = some (.int .i32 b)) (first | go_keep | exact ⟨by assumption, by assumption, by assumption, by assumption, by assumption⟩) (first | (go_at_call 41; refine (hSt.out _ (by repeat (first | exact Below.refl _ _ | refine Below.drew ?_))).mono ?_; rintro e w9 ⟨rfl, rfl⟩) | (go_at_call 117; refine hEn.out.mono ?_; rintro e w9 ⟨rfl, rfl⟩))
  clear hSt hEn p1 p5 p7 p8 p9 c1 c5 hc4 hc5 c9
  go_wp2_with fail
  go_end0
  exact ⟨rfl, ⟨_, _, _, hR'.out⟩, hC'.out⟩
end
end Go.Proofs.Ytjlehpgfhlkjlaa
