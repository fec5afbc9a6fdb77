/-
  mach.ins, joined; mach.phi, mach.end.
-/
import Derived.Test.YtjlehpgfhlkjlaaIns
import Derived.Laws.EntriesVeiled
set_option linter.all false
namespace Go.Proofs.Ytjlehpgfhlkjlaa
open Go.RowKit Jq

theorem ret_i {a b : Int} {P : Ending → World → Prop} {f : FuncId} {xs : Array Value} {w : World} (h : a = b) (hc : Calls Try.prog f xs w fun e w' => e = .returned (.int .i64 a) ∧ Below w.heap.size w w') :
    Calls Try.prog f xs w fun e w' => e = .returned (.int .i64 b) ∧ Below w.heap.size w w' := by subst h; exact hc
theorem immOk29 (imm : Int) : immOk 29 imm = true := by
  unfold immOk
  rw [if_neg (by omega), if_neg (by omega), if_neg (by omega), if_neg (by omega)]
theorem insErr_eq (m : Mach Sl) : insErr m.p = if m.op < 1 ∨ 29 < m.op ∨ m.op = 2 ∨ m.op = 28 ∧ 4 < m.args.l.length then 30 else if (makes m.p).any badReg ∨ (takes m.p).any badReg then 31 else if m.op = 29 ∧ m.d = m.e then 12 else if immOk m.op m.imm then 0 else 32 := rfl
theorem machIns (m : Mach Sl) (w : World) (hm : kMach.rd w m) (hn : m.args.l.length * 8 ≤ 140737488355328) :
    Calls Try.prog 73 #[m.v] w fun e w' => e = .returned (.int .i64 (insErr m.p)) ∧ Below w.heap.size w w' := by
  rw [insErr_eq]
  by_cases h : m.op < 1 ∨ 29 < m.op ∨ m.op = 2 ∨ (m.op = 28 ∧ 4 < m.args.l.length)
  · rw [if_pos h]; exact ins_head m w hm hn h
  rw [if_neg h]
  have e0 : ¬ m.op < 1 := by omega
  have e1 : ¬ 29 < m.op := by omega
  have e2 : (m.op == 2) = false := by simp; omega
  have e4 : m.op = 28 → ¬ (4 : Int) < (m.args.l.length : Int) := by omega
  by_cases h28 : m.op = 28
  · have e3 : (m.op == 28) = true := by simpa using h28
    have e5 : (m.op == 29) = false := by simp; omega
    cases hmk : (makes m.p).any badReg with
    | true => rw [if_pos (Or.inl rfl)]; exact ins_makes28 m w hm hn e0 e1 e2 e3 (e4 h28) hmk
    | false =>
      cases htk : (takes m.p).any badReg with
      | true => rw [if_pos (Or.inr rfl)]; exact ins_takes28 m w hm hn e0 e1 e2 e3 (e4 h28) hmk htk
      | false =>
        rw [if_neg (by simp), if_neg (by omega)]
        cases him : immOk m.op m.imm with
        | true => rw [if_pos rfl]; exact ins_imm28_0 m w hm hn e0 e1 e2 e3 (e4 h28) e5 hmk htk him
        | false => rw [if_neg (by simp)]; exact ins_imm28_32 m w hm hn e0 e1 e2 e3 (e4 h28) e5 hmk htk him
  · have e3 : (m.op == 28) = false := by simpa using h28
    cases hmk : (makes m.p).any badReg with
    | true => rw [if_pos (Or.inl rfl)]; exact ins_makes m w hm hn e0 e1 e2 e3 hmk
    | false =>
      cases htk : (takes m.p).any badReg with
      | true => rw [if_pos (Or.inr rfl)]; exact ins_takes m w hm hn e0 e1 e2 e3 hmk htk
      | false =>
        rw [if_neg (by simp)]
        by_cases h29 : m.op = 29
        · have e5 : (m.op == 29) = true := by simpa using h29
          have him : immOk m.op m.imm = true := by rw [h29]; exact immOk29 _
          by_cases hde : m.d = m.e
          · have e6 : (m.d == m.e) = true := by simpa using hde
            rw [if_pos ⟨h29, hde⟩]; exact ins_twice m w hm hn e0 e1 e2 e3 e5 e6 hmk htk
          · have e6 : (m.d == m.e) = false := by simpa using hde
            rw [if_neg (by simp [hde]), if_pos him]; exact ins_once m w hm hn e0 e1 e2 e3 e5 e6 hmk htk him
        · have e5 : (m.op == 29) = false := by simpa using h29
          rw [if_neg (by simp [h29])]
          cases him : immOk m.op m.imm with
          | true => rw [if_pos rfl]; exact ins_imm_0 m w hm hn e0 e1 e2 e3 e5 hmk htk him
          | false => rw [if_neg (by simp)]; exact ins_imm_32 m w hm hn e0 e1 e2 e3 e5 hmk htk him

/-! ### mach.phi -/
set_option maxRecDepth 100000 in
set_option maxHeartbeats 400000 in
theorem phi1 (x : In) (w : World) : Calls Try.prog 102 #[.agg #[.int .i64 x.from_, .int .i64 x.val]] w fun e w' => e = .returned (.bool (badReg x.val)) ∧ Below w.heap.size w w' := by
  go_enter Try.func102, Try.ntmps102
  go_wp2_with fail
  refine (machRegs ⟨some ⟨w.heap.size + 1, 0, none⟩, 1, [x.val]⟩ _ (own_lit (.int .i64) 3 0 (w.alloc _) [x.val] (by simp) (by simp) |>.rd |> fun h => by simpa [kI] using h)).mono ?_
  rintro e w1 ⟨rfl, hb⟩
  have hb' := Lib.hid hb
  clear hb
  go_wp2
  go_ret
  exact ret_bool (by simp) (bthen (bal (bal (Below.refl _ _) _) _) hb'.out)
theorem phi1_go : ∀ (xs : Array Value) (W : World), (callFunc 102 xs).run Try.prog W = .ok (.enter 102 xs) W := fun xs W => run_callFunc_go Try.func102 (by kernel_rfl) rfl xs W
theorem phi2_go : ∀ (xs : Array Value) (W : World), (callFunc 104 xs).run Try.prog W = .ok (.enter 104 xs) W := fun xs W => run_callFunc_go Try.func104 (by kernel_rfl) rfl xs W
set_option maxRecDepth 100000 in
set_option maxHeartbeats 400000 in
theorem phi2 (x : Phi Sl) (b : Nat) (d : Int) (w : World) (hc : w.cell? ⟨b, 0, none⟩ = some (.int .i64 d)) : Calls Try.prog 104 #[x.v, .pointer (some ⟨b, 0, none⟩)] w fun e w' => e = .returned (.bool (x.dst == d)) ∧ Below w.heap.size w w' := by
  have hlt : b < w.heap.size := World.block_lt_of_cell? w _ hc
  go_enter Try.func104, Try.ntmps104
  go_wp2
  go_ret
  exact ret_bool rfl (bal (Below.refl _ _) _)

set_option maxRecDepth 100000 in
set_option maxHeartbeats 1000000 in
theorem phi_dst (x : Phi Sl) (s : Sl (Phi Sl)) (w : World) (hx : kPhi.rd w x) (hs : kPhi.sl.rd w s) (hd : badReg x.dst = true) :
    Calls Try.prog 72 #[x.v, s.val] w fun e w' => e = .returned (.int .i64 31) ∧ Below w.heap.size w w' := by
  have hx' := Lib.hid hx
  have hs' := Lib.hid hs
  have hd' := Lib.hid hd
  clear hd
  clear hx hs
  go_enter Try.func72, Try.ntmps72
  go_wp2_with fail
  refine (machRegs ⟨some ⟨w.heap.size + 1, 0, none⟩, 1, [x.dst]⟩ _ (own_lit (.int .i64) 3 0 (w.alloc _) [x.dst] (by simp) (by simp) |>.rd |> fun h => by simpa [kI] using h)).mono ?_
  rintro e w1 ⟨rfl, hb1⟩
  rw [show [x.dst].any badReg = true by simpa using hd'.out]
  have hc1 : ∀ b o, b < w.heap.size + 1 → w1.cell? ⟨b, o, none⟩ = (w.alloc (.cells #[.int .i64 x.dst, x.ins.val] 93)).cell? ⟨b, o, none⟩ := fun b o h => (bcell hb1 b o (by simp; omega)).trans (World.cell?_of_block (Below.heap_alloc _ _ _ (by simp; omega)))
  have hsz1' := Lib.hid (show w.heap.size + 1 ≤ w1.heap.size by have := hb1.size; simp at this; omega)
  have hb1' := Lib.hid (bthen (bal (bal (Below.refl _ w) _) _) hb1)
  clear hb1
  go_wp2
  go_ret
  exact ⟨rfl, hb1'.out⟩

set_option maxRecDepth 100000 in
set_option maxHeartbeats 1000000 in
theorem phi_in (x : Phi Sl) (s : Sl (Phi Sl)) (w : World) (hx : kPhi.rd w x) (hs : kPhi.sl.rd w s) (hd : badReg x.dst = false) (hi : (x.ins.l.any fun y => badReg y.val) = true) :
    Calls Try.prog 72 #[x.v, s.val] w fun e w' => e = .returned (.int .i64 31) ∧ Below w.heap.size w w' := by
  have hx' := Lib.hid hx
  have hs' := Lib.hid hs
  have hd' := Lib.hid hd
  clear hd
  have hi' := Lib.hid hi
  clear hi
  clear hx hs
  go_enter Try.func72, Try.ntmps72
  go_wp2_with fail
  refine (machRegs ⟨some ⟨w.heap.size + 1, 0, none⟩, 1, [x.dst]⟩ _ (own_lit (.int .i64) 3 0 (w.alloc _) [x.dst] (by simp) (by simp) |>.rd |> fun h => by simpa [kI] using h)).mono ?_
  rintro e w1 ⟨rfl, hb1⟩
  rw [show [x.dst].any badReg = false by simpa using hd'.out]
  have hc1 : ∀ b o, b < w.heap.size + 1 → w1.cell? ⟨b, o, none⟩ = (w.alloc (.cells #[.int .i64 x.dst, x.ins.val] 93)).cell? ⟨b, o, none⟩ := fun b o h => (bcell hb1 b o (by simp; omega)).trans (World.cell?_of_block (Below.heap_alloc _ _ _ (by simp; omega)))
  have hsz1' := Lib.hid (show w.heap.size + 1 ≤ w1.heap.size by have := hb1.size; simp at this; omega)
  have hb1' := Lib.hid (bthen (bal (bal (Below.refl _ w) _) _) hb1)
  clear hb1
  go_wp2_with fail
  refine (containsFuncIn x.ins 102 #[] (fun y => badReg y.val) _ (kIn.sl.below hx'.out hb1'.out) ⟨phi1_go, fun y _ W _ => phi1 y W⟩).mono ?_
  rintro e w2 ⟨rfl, hb2⟩
  rw [hi'.out]
  have hc2 : ∀ b o, b < w.heap.size + 1 → w2.cell? ⟨b, o, none⟩ = w1.cell? ⟨b, o, none⟩ := fun b o h => bcell hb2 b o (by have := hsz1'.out; omega)
  have hsz2' := Lib.hid (show w.heap.size + 1 ≤ w2.heap.size by have := hb2.size; have := hsz1'.out; omega)
  have hb2' := Lib.hid (bthen hb1'.out hb2)
  clear hb2
  go_wp2
  go_ret
  exact ⟨rfl, hb2'.out⟩

set_option maxRecDepth 100000 in
set_option maxHeartbeats 1000000 in
theorem phi_12 (x : Phi Sl) (s : Sl (Phi Sl)) (w : World) (hx : kPhi.rd w x) (hs : kPhi.sl.rd w s) (hd : badReg x.dst = false) (hi : (x.ins.l.any fun y => badReg y.val) = false) (ha : (s.l.any fun y => y.dst == x.dst) = true) :
    Calls Try.prog 72 #[x.v, s.val] w fun e w' => e = .returned (.int .i64 12) ∧ Below w.heap.size w w' := by
  have hx' := Lib.hid hx
  have hs' := Lib.hid hs
  have hd' := Lib.hid hd
  clear hd
  have hi' := Lib.hid hi
  clear hi
  have ha' := Lib.hid ha
  clear ha
  clear hx hs
  go_enter Try.func72, Try.ntmps72
  go_wp2_with fail
  refine (machRegs ⟨some ⟨w.heap.size + 1, 0, none⟩, 1, [x.dst]⟩ _ (own_lit (.int .i64) 3 0 (w.alloc _) [x.dst] (by simp) (by simp) |>.rd |> fun h => by simpa [kI] using h)).mono ?_
  rintro e w1 ⟨rfl, hb1⟩
  rw [show [x.dst].any badReg = false by simpa using hd'.out]
  have hc1 : ∀ b o, b < w.heap.size + 1 → w1.cell? ⟨b, o, none⟩ = (w.alloc (.cells #[.int .i64 x.dst, x.ins.val] 93)).cell? ⟨b, o, none⟩ := fun b o h => (bcell hb1 b o (by simp; omega)).trans (World.cell?_of_block (Below.heap_alloc _ _ _ (by simp; omega)))
  have hsz1' := Lib.hid (show w.heap.size + 1 ≤ w1.heap.size by have := hb1.size; simp at this; omega)
  have hb1' := Lib.hid (bthen (bal (bal (Below.refl _ w) _) _) hb1)
  clear hb1
  go_wp2_with fail
  refine (containsFuncIn x.ins 102 #[] (fun y => badReg y.val) _ (kIn.sl.below hx'.out hb1'.out) ⟨phi1_go, fun y _ W _ => phi1 y W⟩).mono ?_
  rintro e w2 ⟨rfl, hb2⟩
  rw [hi'.out]
  have hc2 : ∀ b o, b < w.heap.size + 1 → w2.cell? ⟨b, o, none⟩ = w1.cell? ⟨b, o, none⟩ := fun b o h => bcell hb2 b o (by have := hsz1'.out; omega)
  have hsz2' := Lib.hid (show w.heap.size + 1 ≤ w2.heap.size by have := hb2.size; have := hsz1'.out; omega)
  have hb2' := Lib.hid (bthen hb1'.out hb2)
  clear hb2
  go_wp2_with fail
  refine (containsFuncPhi s 104 #[.pointer (some ⟨w.heap.size, 0, none⟩)] (fun y => y.dst == x.dst) _ (kPhi.sl.below hs'.out hb2'.out) ⟨phi2_go, fun y _ W hW => phi2 y w.heap.size x.dst W ((bcell hW _ _ (by have := hsz2'.out; omega)).trans ((hc2 _ _ (by omega)).trans ((hc1 _ _ (by omega)).trans (by simp))))⟩).mono ?_
  rintro e w3 ⟨rfl, hb3⟩
  rw [ha'.out]
  have hb3' := Lib.hid (bthen hb2'.out hb3)
  clear hb3
  go_wp2
  go_ret
  exact ⟨rfl, hb3'.out⟩

set_option maxRecDepth 100000 in
set_option maxHeartbeats 1000000 in
theorem phi_0 (x : Phi Sl) (s : Sl (Phi Sl)) (w : World) (hx : kPhi.rd w x) (hs : kPhi.sl.rd w s) (hd : badReg x.dst = false) (hi : (x.ins.l.any fun y => badReg y.val) = false) (ha : (s.l.any fun y => y.dst == x.dst) = false) :
    Calls Try.prog 72 #[x.v, s.val] w fun e w' => e = .returned (.int .i64 0) ∧ Below w.heap.size w w' := by
  have hx' := Lib.hid hx
  have hs' := Lib.hid hs
  have hd' := Lib.hid hd
  clear hd
  have hi' := Lib.hid hi
  clear hi
  have ha' := Lib.hid ha
  clear ha
  clear hx hs
  go_enter Try.func72, Try.ntmps72
  go_wp2_with fail
  refine (machRegs ⟨some ⟨w.heap.size + 1, 0, none⟩, 1, [x.dst]⟩ _ (own_lit (.int .i64) 3 0 (w.alloc _) [x.dst] (by simp) (by simp) |>.rd |> fun h => by simpa [kI] using h)).mono ?_
  rintro e w1 ⟨rfl, hb1⟩
  rw [show [x.dst].any badReg = false by simpa using hd'.out]
  have hc1 : ∀ b o, b < w.heap.size + 1 → w1.cell? ⟨b, o, none⟩ = (w.alloc (.cells #[.int .i64 x.dst, x.ins.val] 93)).cell? ⟨b, o, none⟩ := fun b o h => (bcell hb1 b o (by simp; omega)).trans (World.cell?_of_block (Below.heap_alloc _ _ _ (by simp; omega)))
  have hsz1' := Lib.hid (show w.heap.size + 1 ≤ w1.heap.size by have := hb1.size; simp at this; omega)
  have hb1' := Lib.hid (bthen (bal (bal (Below.refl _ w) _) _) hb1)
  clear hb1
  go_wp2_with fail
  refine (containsFuncIn x.ins 102 #[] (fun y => badReg y.val) _ (kIn.sl.below hx'.out hb1'.out) ⟨phi1_go, fun y _ W _ => phi1 y W⟩).mono ?_
  rintro e w2 ⟨rfl, hb2⟩
  rw [hi'.out]
  have hc2 : ∀ b o, b < w.heap.size + 1 → w2.cell? ⟨b, o, none⟩ = w1.cell? ⟨b, o, none⟩ := fun b o h => bcell hb2 b o (by have := hsz1'.out; omega)
  have hsz2' := Lib.hid (show w.heap.size + 1 ≤ w2.heap.size by have := hb2.size; have := hsz1'.out; omega)
  have hb2' := Lib.hid (bthen hb1'.out hb2)
  clear hb2
  go_wp2_with fail
  refine (containsFuncPhi s 104 #[.pointer (some ⟨w.heap.size, 0, none⟩)] (fun y => y.dst == x.dst) _ (kPhi.sl.below hs'.out hb2'.out) ⟨phi2_go, fun y _ W hW => phi2 y w.heap.size x.dst W ((bcell hW _ _ (by have := hsz2'.out; omega)).trans ((hc2 _ _ (by omega)).trans ((hc1 _ _ (by omega)).trans (by simp))))⟩).mono ?_
  rintro e w3 ⟨rfl, hb3⟩
  rw [ha'.out]
  have hb3' := Lib.hid (bthen hb2'.out hb3)
  clear hb3
  go_wp2
  go_ret
  exact ⟨rfl, hb3'.out⟩

theorem any_map {α β : Type} (f : α → β) (p : β → Bool) (l : List α) : (l.map f).any p = l.any fun x => p (f x) := by rw [List.any_map]; rfl
theorem machPhi (x : Phi Sl) (s : Sl (Phi Sl)) (w : World) (hx : kPhi.rd w x) (hs : kPhi.sl.rd w s) :
    Calls Try.prog 72 #[x.v, s.val] w fun e w' => e = .returned (.int .i64 (phiErr x.p (s.l.map Phi.p))) ∧ Below w.heap.size w w' := by
  have e : phiErr x.p (s.l.map Phi.p) = if badReg x.dst ∨ x.ins.l.any (fun y => badReg y.val) then 31 else if (s.l.any fun y => y.dst == x.dst) then 12 else 0 := by
    unfold phiErr
    rw [any_map]
    rfl
  rw [e]
  cases hd : badReg x.dst with
  | true => rw [if_pos (Or.inl rfl)]; exact phi_dst x s w hx hs hd
  | false =>
    cases hi : x.ins.l.any (fun y => badReg y.val) with
    | true => rw [if_pos (Or.inr rfl)]; exact phi_in x s w hx hs hd hi
    | false =>
      rw [if_neg (by simp)]
      cases ha : (s.l.any fun y => y.dst == x.dst) with
      | true => rw [if_pos rfl]; exact phi_12 x s w hx hs hd hi ha
      | false => rw [if_neg (by simp)]; exact phi_0 x s w hx hs hd hi ha
end Go.Proofs.Ytjlehpgfhlkjlaa
