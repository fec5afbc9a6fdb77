/-
  interp.run.ins: wide products.
-/
import Derived.Test.YtjlehpgfhlkjlaaInt5
import Derived.Test.YtjlehpgfhlkjlaaWord2
import Derived.Deep.RegionHeld3
set_option linter.all false
namespace Go.Proofs.Ytjlehpgfhlkjlaa
open Go.RowKit Jq Go.Deep
set_option linter.unusedVariables false
section
variable {kb mb B : Nat} {lim : Int} {w w1 w2 : World} {s : IS} {M : Sl Int} {C : Sl (Jq.Event Sl)} {A : Sl Int} {x : Jq.Ins Sl} {o : Sl Int}
set_option maxRecDepth 100000 in
set_option maxHeartbeats 2000000 in
/-- 'run.ins', of a wide product. -/
theorem inInsM (h : RK kb mb B lim w s M C A) (hB : B ≤ w.heap.size) (x : Jq.Ins Sl) (hx : kIns.rd w x) (h8 : x.args.l.length * 4 ≤ 140737488355320) (hop : x.op = 18) (s' : IS) (hs : insI x.p s = some s') :
    Calls Try.prog 79 #[.pointer (some ⟨kb, 0, none⟩), x.v] w (MR kb mb B lim w (.tuple #[]) s') := by
  have hc := Lib.hid (iw_of h hB x hx h8)
  have hop2 : x.p.op = 18 := hop
  unfold insI at hs
  rw [if_neg (by omega), if_neg (by omega), if_neg (by omega), if_neg (by omega)] at hs
  split at hs
  · rename_i a b ha hb
    rw [if_pos hop2] at hs
    injection hs with hs
    subst hs
    have d1 : (x.op == 1) = false := by simp [hop]
    have d15 : (x.op == 15) = false := by simp [hop]
    have d16 : (x.op == 16) = false := by simp [hop]
    have d17 : (x.op == 17) = false := by simp [hop]
    have d18 : (x.op == 18) = true := by simp [hop]
    have ha' := Lib.hid (show (s.words x.args.l)[0]? = some a from ha)
    have hb' := Lib.hid (show (s.words x.args.l)[1]? = some b from hb)
    have hmf : ∀ (fn : Fn) (first cap : Array Value) (w : World), (Instr.makeFunc fn first cap).run Try.prog w = .ok (.func fn first cap) w := fun _ _ _ _ => rfl
    clear h hx hop hop2 ha hb
    go_enter Try.func79, Try.ntmps79
    go_wp2_with fail
    refine hc.out.mono ?_
    rintro e w1 ⟨o, rfl, hW⟩
    have c2 := hW.c.2.1
    have hW' := Lib.hid hW
    clear hW
    go_wp2_with fail
    obtain ⟨c1, c2', c3, c4, c5⟩ := hW'.out.c
    have c6 := hW'.out.rk.c.1
    obtain ⟨hk0, e0⟩ := hW'.out.el ha'.out
    obtain ⟨hk1, e1⟩ := hW'.out.el hb'.out
    obtain ⟨b4, o4, h4, hb4, hc4⟩ := getW 25 21 Try.underlying25 (by kernel_rfl) hW'.out.own.rd 0 hk0 rfl
    obtain ⟨b5, o5, h5, hb5, hc5⟩ := getW 25 21 Try.underlying25 (by kernel_rfl) hW'.out.own.rd 1 hk1 rfl
    rw [Nat.add_zero, e0] at hc4
    rw [e1] at hc5
    have hm : ∃ lv, w1.heap[mb]? = some (mapObj .i64 (List.map vE lv)) := by obtain ⟨lv, hlv, _⟩ := hW'.out.rk.m; exact ⟨lv, hlv⟩
    have hnc : ∀ (q : Nat) (j : Nat) (v : Value), w1.cell? ⟨q, j, none⟩ = some v → q ≠ mb := fun q j v hv e => by
      obtain ⟨lv, hlv⟩ := hm
      subst e
      simp [World.cell?, hlv, mapObj] at hv
    obtain ⟨w2, hput, hR, hC, hM⟩ := (hW'.out.rk.go (Below.refl _ _).drew).putW x.dst (wlo a b)
    have hmv : ∀ (q : Nat) (j : Nat) (v : Value), w1.cell? ⟨q, j, none⟩ = some v → w2.cell? ⟨q, j, none⟩ = some v := fun q j v hv => by
      have hq := hM q (hnc q j v hv)
      rw [← hv]
      simp only [World.cell?]
      rw [hq]
      rfl
    have m1 := hmv _ _ _ c1
    have m3 := hmv _ _ _ c3
    have m4 := hmv _ _ _ c4
    have m6 := hmv _ _ _ c6
    have m7 := hmv _ _ _ hc4
    have m8 := hmv _ _ _ hc5
    obtain ⟨w3, hput2, hR2, hC2, hM2⟩ := hR.putW x.two (whi a b)
    have hmv2 : ∀ (q : Nat) (j : Nat) (v : Value), w1.cell? ⟨q, j, none⟩ = some v → w3.cell? ⟨q, j, none⟩ = some v := fun q j v hv => by
      have hq := hM2 q (hnc q j v hv)
      rw [← hmv q j v hv]
      simp only [World.cell?]
      rw [hq]
    have n1 := hmv2 _ _ _ c1
    have n3 := hmv2 _ _ _ c3
    have n4 := hmv2 _ _ _ c4
    have n6 := hmv2 _ _ _ c6
    have n7 := hmv2 _ _ _ hc4
    have n8 := hmv2 _ _ _ hc5
    have hR2' := Lib.hid hR2
    have hC2' := Lib.hid ((ChI.of hW'.out.below.drew).trans (hC.trans hC2))
    clear hR hC hM hm hnc hmv hmv2 hM2 hR2 hC2 hk0 e0 hk1 e1 c2 c2' c5
    go_region_held3 (fun w' => w'.cell? ⟨w.heap.size, 0, none⟩ = some (.pointer (some ⟨kb, 0, none⟩)) ∧ w'.cell? ⟨kb, 0, none⟩ = some (.map (some mb)) ∧ w'.cell? ⟨w.heap.size + 1, 1, none⟩ = some (.int .i64 x.dst) ∧ w'.cell? ⟨w.heap.size + 1, 2, none⟩ = some (.int .i64 x.two) ∧ w'.cell? ⟨b4, o4, none⟩ = some (.int .i32 a) ∧ w'.cell? ⟨b5, o5 + 1, none⟩ = some (.int .i32 b)) (first | go_keep | exact ⟨by assumption, by assumption, by assumption, by assumption, by assumption, by assumption⟩) (first | (go_at_call 29; refine (wordWide a b _).mono ?_; rintro e w9 ⟨rfl, rfl⟩))
    clear hput hput2 m1 m3 m4 m6 m7 m8 n1 n3 n4 n6 n7 n8 c1 c3 c4 c6 hc4 hc5
    go_wp2_with fail
    go_end0
    exact ⟨rfl, ⟨_, _, _, hR2'.out⟩, hC2'.out⟩
  · exact absurd hs (by simp)
end
end Go.Proofs.Ytjlehpgfhlkjlaa
