/-
  The walk of the law MachLimits: printed by limits.py.
-/
import Derived.Test.YtjlehpgfhlkjlaaL7
import Derived.Test.YtjlehpgfhlkjlaaPLimits
set_option linter.all false
namespace Go.Proofs.Ytjlehpgfhlkjlaa
open Go.RowKit Jq Go.Deep
set_option linter.unusedVariables false
set_option maxRecDepth 1000000 in
set_option maxHeartbeats 800000 in
theorem limits0 (w : World) (a b d : Int) (a1 : 0 ≤ a) (a2 : a ≤ 255) (b1 : 0 ≤ b) (b2 : b ≤ 255) (h1 : -2 ≤ d) (h2 : d ≤ 2) (ha : a % 9 = 0) (hb : b % 5 - 2 = d) :
    Calls Try.prog 7 #[.int .u8 a, .int .u8 b] w fun e w' => e = .returned (.bool true) ∧ Below w.heap.size w w' := by
  have hlim := Lib.hid (lim0 d h1 h2)
  by_cases hd : d ≤ 0
  all_goals first
    | have dd : decide (d ≤ 0) = true := by simpa using hd
    | have dd : decide (d ≤ 0) = false := by simp; omega
  all_goals
    have hd' := Lib.hid hd
    clear hd
    go_enter Try.func7, Try.ntmps7
    go_wp2_with fail
    refine (l7shown _).mono ?_
    rintro e w1 ⟨rfl, hb1⟩
    have hB1 := Lib.hid hb1
    clear hb1
    go_wp2_with fail
    refine (l7one 0 ⟨7, -1, 0, nilSl, 0⟩ ⟨some ⟨w1.heap.size + 1 + 1, 0, none⟩, 1, [⟨3, 0, 0, 0, 0, 0, 32767 + d, nilSl⟩]⟩ _ (Kd.nil_rd _ _) (lit_one_at kMach _ ⟨3, 0, 0, 0, 0, 0, 32767 + d, nilSl⟩ 40 _ (by simp) (Kd.nil_rd _ _))).mono ?_
    rintro e w2 ⟨m, rfl, hmp, hmr, hmem, hb2⟩
    have hB2 := Lib.hid (bthen hB1.out (bthen (by repeat (first | exact Below.refl _ _ | refine bal ?_ _)) hb2))
    have hmp' := Lib.hid hmp
    have hmr' := Lib.hid hmr
    have hmem' := Lib.hid hmem
    clear hmp hmr hmem hb2
    go_wp2_with fail
    refine (machFunc m _ (kMFunc.below hmr'.out (bal (Below.refl _ _) _)) (fun b hb y hy => by rw [List.mem_singleton.1 (hmem'.out b hb y hy)]; exact Nat.zero_le _)).mono ?_
    have he := lim_one (Mach.p ⟨3, 0, 0, 0, 0, 0, 32767 + d, nilSl⟩)
    have hm1 : m.p = ⟨0, [⟨[], [Mach.p ⟨3, 0, 0, 0, 0, 0, 32767 + d, nilSl⟩], ⟨7, -1, 0, [], 0⟩⟩]⟩ := hmp'.out
    rw [← hm1] at he
    obtain ⟨he1, he2⟩ := he
    have he3 : insErr (Mach.p ⟨3, 0, 0, 0, 0, 0, 32767 + d, nilSl⟩) = if d ≤ 0 then 0 else 32 := hlim.out
    rw [he3] at he1
    first
      | rw [if_pos hd'.out] at he1
      | rw [if_neg (by have := hd'.out; omega)] at he1
    rintro e w3 ⟨rfl, hb3⟩
    obtain ⟨f3, hf3⟩ : ∃ f, (funcErr m.p).2.2 = f := ⟨_, rfl⟩
    rw [he1, he2, hf3]
    clear hm1 he3 he1 he2 hf3
    have hB3 := Lib.hid (bthen (bal hB2.out _) hb3)
    clear hb3 hB2 hB1 hmp' hmr' hmem' hlim hd'
    go_wp2_with fail
    go_ret
    exact ⟨rfl, hB3.out⟩
set_option maxRecDepth 1000000 in
set_option maxHeartbeats 800000 in
theorem limits1 (w : World) (a b d : Int) (a1 : 0 ≤ a) (a2 : a ≤ 255) (b1 : 0 ≤ b) (b2 : b ≤ 255) (h1 : -2 ≤ d) (h2 : d ≤ 2) (ha : a % 9 = 1) (hb : b % 5 - 2 = d) :
    Calls Try.prog 7 #[.int .u8 a, .int .u8 b] w fun e w' => e = .returned (.bool true) ∧ Below w.heap.size w w' := by
  have hlim := Lib.hid (lim1 d h1 h2)
  by_cases hd : d ≤ 0
  all_goals first
    | have dd : decide (d ≤ 0) = true := by simpa using hd
    | have dd : decide (d ≤ 0) = false := by simp; omega
  all_goals
    have hd' := Lib.hid hd
    clear hd
    go_enter Try.func7, Try.ntmps7
    go_wp2_with fail
    refine (l7shown _).mono ?_
    rintro e w1 ⟨rfl, hb1⟩
    have hB1 := Lib.hid hb1
    clear hb1
    go_wp2_with fail
    refine (l7one 0 ⟨7, -1, 0, nilSl, 0⟩ ⟨some ⟨w1.heap.size + 1 + 1, 0, none⟩, 1, [⟨3, 0, 0, 0, 0, 0, -32768 - d, nilSl⟩]⟩ _ (Kd.nil_rd _ _) (lit_one_at kMach _ ⟨3, 0, 0, 0, 0, 0, -32768 - d, nilSl⟩ 40 _ (by simp) (Kd.nil_rd _ _))).mono ?_
    rintro e w2 ⟨m, rfl, hmp, hmr, hmem, hb2⟩
    have hB2 := Lib.hid (bthen hB1.out (bthen (by repeat (first | exact Below.refl _ _ | refine bal ?_ _)) hb2))
    have hmp' := Lib.hid hmp
    have hmr' := Lib.hid hmr
    have hmem' := Lib.hid hmem
    clear hmp hmr hmem hb2
    go_wp2_with fail
    refine (machFunc m _ (kMFunc.below hmr'.out (bal (Below.refl _ _) _)) (fun b hb y hy => by rw [List.mem_singleton.1 (hmem'.out b hb y hy)]; exact Nat.zero_le _)).mono ?_
    have he := lim_one (Mach.p ⟨3, 0, 0, 0, 0, 0, -32768 - d, nilSl⟩)
    have hm1 : m.p = ⟨0, [⟨[], [Mach.p ⟨3, 0, 0, 0, 0, 0, -32768 - d, nilSl⟩], ⟨7, -1, 0, [], 0⟩⟩]⟩ := hmp'.out
    rw [← hm1] at he
    obtain ⟨he1, he2⟩ := he
    have he3 : insErr (Mach.p ⟨3, 0, 0, 0, 0, 0, -32768 - d, nilSl⟩) = if d ≤ 0 then 0 else 32 := hlim.out
    rw [he3] at he1
    first
      | rw [if_pos hd'.out] at he1
      | rw [if_neg (by have := hd'.out; omega)] at he1
    rintro e w3 ⟨rfl, hb3⟩
    obtain ⟨f3, hf3⟩ : ∃ f, (funcErr m.p).2.2 = f := ⟨_, rfl⟩
    rw [he1, he2, hf3]
    clear hm1 he3 he1 he2 hf3
    have hB3 := Lib.hid (bthen (bal hB2.out _) hb3)
    clear hb3 hB2 hB1 hmp' hmr' hmem' hlim hd'
    go_wp2_with fail
    go_ret
    exact ⟨rfl, hB3.out⟩
set_option maxRecDepth 1000000 in
set_option maxHeartbeats 800000 in
theorem limits2 (w : World) (a b d : Int) (a1 : 0 ≤ a) (a2 : a ≤ 255) (b1 : 0 ≤ b) (b2 : b ≤ 255) (h1 : -2 ≤ d) (h2 : d ≤ 2) (ha : a % 9 = 2) (hb : b % 5 - 2 = d) :
    Calls Try.prog 7 #[.int .u8 a, .int .u8 b] w fun e w' => e = .returned (.bool true) ∧ Below w.heap.size w w' := by
  have hlim := Lib.hid (lim2 d h1 h2)
  by_cases hd : d ≤ 0
  all_goals first
    | have dd : decide (d ≤ 0) = true := by simpa using hd
    | have dd : decide (d ≤ 0) = false := by simp; omega
  all_goals
    have hd' := Lib.hid hd
    clear hd
    go_enter Try.func7, Try.ntmps7
    go_wp2_with fail
    refine (l7shown _).mono ?_
    rintro e w1 ⟨rfl, hb1⟩
    have hB1 := Lib.hid hb1
    clear hb1
    go_wp2_with fail
    refine (l7one 0 ⟨7, -1, 0, nilSl, 0⟩ ⟨some ⟨w1.heap.size + 1 + 1, 0, none⟩, 1, [⟨19, 0, 0, 0, 0, 0, -128 - d, nilSl⟩]⟩ _ (Kd.nil_rd _ _) (lit_one_at kMach _ ⟨19, 0, 0, 0, 0, 0, -128 - d, nilSl⟩ 40 _ (by simp) (Kd.nil_rd _ _))).mono ?_
    rintro e w2 ⟨m, rfl, hmp, hmr, hmem, hb2⟩
    have hB2 := Lib.hid (bthen hB1.out (bthen (by repeat (first | exact Below.refl _ _ | refine bal ?_ _)) hb2))
    have hmp' := Lib.hid hmp
    have hmr' := Lib.hid hmr
    have hmem' := Lib.hid hmem
    clear hmp hmr hmem hb2
    go_wp2_with fail
    refine (machFunc m _ (kMFunc.below hmr'.out (bal (Below.refl _ _) _)) (fun b hb y hy => by rw [List.mem_singleton.1 (hmem'.out b hb y hy)]; exact Nat.zero_le _)).mono ?_
    have he := lim_one (Mach.p ⟨19, 0, 0, 0, 0, 0, -128 - d, nilSl⟩)
    have hm1 : m.p = ⟨0, [⟨[], [Mach.p ⟨19, 0, 0, 0, 0, 0, -128 - d, nilSl⟩], ⟨7, -1, 0, [], 0⟩⟩]⟩ := hmp'.out
    rw [← hm1] at he
    obtain ⟨he1, he2⟩ := he
    have he3 : insErr (Mach.p ⟨19, 0, 0, 0, 0, 0, -128 - d, nilSl⟩) = if d ≤ 0 then 0 else 32 := hlim.out
    rw [he3] at he1
    first
      | rw [if_pos hd'.out] at he1
      | rw [if_neg (by have := hd'.out; omega)] at he1
    rintro e w3 ⟨rfl, hb3⟩
    obtain ⟨f3, hf3⟩ : ∃ f, (funcErr m.p).2.2 = f := ⟨_, rfl⟩
    rw [he1, he2, hf3]
    clear hm1 he3 he1 he2 hf3
    have hB3 := Lib.hid (bthen (bal hB2.out _) hb3)
    clear hb3 hB2 hB1 hmp' hmr' hmem' hlim hd'
    go_wp2_with fail
    go_ret
    exact ⟨rfl, hB3.out⟩
set_option maxRecDepth 1000000 in
set_option maxHeartbeats 800000 in
theorem limits3 (w : World) (a b d : Int) (a1 : 0 ≤ a) (a2 : a ≤ 255) (b1 : 0 ≤ b) (b2 : b ≤ 255) (h1 : -2 ≤ d) (h2 : d ≤ 2) (ha : a % 9 = 3) (hb : b % 5 - 2 = d) :
    Calls Try.prog 7 #[.int .u8 a, .int .u8 b] w fun e w' => e = .returned (.bool true) ∧ Below w.heap.size w w' := by
  have hlim := Lib.hid (lim3 d h1 h2)
  by_cases hd : d ≤ 0
  all_goals first
    | have dd : decide (d ≤ 0) = true := by simpa using hd
    | have dd : decide (d ≤ 0) = false := by simp; omega
  all_goals
    have hd' := Lib.hid hd
    clear hd
    go_enter Try.func7, Try.ntmps7
    go_wp2_with fail
    refine (l7shown _).mono ?_
    rintro e w1 ⟨rfl, hb1⟩
    have hB1 := Lib.hid hb1
    clear hb1
    go_wp2_with fail
    refine (l7one 0 ⟨7, -1, 0, nilSl, 0⟩ ⟨some ⟨w1.heap.size + 1 + 1, 0, none⟩, 1, [⟨22, 0, 0, 0, 0, 0, 31 + d, nilSl⟩]⟩ _ (Kd.nil_rd _ _) (lit_one_at kMach _ ⟨22, 0, 0, 0, 0, 0, 31 + d, nilSl⟩ 40 _ (by simp) (Kd.nil_rd _ _))).mono ?_
    rintro e w2 ⟨m, rfl, hmp, hmr, hmem, hb2⟩
    have hB2 := Lib.hid (bthen hB1.out (bthen (by repeat (first | exact Below.refl _ _ | refine bal ?_ _)) hb2))
    have hmp' := Lib.hid hmp
    have hmr' := Lib.hid hmr
    have hmem' := Lib.hid hmem
    clear hmp hmr hmem hb2
    go_wp2_with fail
    refine (machFunc m _ (kMFunc.below hmr'.out (bal (Below.refl _ _) _)) (fun b hb y hy => by rw [List.mem_singleton.1 (hmem'.out b hb y hy)]; exact Nat.zero_le _)).mono ?_
    have he := lim_one (Mach.p ⟨22, 0, 0, 0, 0, 0, 31 + d, nilSl⟩)
    have hm1 : m.p = ⟨0, [⟨[], [Mach.p ⟨22, 0, 0, 0, 0, 0, 31 + d, nilSl⟩], ⟨7, -1, 0, [], 0⟩⟩]⟩ := hmp'.out
    rw [← hm1] at he
    obtain ⟨he1, he2⟩ := he
    have he3 : insErr (Mach.p ⟨22, 0, 0, 0, 0, 0, 31 + d, nilSl⟩) = if d ≤ 0 then 0 else 32 := hlim.out
    rw [he3] at he1
    first
      | rw [if_pos hd'.out] at he1
      | rw [if_neg (by have := hd'.out; omega)] at he1
    rintro e w3 ⟨rfl, hb3⟩
    obtain ⟨f3, hf3⟩ : ∃ f, (funcErr m.p).2.2 = f := ⟨_, rfl⟩
    rw [he1, he2, hf3]
    clear hm1 he3 he1 he2 hf3
    have hB3 := Lib.hid (bthen (bal hB2.out _) hb3)
    clear hb3 hB2 hB1 hmp' hmr' hmem' hlim hd'
    go_wp2_with fail
    go_ret
    exact ⟨rfl, hB3.out⟩
set_option maxRecDepth 1000000 in
set_option maxHeartbeats 800000 in
theorem limits4 (w : World) (a b d : Int) (a1 : 0 ≤ a) (a2 : a ≤ 255) (b1 : 0 ≤ b) (b2 : b ≤ 255) (h1 : -2 ≤ d) (h2 : d ≤ 2) (ha : a % 9 = 4) (hb : b % 5 - 2 = d) :
    Calls Try.prog 7 #[.int .u8 a, .int .u8 b] w fun e w' => e = .returned (.bool true) ∧ Below w.heap.size w w' := by
  have hlim := Lib.hid (lim4 d h1 h2)
  by_cases hd : d ≤ 0
  all_goals first
    | have dd : decide (d ≤ 0) = true := by simpa using hd
    | have dd : decide (d ≤ 0) = false := by simp; omega
  all_goals
    have hd' := Lib.hid hd
    clear hd
    go_enter Try.func7, Try.ntmps7
    go_wp2_with fail
    refine (l7shown _).mono ?_
    rintro e w1 ⟨rfl, hb1⟩
    have hB1 := Lib.hid hb1
    clear hb1
    go_wp2_with fail
    refine (l7one 0 ⟨7, -1, 0, nilSl, 0⟩ ⟨some ⟨w1.heap.size + 1 + 1, 0, none⟩, 1, [⟨26, 0, 0, 0, 0, 0, 255 + d, nilSl⟩]⟩ _ (Kd.nil_rd _ _) (lit_one_at kMach _ ⟨26, 0, 0, 0, 0, 0, 255 + d, nilSl⟩ 40 _ (by simp) (Kd.nil_rd _ _))).mono ?_
    rintro e w2 ⟨m, rfl, hmp, hmr, hmem, hb2⟩
    have hB2 := Lib.hid (bthen hB1.out (bthen (by repeat (first | exact Below.refl _ _ | refine bal ?_ _)) hb2))
    have hmp' := Lib.hid hmp
    have hmr' := Lib.hid hmr
    have hmem' := Lib.hid hmem
    clear hmp hmr hmem hb2
    go_wp2_with fail
    refine (machFunc m _ (kMFunc.below hmr'.out (bal (Below.refl _ _) _)) (fun b hb y hy => by rw [List.mem_singleton.1 (hmem'.out b hb y hy)]; exact Nat.zero_le _)).mono ?_
    have he := lim_one (Mach.p ⟨26, 0, 0, 0, 0, 0, 255 + d, nilSl⟩)
    have hm1 : m.p = ⟨0, [⟨[], [Mach.p ⟨26, 0, 0, 0, 0, 0, 255 + d, nilSl⟩], ⟨7, -1, 0, [], 0⟩⟩]⟩ := hmp'.out
    rw [← hm1] at he
    obtain ⟨he1, he2⟩ := he
    have he3 : insErr (Mach.p ⟨26, 0, 0, 0, 0, 0, 255 + d, nilSl⟩) = if d ≤ 0 then 0 else 32 := hlim.out
    rw [he3] at he1
    first
      | rw [if_pos hd'.out] at he1
      | rw [if_neg (by have := hd'.out; omega)] at he1
    rintro e w3 ⟨rfl, hb3⟩
    obtain ⟨f3, hf3⟩ : ∃ f, (funcErr m.p).2.2 = f := ⟨_, rfl⟩
    rw [he1, he2, hf3]
    clear hm1 he3 he1 he2 hf3
    have hB3 := Lib.hid (bthen (bal hB2.out _) hb3)
    clear hb3 hB2 hB1 hmp' hmr' hmem' hlim hd'
    go_wp2_with fail
    go_ret
    exact ⟨rfl, hB3.out⟩
set_option maxRecDepth 1000000 in
set_option maxHeartbeats 800000 in
theorem limits5 (w : World) (a b d : Int) (a1 : 0 ≤ a) (a2 : a ≤ 255) (b1 : 0 ≤ b) (b2 : b ≤ 255) (h1 : -2 ≤ d) (h2 : d ≤ 2) (ha : a % 9 = 5) (hb : b % 5 - 2 = d) :
    Calls Try.prog 7 #[.int .u8 a, .int .u8 b] w fun e w' => e = .returned (.bool true) ∧ Below w.heap.size w w' := by
  have hlim := Lib.hid (lim5 d h1 h2)
  by_cases hd : d ≤ 0
  all_goals first
    | have dd : decide (d ≤ 0) = true := by simpa using hd
    | have dd : decide (d ≤ 0) = false := by simp; omega
  all_goals
    have hd' := Lib.hid hd
    clear hd
    go_enter Try.func7, Try.ntmps7
    go_wp2_with fail
    refine (l7shown _).mono ?_
    rintro e w1 ⟨rfl, hb1⟩
    have hB1 := Lib.hid hb1
    clear hb1
    go_wp2_with fail
    refine (l7one 0 ⟨7, -1, 0, nilSl, 0⟩ ⟨some ⟨w1.heap.size + 1 + 1, 0, none⟩, 1, [⟨24, 0, 0, 0, 0, 0, -d, nilSl⟩]⟩ _ (Kd.nil_rd _ _) (lit_one_at kMach _ ⟨24, 0, 0, 0, 0, 0, -d, nilSl⟩ 40 _ (by simp) (Kd.nil_rd _ _))).mono ?_
    rintro e w2 ⟨m, rfl, hmp, hmr, hmem, hb2⟩
    have hB2 := Lib.hid (bthen hB1.out (bthen (by repeat (first | exact Below.refl _ _ | refine bal ?_ _)) hb2))
    have hmp' := Lib.hid hmp
    have hmr' := Lib.hid hmr
    have hmem' := Lib.hid hmem
    clear hmp hmr hmem hb2
    go_wp2_with fail
    refine (machFunc m _ (kMFunc.below hmr'.out (bal (Below.refl _ _) _)) (fun b hb y hy => by rw [List.mem_singleton.1 (hmem'.out b hb y hy)]; exact Nat.zero_le _)).mono ?_
    have he := lim_one (Mach.p ⟨24, 0, 0, 0, 0, 0, -d, nilSl⟩)
    have hm1 : m.p = ⟨0, [⟨[], [Mach.p ⟨24, 0, 0, 0, 0, 0, -d, nilSl⟩], ⟨7, -1, 0, [], 0⟩⟩]⟩ := hmp'.out
    rw [← hm1] at he
    obtain ⟨he1, he2⟩ := he
    have he3 : insErr (Mach.p ⟨24, 0, 0, 0, 0, 0, -d, nilSl⟩) = if d ≤ 0 then 0 else 32 := hlim.out
    rw [he3] at he1
    first
      | rw [if_pos hd'.out] at he1
      | rw [if_neg (by have := hd'.out; omega)] at he1
    rintro e w3 ⟨rfl, hb3⟩
    obtain ⟨f3, hf3⟩ : ∃ f, (funcErr m.p).2.2 = f := ⟨_, rfl⟩
    rw [he1, he2, hf3]
    clear hm1 he3 he1 he2 hf3
    have hB3 := Lib.hid (bthen (bal hB2.out _) hb3)
    clear hb3 hB2 hB1 hmp' hmr' hmem' hlim hd'
    go_wp2_with fail
    go_ret
    exact ⟨rfl, hB3.out⟩
set_option maxRecDepth 1000000 in
set_option maxHeartbeats 800000 in
theorem limits6 (w : World) (a b d : Int) (a1 : 0 ≤ a) (a2 : a ≤ 255) (b1 : 0 ≤ b) (b2 : b ≤ 255) (h1 : -2 ≤ d) (h2 : d ≤ 2) (ha : a % 9 = 6) (hb : b % 5 - 2 = d) :
    Calls Try.prog 7 #[.int .u8 a, .int .u8 b] w fun e w' => e = .returned (.bool true) ∧ Below w.heap.size w w' := by
  have hlim := Lib.hid (lim6 d h1 h2)
  by_cases hd : d ≤ 0
  all_goals first
    | have dd : decide (d ≤ 0) = true := by simpa using hd
    | have dd : decide (d ≤ 0) = false := by simp; omega
  all_goals
    have hd' := Lib.hid hd
    clear hd
    go_enter Try.func7, Try.ntmps7
    go_wp2_with fail
    refine (l7shown _).mono ?_
    rintro e w1 ⟨rfl, hb1⟩
    have hB1 := Lib.hid hb1
    clear hb1
    go_wp2_with fail
    refine (l7one 0 ⟨7, -1, 0, nilSl, 0⟩ ⟨some ⟨w1.heap.size + 1 + 1, 0, none⟩, 1, [⟨1, 0, 0, 8191 + d, 0, 0, 0, nilSl⟩]⟩ _ (Kd.nil_rd _ _) (lit_one_at kMach _ ⟨1, 0, 0, 8191 + d, 0, 0, 0, nilSl⟩ 40 _ (by simp) (Kd.nil_rd _ _))).mono ?_
    rintro e w2 ⟨m, rfl, hmp, hmr, hmem, hb2⟩
    have hB2 := Lib.hid (bthen hB1.out (bthen (by repeat (first | exact Below.refl _ _ | refine bal ?_ _)) hb2))
    have hmp' := Lib.hid hmp
    have hmr' := Lib.hid hmr
    have hmem' := Lib.hid hmem
    clear hmp hmr hmem hb2
    go_wp2_with fail
    refine (machFunc m _ (kMFunc.below hmr'.out (bal (Below.refl _ _) _)) (fun b hb y hy => by rw [List.mem_singleton.1 (hmem'.out b hb y hy)]; exact Nat.zero_le _)).mono ?_
    have he := lim_one (Mach.p ⟨1, 0, 0, 8191 + d, 0, 0, 0, nilSl⟩)
    have hm1 : m.p = ⟨0, [⟨[], [Mach.p ⟨1, 0, 0, 8191 + d, 0, 0, 0, nilSl⟩], ⟨7, -1, 0, [], 0⟩⟩]⟩ := hmp'.out
    rw [← hm1] at he
    obtain ⟨he1, he2⟩ := he
    have he3 : insErr (Mach.p ⟨1, 0, 0, 8191 + d, 0, 0, 0, nilSl⟩) = if d ≤ 0 then 0 else 31 := hlim.out
    rw [he3] at he1
    first
      | rw [if_pos hd'.out] at he1
      | rw [if_neg (by have := hd'.out; omega)] at he1
    rintro e w3 ⟨rfl, hb3⟩
    obtain ⟨f3, hf3⟩ : ∃ f, (funcErr m.p).2.2 = f := ⟨_, rfl⟩
    rw [he1, he2, hf3]
    clear hm1 he3 he1 he2 hf3
    have hB3 := Lib.hid (bthen (bal hB2.out _) hb3)
    clear hb3 hB2 hB1 hmp' hmr' hmem' hlim hd'
    go_wp2_with fail
    go_ret
    exact ⟨rfl, hB3.out⟩
end Go.Proofs.Ytjlehpgfhlkjlaa
