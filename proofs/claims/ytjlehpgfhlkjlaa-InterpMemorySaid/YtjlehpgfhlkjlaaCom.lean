/-
  graph.common, by fuel.
-/
import Derived.Test.YtjlehpgfhlkjlaaDom
import Derived.WalkMore
import Derived.Deep.QuietTactic
import Derived.BigQuiet
set_option linter.all false
namespace Jq
open Go Go.RowKit
/-- An entry of a row, by a number that must be in its bounds. -/
def atI (l : List Int) (i : Int) : Option Int := if 0 ≤ i then l[i.toNat]? else none
/-- graph.common, if so many steps do. -/
def comF (idom num : List Int) : Nat → Int → Int → Option Int
  | 0, _, _ => none
  | n + 1, a, b => match atI num a, atI num b with
    | some x, some y => if y < x then (match atI idom a with | some c => comF idom num n c b | none => none) else if x < y then (match atI idom b with | some c => comF idom num n a c | none => none) else some a
    | _, _ => none
theorem atI_some {l : List Int} {i x : Int} (h : atI l i = some x) : ∃ (k : Nat) (hk : k < l.length), i = (k : Int) ∧ l[k] = x := by
  unfold atI at h
  split at h
  · rename_i h0
    obtain ⟨hk, hx⟩ := List.getElem?_eq_some_iff.1 h
    exact ⟨i.toNat, hk, by omega, hx⟩
  · exact absurd h (by simp)
theorem comF_step {idom num : List Int} {n : Nat} {a b c : Int} (h : comF idom num (n + 1) a b = some c) : ∃ x y, atI num a = some x ∧ atI num b = some y ∧
    ((y < x ∧ ∃ d, atI idom a = some d ∧ comF idom num n d b = some c) ∨ (x < y ∧ ∃ d, atI idom b = some d ∧ comF idom num n a d = some c) ∨ (x = y ∧ c = a)) := by
  rw [comF] at h
  split at h
  · rename_i x y hx hy
    refine ⟨x, y, hx, hy, ?_⟩
    split at h
    · rename_i h1
      split at h
      · rename_i d hd; exact Or.inl ⟨h1, d, hd, h⟩
      · exact absurd h (by simp)
    · split at h
      · rename_i h2
        split at h
        · rename_i d hd; exact Or.inr (Or.inl ⟨h2, d, hd, h⟩)
        · exact absurd h (by simp)
      · injection h with h
        exact Or.inr (Or.inr ⟨by omega, h.symm⟩)
  · exact absurd h (by simp)
end Jq
namespace Go.Proofs.Ytjlehpgfhlkjlaa
open Go.RowKit Jq
set_option linter.unusedVariables false
set_option maxRecDepth 100000 in
set_option maxHeartbeats 1000000 in
/-- 'graph.common'. -/
theorem grCommon (idom num : Sl Int) (a b c : Int) (n : Nat) (w : World) (hi : kI.sl.rd w idom) (hn : kI.sl.rd w num) (h : comF idom.l num.l n a b = some c) : Calls Try.prog 156 #[idom.val, num.val, .int .i64 a, .int .i64 b] w fun e w' => e = .returned (.int .i64 c) ∧ ∃ m, w' = w.drewN m := by
  have h' := Lib.hid h
  have hi' := Lib.hid hi
  have hn' := Lib.hid hn
  clear h hi hn
  go_enter Try.func156, Try.ntmps156
  go_wp2_with fail
  apply wp_scope_straight
  go_wp2_with fail
  apply wp_label
  go_wp2_with fail
  go_loopg [2, 3] (n) (fun g u v wr => ∃ (a b : Int) (m k : Nat), u = .int .i64 a ∧ v = .int .i64 b ∧ wr = w.drewN m ∧ g = k ∧ comF idom.l num.l k a b = some c)
  case atStart => exact ⟨a, b, 0, n, rfl, rfl, rfl, rfl, h'.out⟩
  case round =>
    obtain ⟨a, b, m, g, rfl, rfl, hwr, hgg, hc⟩ := hrel
    have hgg' := Lib.hid hgg
    clear hgg
    cases g with
    | zero => exact absurd hc (by simp [comF])
    | succ g =>
      obtain ⟨x, y, hx, hy, hor⟩ := comF_step hc
      obtain ⟨ka, hka, rfl, hxa⟩ := atI_some hx
      obtain ⟨kb, hkb, rfl, hyb⟩ := atI_some hy
      have hwr' := Lib.hid hwr
      have hbw := Lib.hid (show Below w.heap.size w wr by rw [hwr]; exact ⟨rfl, rfl, rfl, Nat.le_refl _, fun _ _ => rfl⟩)
      clear hc hx hy hwr
      obtain ⟨b1, o1, h1, hb1, hc1⟩ := getI 38 3 Try.underlying38 (by kernel_rfl) (kI.sl.below hn'.out hbw.out) ka hka rfl
      obtain ⟨b2, o2, h2, hb2, hc2⟩ := getI 38 3 Try.underlying38 (by kernel_rfl) (kI.sl.below hn'.out hbw.out) kb hkb rfl
      rw [hxa] at hc1
      rw [hyb] at hc2
      have hxa' := Lib.hid hxa
      have hyb' := Lib.hid hyb
      clear hxa hyb
      rcases hor with ⟨h3, d, hd, hcc⟩ | ⟨h3, d, hd, hcc⟩ | ⟨rfl, rfl⟩
      · obtain ⟨kc, hkc, hkk, hdc⟩ := atI_some hd
        obtain rfl : ka = kc := by omega
        have hcc' := Lib.hid hcc
        clear hcc hkk hd
        go_wp2_with fail
        go_quiet (fail)
        obtain ⟨b5, o5, h5, hb5, hc5⟩ := getI 38 3 Try.underlying38 (by kernel_rfl) (kI.sl.below (kI.sl.below hi'.out hbw.out) (bdn wr nq)) ka hkc rfl
        rw [hdc] at hc5
        clear h1 hc1 h2 hc2
        go_wp2_with fail
        go_roundg g
        case measure => have := hgg'.out; omega
        case rel => exact ⟨d, kb, m + nq, g, rfl, rfl, by rw [hwr'.out, World.drewN_drewN], rfl, hcc'.out⟩
      · obtain ⟨kc, hkc, hkk, hdc⟩ := atI_some hd
        obtain rfl : kb = kc := by omega
        have hcc' := Lib.hid hcc
        clear hcc hkk hd
        go_wp2_with fail
        go_quiet (fail)
        have hbw2 := Lib.hid (hbw.out.trans ((bdn wr nq).mono hbw.out.size))
        obtain ⟨m1, hm1⟩ : ∃ m1, wr.drewN nq = w.drewN m1 := ⟨m + nq, by rw [hwr'.out, World.drewN_drewN]⟩
        have hdr := Lib.hid hm1
        clear hm1
        obtain ⟨wq, hwq⟩ : ∃ wq, wr.drewN nq = wq := ⟨_, rfl⟩
        rw [hwq] at hbw2 hdr
        rw [hwq]
        clear hwq h1 hc1 h2 hc2
        obtain ⟨b1, o1, h1, hb1, hc1⟩ := getI 38 3 Try.underlying38 (by kernel_rfl) (kI.sl.below hn'.out hbw2.out) ka hka rfl
        obtain ⟨b2, o2, h2, hb2, hc2⟩ := getI 38 3 Try.underlying38 (by kernel_rfl) (kI.sl.below hn'.out hbw2.out) kb hkb rfl
        rw [hxa'.out] at hc1
        rw [hyb'.out] at hc2
        go_wp2_with fail
        go_quiet (fail)
        obtain ⟨b5, o5, h5, hb5, hc5⟩ := getI 38 3 Try.underlying38 (by kernel_rfl) (kI.sl.below (kI.sl.below hi'.out hbw2.out) (bdn wq nq)) kb hkc rfl
        rw [hdc] at hc5
        clear h1 hc1 h2 hc2
        go_wp2_with fail
        go_roundg g
        case measure => have := hgg'.out; omega
        case rel => exact ⟨ka, d, m1 + nq, g, rfl, rfl, by rw [hdr.out, World.drewN_drewN], rfl, hcc'.out⟩
      · have h3 : ¬ (x < x) := by omega
        go_wp2_with fail
        go_quiet (fail)
        have hbw2 := Lib.hid (hbw.out.trans ((bdn wr nq).mono hbw.out.size))
        obtain ⟨m1, hm1⟩ : ∃ m1, wr.drewN nq = w.drewN m1 := ⟨m + nq, by rw [hwr'.out, World.drewN_drewN]⟩
        have hdr := Lib.hid hm1
        clear hm1
        obtain ⟨wq, hwq⟩ : ∃ wq, wr.drewN nq = wq := ⟨_, rfl⟩
        rw [hwq] at hbw2 hdr
        rw [hwq]
        clear hwq h1 hc1 h2 hc2
        obtain ⟨b1, o1, h1, hb1, hc1⟩ := getI 38 3 Try.underlying38 (by kernel_rfl) (kI.sl.below hn'.out hbw2.out) ka hka rfl
        obtain ⟨b2, o2, h2, hb2, hc2⟩ := getI 38 3 Try.underlying38 (by kernel_rfl) (kI.sl.below hn'.out hbw2.out) kb hkb rfl
        rw [hxa'.out] at hc1
        rw [hyb'.out] at hc2
        go_wp2_with fail
        go_quiet (fail)
        go_wp2_with fail
        simp only [Exit.noGoto]
        go_ret
        exact ⟨rfl, m1 + nq, by rw [hdr.out, World.drewN_drewN]⟩
end Go.Proofs.Ytjlehpgfhlkjlaa
