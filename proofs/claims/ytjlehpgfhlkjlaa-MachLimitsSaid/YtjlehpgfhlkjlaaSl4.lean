/-
  slices.EqualFunc over []api.In and []int with mach.graph's function value.
-/
import Derived.Test.YtjlehpgfhlkjlaaSl3
set_option linter.all false
namespace Go.Proofs.Ytjlehpgfhlkjlaa
open Go.RowKit Jq

theorem eq_step {α β : Type} [BEq β] (f : α → β) (s : List α) (t : List β) (k : Nat) (hs : k < s.length) (ht : k < t.length) :
    ((s.drop k).map f == t.drop k) = (f s[k] == t[k] && ((s.drop (k + 1)).map f == t.drop (k + 1))) := by
  rw [List.drop_eq_getElem_cons hs, List.drop_eq_getElem_cons ht]
  rfl
theorem eq_end {α β : Type} [BEq β] (f : α → β) (s : List α) (t : List β) (k : Nat) (hs : s.length ≤ k) (ht : t.length ≤ k) : ((s.drop k).map f == t.drop k) = true := by
  rw [List.drop_eq_nil_of_le hs, List.drop_eq_nil_of_le ht]; rfl
theorem eq_len {α β : Type} [BEq β] (f : α → β) (s : List α) (t : List β) (h : s.length ≠ t.length) : (s.map f == t) = false := by
  induction s generalizing t with
  | nil => cases t with
    | nil => simp at h
    | cons b t => rfl
  | cons a s ih => cases t with
    | nil => rfl
    | cons b t =>
      have := ih t (by simpa using h)
      show (f a == b && (s.map f == t)) = false
      rw [this]; simp
set_option maxRecDepth 100000 in
set_option maxHeartbeats 400000 in
theorem graph1 (x : In) (n : Int) (w : World) : Calls Try.prog 112 #[.agg #[.int .i64 x.from_, .int .i64 x.val], .int .i64 n] w fun e w' => e = .returned (.bool (x.from_ == n)) ∧ Below w.heap.size w w' := by
  go_enter Try.func112, Try.ntmps112
  go_wp2
  go_ret
  exact ret_bool rfl (bal (Below.refl _ _) _)

set_option maxRecDepth 100000 in
set_option maxHeartbeats 1000000 in
theorem equalFuncIn (s : Sl In) (t : Sl Int) (w : World) (hs : kIn.sl.rd w s) (ht : kI.sl.rd w t) :
    Calls Try.prog 111 #[s.val, t.val, .func (.func 112) #[] #[]] w fun e w' => e = .returned (.bool (s.l.map (·.from_) == t.l)) ∧ Below w.heap.size w w' := by
  have hb := Kd.bound hs
  have hb2 := Kd.bound ht
  have hs' := Lib.hid hs
  have ht' := Lib.hid ht
  clear hs ht
  by_cases hlen : s.l.length = t.l.length
  · have d0 : ((s.l.length : Int) != (t.l.length : Int)) = false := by rw [hlen]; simp
    have hlen' := Lib.hid hlen
    clear hlen
    go_enter Try.func111, Try.ntmps111
    go_wp2
    go_loopw [17] (fun i wr => ∃ k : Nat, k ≤ s.l.length ∧ i = .int .i64 k ∧ ((s.l.drop k).map (·.from_) == t.l.drop k) = (s.l.map (·.from_) == t.l) ∧ Below w.heap.size w wr) (fun i _ => s.l.length - (intOf i).toNat)
    case atStart => exact ⟨0, Nat.zero_le _, rfl, rfl, Below.refl _ _⟩
    case round =>
      obtain ⟨k, hk, rfl, hix, hbw⟩ := hrel
      have hix' := Lib.hid hix
      have hbw' := Lib.hid hbw
      clear hix hbw
      by_cases hlt : k < s.l.length
      · have hlt2 : k < t.l.length := by have := hlen'.out; omega
        obtain ⟨b, o, hat, hb, hc1, hc2⟩ := getIn 91 90 Try.underlying91 (by kernel_rfl) (kIn.sl.below hs'.out hbw'.out) k hlt rfl
        obtain ⟨b2, o2, hat2, hb2, hd⟩ := getI 38 3 Try.underlying38 (by kernel_rfl) (kI.sl.below ht'.out hbw'.out) k hlt2 rfl
        have hst := Lib.hid (eq_step (·.from_) s.l t.l k hlt hlt2)
        cases hp : (s.l[k].from_ == t.l[k]) with
        | true =>
          have hp' := Lib.hid hp
          clear hp
          go_wp2_with fail
          refine (graph1 s.l[k] t.l[k] _).mono ?_
          rintro e w1 ⟨rfl, hb1⟩
          rw [hp'.out]
          have hb1' := Lib.hid (bthen (bal hbw'.out _) hb1)
          clear hb1
          go_wp2
          go_roundw
          case rel => exact ⟨k + 1, by omega, by go_num, by have h := hst.out; rw [hp'.out, Bool.true_and] at h; rw [← h]; exact hix'.out, hb1'.out⟩
          case measure => simp [intOf]; omega
        | false =>
          have hp' := Lib.hid hp
          clear hp
          go_wp2_with fail
          refine (graph1 s.l[k] t.l[k] _).mono ?_
          rintro e w1 ⟨rfl, hb1⟩
          rw [hp'.out]
          have hb1' := Lib.hid (bthen (bal hbw'.out _) hb1)
          clear hb1
          go_wp2
          go_ret
          exact ret_bool (by have h := hst.out; rw [hp'.out, Bool.false_and] at h; rw [← hix'.out, h]) hb1'.out
      · have he := Lib.hid (eq_end (·.from_) s.l t.l k (by omega) (by have := hlen'.out; omega))
        go_wp2
        go_ret
        exact ret_bool (by rw [← hix'.out, he.out]) hbw'.out
  · have d0 : ((s.l.length : Int) != (t.l.length : Int)) = true := by simp; omega
    have hr := Lib.hid (eq_len (·.from_) s.l t.l hlen)
    clear hlen
    go_enter Try.func111, Try.ntmps111
    go_wp2
    go_ret
    exact ret_bool hr.out.symm (Below.refl _ _)
end Go.Proofs.Ytjlehpgfhlkjlaa
