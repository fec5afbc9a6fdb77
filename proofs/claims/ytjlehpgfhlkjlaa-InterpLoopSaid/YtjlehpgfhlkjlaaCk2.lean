/-
  check.looker: make, once, all, on the road where nothing is wrong; check.shapes.
-/
import Derived.Test.YtjlehpgfhlkjlaaMap2
import Derived.Deep.LoopGhost
import Derived.Deep.Cut
import Derived.Deep.DeepCutAuto
import Derived.Deep.CutBlock
set_option linter.all false
namespace Jq
open Go Go.RowKit
/-- Where a value is made. -/
structure Site where
  n : Int
  b : Int
  p : Int
def Site.e (s : Site) : Int × Value := (s.n, .agg #[.int .i64 s.b, .int .i64 s.p])
def siteIn (l : List Site) (n : Int) : Bool := l.any fun s => s.n == n
theorem lk_site (l : List Site) (n : Int) : lk (l.map Site.e) n = (l.find? fun s => n == s.n).map fun s => .agg #[.int .i64 s.b, .int .i64 s.p] := by
  induction l with
  | nil => rfl
  | cons s l ih =>
    rw [List.map_cons, Site.e, lk, List.find?_cons]
    by_cases h : n = s.n
    · simp [h]
    · have hb : (n == s.n) = false := by simpa using h
      simp [h, hb, ih]
theorem lk_new (l : List Site) (n : Int) (h : siteIn l n = false) : lk (l.map Site.e) n = none := by
  rw [lk_site]
  have : l.find? (fun s => n == s.n) = none := by
    rw [List.find?_eq_none]
    intro s hs
    unfold siteIn at h
    rw [List.any_eq_false] at h
    have := h s hs
    intro e
    exact this (by simpa using (by simpa using e : n = s.n).symm)
  rw [this]
  rfl
/-- All of a thing's numbers are laid, one after the other; none: one is there already. -/
def addSites (b p : Int) : List Int → List Site → Option (List Site)
  | [], l => some l
  | n :: ns, l => if siteIn l n then none else addSites b p ns (l ++ [⟨n, b, p⟩])
def inRange (params n : Int) : Bool := decide (params ≤ n ∧ n ≤ 8191)
/-- What 'all' does. -/
def allSites (params b p : Int) (ns : List Int) (l : List Site) : Option (List Site) := if ns.all (inRange params) then addSites b p ns l else none
/-- What a looker holds: the function, and the map of what is made. -/
structure LK (kb mb : Nat) (params : Int) (blocks : Sl (Block Sl)) (TL : TypeId) (w : World) (l : List Site) : Prop where
  k : w.heap[kb]? = some (.cells [.int .i64 params, blocks.val, .map (some mb)].toArray TL (0, 0))
  m : w.heap[mb]? = some (mapObj .i64 (l.map Site.e))
theorem LK.ne {kb mb : Nat} {params : Int} {blocks : Sl (Block Sl)} {TL : TypeId} {w : World} {l : List Site} (h : LK kb mb params blocks TL w l) : kb ≠ mb := by
  intro e
  have h1 := h.k
  rw [e, h.m] at h1
  simp [mapObj] at h1
theorem LK.put {kb mb : Nat} {params : Int} {blocks : Sl (Block Sl)} {TL : TypeId} {w : World} {l : List Site} (h : LK kb mb params blocks TL w l) (s : Site) (hs : siteIn l s.n = false) :
    LK kb mb params blocks TL (setMap w mb (mapObj .i64 (putE (l.map Site.e) s.n (.agg #[.int .i64 s.b, .int .i64 s.p])))) (l ++ [s]) := by
  refine ⟨(setMap_other h.ne).trans h.k, ?_⟩
  rw [setMap_self (lt_of_block h.m), putE_new _ _ _ (lk_new l s.n hs), List.map_append]
  rfl
theorem LK.chg {kb mb : Nat} {params : Int} {blocks : Sl (Block Sl)} {TL : TypeId} {w w1 : World} {l : List Site} (h : LK kb mb params blocks TL w l) (hb : Below w.heap.size w w1) : LK kb mb params blocks TL w1 l :=
  ⟨(hb.block _ (lt_of_block h.k)).trans h.k, (hb.block _ (lt_of_block h.m)).trans h.m⟩
end Jq
namespace Go.Proofs.Ytjlehpgfhlkjlaa
open Go.RowKit Jq
set_option linter.unusedVariables false
set_option maxRecDepth 100000 in
set_option maxHeartbeats 800000 in
/-- 'looker.make'. -/
theorem ckMake (kb : Nat) (params n b p : Int) (w : World) (hc : w.cell? ⟨kb, 0, none⟩ = some (.int .i64 params)) (h : inRange params n = true) :
    Calls Try.prog 149 #[.pointer (some ⟨kb, 0, none⟩), .int .i64 n, .int .i64 b, .int .i64 p] w fun e w' => e = .returned (.tuple #[]) ∧ w = w' := by
  have h' := Lib.hid h
  clear h
  go_enter Try.func149, Try.ntmps149
  go_wp2_with fail
  refine (ckWithin n params 8191 w).mono ?_
  rw [show decide (params ≤ n ∧ n ≤ 8191) = true from h'.out]
  rintro e w1 ⟨rfl, rfl⟩
  go_wp2_with fail
  refine (ckMust 11 b p w).mono ?_
  rintro e w1 ⟨rfl, rfl⟩
  go_wp2_with fail
  go_end0
  exact ⟨rfl, rfl⟩
set_option maxRecDepth 100000 in
set_option maxHeartbeats 800000 in
/-- 'looker.once'. -/
theorem ckOnce (kb mb : Nat) (params n b p : Int) (blocks : Sl (Block Sl)) (l : List Site) (w : World) (hk : LK kb mb params blocks 167 w l) (h : siteIn l n = false) :
    Calls Try.prog 150 #[.pointer (some ⟨kb, 0, none⟩), .int .i64 n, .int .i64 b, .int .i64 p] w fun e w' => e = .returned (.tuple #[]) ∧ LK kb mb params blocks 167 w' (l ++ [⟨n, b, p⟩]) ∧ Chg (fun k => k = mb) w w' := by
  have c2 : w.cell? ⟨kb, 2, none⟩ = some (.map (some mb)) := by simp [World.cell?, hk.k]
  have hlt := lt_of_block hk.k
  have hask := run_ask2 (P := Try.prog) 165 3 _ .i64 Try.underlying165 Try.underlying3 (.agg #[.int .i64 0, .int .i64 0]) (fun w => by kernel_rfl) w mb (l.map Site.e) n hk.m
  rw [lk_new l n h] at hask
  have hb1 : Below w.heap.size w (w.alloc (.cells #[.int .i64 0, .int .i64 0] 183)) := bal (Below.refl _ _) _
  have hput := run_putKey (P := Try.prog) 165 3 _ .i64 Try.underlying165 Try.underlying3 (w.alloc (.cells #[.int .i64 0, .int .i64 0] 183)) mb (l.map Site.e) n (.agg #[.int .i64 b, .int .i64 p]) (hk.chg hb1).m
  have hput' := Lib.hid hput
  have hk1 := Lib.hid (hk.chg hb1)
  have h' := Lib.hid h
  clear hput h hk hb1
  go_enter Try.func150, Try.ntmps150
  go_upto_region 1 with fail
  go_wp2_with fail
  refine (ckMust 12 b p _).mono ?_
  rintro e w1 ⟨rfl, rfl⟩
  have hput := hput'.out
  go_wp2_with fail
  go_end0
  exact ⟨rfl, hk1.out.put ⟨n, b, p⟩ h'.out, (Chg.of (bal (Below.refl _ _) _)).setMap mb _ (Or.inl rfl)⟩
theorem addSites_at (b p : Int) (ns : List Int) (j : Nat) (h : j < ns.length) (l l2 : List Site) (ha : addSites b p (ns.drop j) l = some l2) : siteIn l ns[j] = false ∧ addSites b p (ns.drop (j + 1)) (l ++ [⟨ns[j], b, p⟩]) = some l2 := by
  rw [List.drop_eq_getElem_cons h, addSites] at ha
  split at ha
  · exact absurd ha (by simp)
  · rename_i hs
    exact ⟨by simpa using hs, ha⟩
set_option maxRecDepth 100000 in
set_option maxHeartbeats 800000 in
/-- 'looker.all'. -/
theorem ckAll (kb mb : Nat) (params b p : Int) (blocks : Sl (Block Sl)) (s : Sl Int) (l l2 : List Site) (w : World) (hk : LK kb mb params blocks 167 w l) (hs : kI.sl.rd w s) (hap : ∀ k, k ∈ kI.sl.fp s → k ≠ mb) (h : allSites params b p s.l l = some l2) :
    Calls Try.prog 138 #[.pointer (some ⟨kb, 0, none⟩), s.val, .int .i64 b, .int .i64 p] w fun e w' => e = .returned (.tuple #[]) ∧ LK kb mb params blocks 167 w' l2 ∧ Chg (fun k => k = mb) w w' := by
  have hbd := Kd.bound hs
  have hall : ∀ n, n ∈ s.l → inRange params n = true := by
    unfold allSites at h
    split at h
    · rename_i h1; exact fun n hn => List.all_eq_true.1 h1 n hn
    · exact absurd h (by simp)
  have hadd : addSites b p s.l l = some l2 := by
    unfold allSites at h
    split at h
    · exact h
    · exact absurd h (by simp)
  have hk' := Lib.hid hk
  have hs' := Lib.hid hs
  have hap' := Lib.hid hap
  have hall' := Lib.hid hall
  have hadd' := Lib.hid hadd
  clear hk hs hap h hall hadd
  go_enter Try.func138, Try.ntmps138
  go_wp2_with fail
  go_loopg [14] (s.l.length) (fun g q wr => ∃ j : Nat, q = .int .i64 j ∧ j ≤ s.l.length ∧ g = s.l.length - j ∧ wr = w)
  case atStart => exact ⟨0, rfl, Nat.zero_le _, rfl, rfl⟩
  case round =>
    obtain ⟨j, rfl, hj, hg, hw⟩ := hrel
    subst hw
    have hg' := Lib.hid hg
    clear hg
    by_cases hlt : j < s.l.length
    · obtain ⟨b1, o1, h1, hb1, hc1⟩ := getI 38 3 Try.underlying38 (by kernel_rfl) hs'.out j hlt rfl
      have hin := Lib.hid (hall'.out _ (List.getElem_mem hlt))
      have c0 : wr.cell? ⟨kb, 0, none⟩ = some (.int .i64 params) := by simp [World.cell?, hk'.out.k]
      go_wp2_with fail
      refine (ckMake kb params s.l[j] b p wr c0 hin.out).mono ?_
      rintro e w1 ⟨rfl, rfl⟩
      go_wp2_with fail
      go_roundg (s.l.length - (j + 1))
      case measure => have := hg'.out; omega
      case rel => exact ⟨j + 1, by go_num, by omega, rfl, rfl⟩
    · have hjl : j = s.l.length := by omega
      subst hjl
      go_wp2_with fail
      obtain ⟨wo, rfl⟩ : ∃ wo : World, wo = wr := ⟨_, rfl⟩
      go_loopg [26] (s.l.length) (fun g q wr => ∃ (j : Nat) (lj : List Site), q = .int .i64 j ∧ j ≤ s.l.length ∧ g = s.l.length - j ∧ LK kb mb params blocks 167 wr lj ∧ Chg (fun k => k = mb) wo wr ∧ addSites b p (s.l.drop j) lj = some l2)
      case atStart => exact ⟨0, l, rfl, Nat.zero_le _, rfl, hk'.out, Chg.refl _ _, hadd'.out⟩
      case round =>
        obtain ⟨j, lj, rfl, hj, hg, hk, hc, ha⟩ := hrel
        have hk2 := Lib.hid hk
        have hc2 := Lib.hid hc
        have ha2 := Lib.hid ha
        have hg2 := Lib.hid hg
        clear hk hc ha hg
        by_cases hlt : j < s.l.length
        · obtain ⟨b1, o1, h1, hb1, hc1⟩ := getI 38 3 Try.underlying38 (by kernel_rfl) (kI.sl.mv hs'.out fun k hk => hc2.out.block k (kI.sl.lt hs'.out k hk) (hap'.out k hk)) j hlt rfl
          obtain ⟨hn1, hn2⟩ := addSites_at b p s.l j hlt lj l2 ha2.out
          have hn1' := Lib.hid hn1
          have hn2' := Lib.hid hn2
          clear hn1 hn2
          go_wp2_with fail
          refine (ckOnce kb mb params s.l[j] b p blocks lj wr hk2.out hn1'.out).mono ?_
          rintro e w1 ⟨rfl, hk3, hc3⟩
          have hk3' := Lib.hid hk3
          have hc3' := Lib.hid (hc2.out.trans hc3)
          clear hk3 hc3
          go_wp2_with fail
          go_roundg (s.l.length - (j + 1))
          case measure => have := hg2.out; omega
          case rel => exact ⟨j + 1, _, by go_num, by omega, rfl, hk3'.out, hc3'.out, hn2'.out⟩
        · have hjl : j = s.l.length := by omega
          subst hjl
          go_wp2_with fail
          go_end0
          have h := ha2.out
          rw [List.drop_eq_nil_of_le (Nat.le_refl _), addSites] at h
          injection h with h
          subst h
          exact ⟨rfl, hk2.out, hc2.out⟩
end Go.Proofs.Ytjlehpgfhlkjlaa
