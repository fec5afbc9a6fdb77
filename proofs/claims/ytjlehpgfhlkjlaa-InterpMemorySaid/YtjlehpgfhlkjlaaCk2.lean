/-
  check.looker: make, once, all, on the road where nothing is wrong; check.shapes.
  What check.looker.shape comes to, on the road where nothing is wrong: plain.
-/
import Derived.Test.YtjlehpgfhlkjlaaMap2
import Derived.Deep.LoopGhost
import Derived.Deep.Cut
import Derived.Deep.DeepCutAuto
import Derived.Deep.CutBlock
set_option linter.all false
namespace Jq
open Go Go.RowKit
/-- Where a value is made. -/
structure Site where
  n : Int
  b : Int
  p : Int
def Site.e (s : Site) : Int × Value := (s.n, .agg #[.int .i64 s.b, .int .i64 s.p])
def siteIn (l : List Site) (n : Int) : Bool := l.any fun s => s.n == n
theorem lk_site (l : List Site) (n : Int) : lk (l.map Site.e) n = (l.find? fun s => n == s.n).map fun s => .agg #[.int .i64 s.b, .int .i64 s.p] := by
  induction l with
  | nil => rfl
  | cons s l ih =>
    rw [List.map_cons, Site.e, lk, List.find?_cons]
    by_cases h : n = s.n
    · simp [h]
    · have hb : (n == s.n) = false := by simpa using h
      simp [h, hb, ih]
theorem lk_new (l : List Site) (n : Int) (h : siteIn l n = false) : lk (l.map Site.e) n = none := by
  rw [lk_site]
  have : l.find? (fun s => n == s.n) = none := by
    rw [List.find?_eq_none]
    intro s hs
    unfold siteIn at h
    rw [List.any_eq_false] at h
    have := h s hs
    intro e
    exact this (by simpa using (by simpa using e : n = s.n).symm)
  rw [this]
  rfl
/-- All of a thing's numbers are laid, one after the other; none: one is there already. -/
def addSites (b p : Int) : List Int → List Site → Option (List Site)
  | [], l => some l
  | n :: ns, l => if siteIn l n then none else addSites b p ns (l ++ [⟨n, b, p⟩])
def inRange (params n : Int) : Bool := decide (params ≤ n ∧ n ≤ 8191)
/-- What 'all' does. -/
def allSites (params b p : Int) (ns : List Int) (l : List Site) : Option (List Site) := if ns.all (inRange params) then addSites b p ns l else none
/-- What a looker holds: the function, and the map of what is made. -/
structure LK (kb mb : Nat) (params : Int) (blocks : Sl (Block Sl)) (TL : TypeId) (w : World) (l : List Site) : Prop where
  k : w.heap[kb]? = some (.cells [.int .i64 params, blocks.val, .map (some mb)].toArray TL (0, 0))
  m : w.heap[mb]? = some (mapObj .i64 (l.map Site.e))
theorem LK.ne {kb mb : Nat} {params : Int} {blocks : Sl (Block Sl)} {TL : TypeId} {w : World} {l : List Site} (h : LK kb mb params blocks TL w l) : kb ≠ mb := by
  intro e
  have h1 := h.k
  rw [e, h.m] at h1
  simp [mapObj] at h1
theorem LK.put {kb mb : Nat} {params : Int} {blocks : Sl (Block Sl)} {TL : TypeId} {w : World} {l : List Site} (h : LK kb mb params blocks TL w l) (s : Site) (hs : siteIn l s.n = false) :
    LK kb mb params blocks TL (setMap w mb (mapObj .i64 (putE (l.map Site.e) s.n (.agg #[.int .i64 s.b, .int .i64 s.p])))) (l ++ [s]) := by
  refine ⟨(setMap_other h.ne).trans h.k, ?_⟩
  rw [setMap_self (lt_of_block h.m), putE_new _ _ _ (lk_new l s.n hs), List.map_append]
  rfl
theorem LK.chg {kb mb : Nat} {params : Int} {blocks : Sl (Block Sl)} {TL : TypeId} {w w1 : World} {l : List Site} (h : LK kb mb params blocks TL w l) (hb : Below w.heap.size w w1) : LK kb mb params blocks TL w1 l :=
  ⟨(hb.block _ (lt_of_block h.k)).trans h.k, (hb.block _ (lt_of_block h.m)).trans h.m⟩
end Jq
namespace Go.Proofs.Ytjlehpgfhlkjlaa
open Go.RowKit Jq
set_option linter.unusedVariables false
set_option maxRecDepth 100000 in
set_option maxHeartbeats 800000 in
/-- 'looker.make'. -/
theorem ckMake (kb : Nat) (params n b p : Int) (w : World) (hc : w.cell? ⟨kb, 0, none⟩ = some (.int .i64 params)) (h : inRange params n = true) :
    Calls Try.prog 149 #[.pointer (some ⟨kb, 0, none⟩), .int .i64 n, .int .i64 b, .int .i64 p] w fun e w' => e = .returned (.tuple #[]) ∧ w = w' := by
  have h' := Lib.hid h
  clear h
  go_enter Try.func149, Try.ntmps149
  go_wp2_with fail
  refine (ckWithin n params 8191 w).mono ?_
  rw [show decide (params ≤ n ∧ n ≤ 8191) = true from h'.out]
  rintro e w1 ⟨rfl, rfl⟩
  go_wp2_with fail
  refine (ckMust 11 b p w).mono ?_
  rintro e w1 ⟨rfl, rfl⟩
  go_wp2_with fail
  go_end0
  exact ⟨rfl, rfl⟩
set_option maxRecDepth 100000 in
set_option maxHeartbeats 800000 in
/-- 'looker.once'. -/
theorem ckOnce (kb mb : Nat) (params n b p : Int) (blocks : Sl (Block Sl)) (l : List Site) (w : World) (hk : LK kb mb params blocks 167 w l) (h : siteIn l n = false) :
    Calls Try.prog 150 #[.pointer (some ⟨kb, 0, none⟩), .int .i64 n, .int .i64 b, .int .i64 p] w fun e w' => e = .returned (.tuple #[]) ∧ LK kb mb params blocks 167 w' (l ++ [⟨n, b, p⟩]) ∧ Chg (fun k => k = mb) w w' := by
  have c2 : w.cell? ⟨kb, 2, none⟩ = some (.map (some mb)) := by simp [World.cell?, hk.k]
  have hlt := lt_of_block hk.k
  have hask := run_ask2 (P := Try.prog) 165 3 _ .i64 Try.underlying165 Try.underlying3 (.agg #[.int .i64 0, .int .i64 0]) (fun w => by kernel_rfl) w mb (l.map Site.e) n hk.m
  rw [lk_new l n h] at hask
  have hb1 : Below w.heap.size w (w.alloc (.cells #[.int .i64 0, .int .i64 0] 183)) := bal (Below.refl _ _) _
  have hput := run_putKey (P := Try.prog) 165 3 _ .i64 Try.underlying165 Try.underlying3 (w.alloc (.cells #[.int .i64 0, .int .i64 0] 183)) mb (l.map Site.e) n (.agg #[.int .i64 b, .int .i64 p]) (hk.chg hb1).m
  have hput' := Lib.hid hput
  have hk1 := Lib.hid (hk.chg hb1)
  have h' := Lib.hid h
  clear hput h hk hb1
  go_enter Try.func150, Try.ntmps150
  go_upto_region 1 with fail
  go_wp2_with fail
  refine (ckMust 12 b p _).mono ?_
  rintro e w1 ⟨rfl, rfl⟩
  have hput := hput'.out
  go_wp2_with fail
  go_end0
  exact ⟨rfl, hk1.out.put ⟨n, b, p⟩ h'.out, (Chg.of (bal (Below.refl _ _) _)).setMap mb _ (Or.inl rfl)⟩
theorem addSites_at (b p : Int) (ns : List Int) (j : Nat) (h : j < ns.length) (l l2 : List Site) (ha : addSites b p (ns.drop j) l = some l2) : siteIn l ns[j] = false ∧ addSites b p (ns.drop (j + 1)) (l ++ [⟨ns[j], b, p⟩]) = some l2 := by
  rw [List.drop_eq_getElem_cons h, addSites] at ha
  split at ha
  · exact absurd ha (by simp)
  · rename_i hs
    exact ⟨by simpa using hs, ha⟩
set_option maxRecDepth 100000 in
set_option maxHeartbeats 800000 in
/-- 'looker.all'. -/
theorem ckAll (kb mb : Nat) (params b p : Int) (blocks : Sl (Block Sl)) (s : Sl Int) (l l2 : List Site) (w : World) (hk : LK kb mb params blocks 167 w l) (hs : kI.sl.rd w s) (hap : ∀ k, k ∈ kI.sl.fp s → k ≠ mb) (h : allSites params b p s.l l = some l2) :
    Calls Try.prog 138 #[.pointer (some ⟨kb, 0, none⟩), s.val, .int .i64 b, .int .i64 p] w fun e w' => e = .returned (.tuple #[]) ∧ LK kb mb params blocks 167 w' l2 ∧ Chg (fun k => k = mb) w w' := by
  have hbd := Kd.bound hs
  have hall : ∀ n, n ∈ s.l → inRange params n = true := by
    unfold allSites at h
    split at h
    · rename_i h1; exact fun n hn => List.all_eq_true.1 h1 n hn
    · exact absurd h (by simp)
  have hadd : addSites b p s.l l = some l2 := by
    unfold allSites at h
    split at h
    · exact h
    · exact absurd h (by simp)
  have hk' := Lib.hid hk
  have hs' := Lib.hid hs
  have hap' := Lib.hid hap
  have hall' := Lib.hid hall
  have hadd' := Lib.hid hadd
  clear hk hs hap h hall hadd
  go_enter Try.func138, Try.ntmps138
  go_wp2_with fail
  go_loopg [14] (s.l.length) (fun g q wr => ∃ j : Nat, q = .int .i64 j ∧ j ≤ s.l.length ∧ g = s.l.length - j ∧ wr = w)
  case atStart => exact ⟨0, rfl, Nat.zero_le _, rfl, rfl⟩
  case round =>
    obtain ⟨j, rfl, hj, hg, hw⟩ := hrel
    subst hw
    have hg' := Lib.hid hg
    clear hg
    by_cases hlt : j < s.l.length
    · obtain ⟨b1, o1, h1, hb1, hc1⟩ := getI 38 3 Try.underlying38 (by kernel_rfl) hs'.out j hlt rfl
      have hin := Lib.hid (hall'.out _ (List.getElem_mem hlt))
      have c0 : wr.cell? ⟨kb, 0, none⟩ = some (.int .i64 params) := by simp [World.cell?, hk'.out.k]
      go_wp2_with fail
      refine (ckMake kb params s.l[j] b p wr c0 hin.out).mono ?_
      rintro e w1 ⟨rfl, rfl⟩
      go_wp2_with fail
      go_roundg (s.l.length - (j + 1))
      case measure => have := hg'.out; omega
      case rel => exact ⟨j + 1, by go_num, by omega, rfl, rfl⟩
    · have hjl : j = s.l.length := by omega
      subst hjl
      go_wp2_with fail
      obtain ⟨wo, rfl⟩ : ∃ wo : World, wo = wr := ⟨_, rfl⟩
      go_loopg [26] (s.l.length) (fun g q wr => ∃ (j : Nat) (lj : List Site), q = .int .i64 j ∧ j ≤ s.l.length ∧ g = s.l.length - j ∧ LK kb mb params blocks 167 wr lj ∧ Chg (fun k => k = mb) wo wr ∧ addSites b p (s.l.drop j) lj = some l2)
      case atStart => exact ⟨0, l, rfl, Nat.zero_le _, rfl, hk'.out, Chg.refl _ _, hadd'.out⟩
      case round =>
        obtain ⟨j, lj, rfl, hj, hg, hk, hc, ha⟩ := hrel
        have hk2 := Lib.hid hk
        have hc2 := Lib.hid hc
        have ha2 := Lib.hid ha
        have hg2 := Lib.hid hg
        clear hk hc ha hg
        by_cases hlt : j < s.l.length
        · obtain ⟨b1, o1, h1, hb1, hc1⟩ := getI 38 3 Try.underlying38 (by kernel_rfl) (kI.sl.mv hs'.out fun k hk => hc2.out.block k (kI.sl.lt hs'.out k hk) (hap'.out k hk)) j hlt rfl
          obtain ⟨hn1, hn2⟩ := addSites_at b p s.l j hlt lj l2 ha2.out
          have hn1' := Lib.hid hn1
          have hn2' := Lib.hid hn2
          clear hn1 hn2
          go_wp2_with fail
          refine (ckOnce kb mb params s.l[j] b p blocks lj wr hk2.out hn1'.out).mono ?_
          rintro e w1 ⟨rfl, hk3, hc3⟩
          have hk3' := Lib.hid hk3
          have hc3' := Lib.hid (hc2.out.trans hc3)
          clear hk3 hc3
          go_wp2_with fail
          go_roundg (s.l.length - (j + 1))
          case measure => have := hg2.out; omega
          case rel => exact ⟨j + 1, _, by go_num, by omega, rfl, hk3'.out, hc3'.out, hn2'.out⟩
        · have hjl : j = s.l.length := by omega
          subst hjl
          go_wp2_with fail
          go_end0
          have h := ha2.out
          rw [List.drop_eq_nil_of_le (Nat.le_refl _), addSites] at h
          injection h with h
          subst h
          exact ⟨rfl, hk2.out, hc2.out⟩
end Go.Proofs.Ytjlehpgfhlkjlaa
set_option linter.all false
namespace Jq
open Go Go.RowKit
def phiSites (params : Int) (b : Nat) : Nat → List (Phi List) → List Site → Option (List Site)
  | _, [], l => some l
  | i, p :: ps, l => match allSites params b (-1 - (i : Int)) [p.dst] l with
    | none => none
    | some l1 => phiSites params b (i + 1) ps l1
def insShape (x : Ins List) : Bool := decide (1 ≤ x.op ∧ x.op ≤ 18) && decide (opLo x.op ≤ (x.args.length : Int) ∧ (x.args.length : Int) ≤ opHi x.op)
def insSites (params : Int) (b : Nat) : Nat → List (Ins List) → List Site → Option (List Site)
  | _, [], l => some l
  | i, x :: xs, l => if insShape x then match allSites params b i (insMakes x) l with
    | none => none
    | some l1 => insSites params b (i + 1) xs l1 else none
/-- How many operands and targets a kind of term has. -/
def shapeL : List (Int × Value) := [(1, .agg #[.int .i64 0, .int .i64 0, .int .i64 1, .int .i64 1]), (2, .agg #[.int .i64 1, .int .i64 1, .int .i64 2, .int .i64 2]), (3, .agg #[.int .i64 1, .int .i64 1, .int .i64 2, .int .i64 65]), (4, .agg #[.int .i64 0, .int .i64 1, .int .i64 0, .int .i64 0]), (5, .agg #[.int .i64 0, .int .i64 0, .int .i64 0, .int .i64 0])]
def shapeOf (kind : Int) : Option (Int × Int × Int × Int) := if kind = 1 then some (0, 0, 1, 1) else if kind = 2 then some (1, 1, 2, 2) else if kind = 3 then some (1, 1, 2, 65) else if kind = 4 then some (0, 1, 0, 0) else if kind = 5 then some (0, 0, 0, 0) else none
theorem lk_shape (kind a m t l : Int) (h : shapeOf kind = some (a, m, t, l)) : lk shapeL kind = some (.agg #[.int .i64 a, .int .i64 m, .int .i64 t, .int .i64 l]) := by
  unfold shapeOf at h
  unfold shapeL
  by_cases h1 : kind = 1
  · subst h1; simp at h; obtain ⟨rfl, rfl, rfl, rfl⟩ := h; simp [lk]
  rw [if_neg h1] at h
  by_cases h2 : kind = 2
  · subst h2; simp at h; obtain ⟨rfl, rfl, rfl, rfl⟩ := h; simp [lk]
  rw [if_neg h2] at h
  by_cases h3 : kind = 3
  · subst h3; simp at h; obtain ⟨rfl, rfl, rfl, rfl⟩ := h; simp [lk]
  rw [if_neg h3] at h
  by_cases h4 : kind = 4
  · subst h4; simp at h; obtain ⟨rfl, rfl, rfl, rfl⟩ := h; simp [lk]
  rw [if_neg h4] at h
  by_cases h5 : kind = 5
  · subst h5; simp at h; obtain ⟨rfl, rfl, rfl, rfl⟩ := h; simp [lk]
  rw [if_neg h5] at h
  exact absurd h (by simp)
def termShape (kind : Int) (args tn : Nat) : Bool := match shapeOf kind with
  | some (a, m, t, l) => decide (a ≤ (args : Int) ∧ (args : Int) ≤ m) && decide (t ≤ (tn : Int) ∧ (tn : Int) ≤ l)
  | none => false
theorem termShape_of {kind : Int} {args tn : Nat} (h : termShape kind args tn = true) : ∃ a m t l, shapeOf kind = some (a, m, t, l) ∧ (a ≤ (args : Int) ∧ (args : Int) ≤ m) ∧ (t ≤ (tn : Int) ∧ (tn : Int) ≤ l) := by
  unfold termShape at h
  split at h
  · rename_i a m t l hs
    simp only [Bool.and_eq_true, decide_eq_true_eq] at h
    exact ⟨a, m, t, l, hs, h.1, h.2⟩
  · exact absurd h (by simp)
def termOk (t : Term List) (nb : Nat) : Bool := termShape t.kind t.args.length t.to.length && t.to.all fun b => decide (1 ≤ b ∧ b ≤ (nb : Int) - 1)
def blockSites (params : Int) (nb b : Nat) (x : Block List) (l : List Site) : Option (List Site) :=
  match phiSites params b 0 x.phis l with
  | none => none
  | some l1 => match insSites params b 0 x.ins l1 with
    | none => none
    | some l2 => if termOk x.term nb then some l2 else none
def blocksSites (params : Int) (nb : Nat) : Nat → List (Block List) → List Site → Option (List Site)
  | _, [], l => some l
  | b, x :: xs, l => match blockSites params nb b x l with
    | none => none
    | some l1 => blocksSites params nb (b + 1) xs l1
theorem phiSites_at {params : Int} {b : Nat} {ps : List (Phi List)} {i : Nat} {p : Phi List} (hp : ps[i]? = some p) {l l2 : List Site} (h : phiSites params b i (ps.drop i) l = some l2) : ∃ l1, allSites params b (-1 - (i : Int)) [p.dst] l = some l1 ∧ phiSites params b (i + 1) (ps.drop (i + 1)) l1 = some l2 := by
  obtain ⟨hi, rfl⟩ := List.getElem?_eq_some_iff.1 hp
  rw [List.drop_eq_getElem_cons hi, phiSites] at h
  split at h
  · exact absurd h (by simp)
  · rename_i l1 h1; exact ⟨l1, h1, h⟩
theorem insSites_at {params : Int} {b : Nat} {xs : List (Ins List)} {i : Nat} {x : Ins List} (hx : xs[i]? = some x) {l l2 : List Site} (h : insSites params b i (xs.drop i) l = some l2) : insShape x = true ∧ ∃ l1, allSites params b i (insMakes x) l = some l1 ∧ insSites params b (i + 1) (xs.drop (i + 1)) l1 = some l2 := by
  obtain ⟨hi, rfl⟩ := List.getElem?_eq_some_iff.1 hx
  rw [List.drop_eq_getElem_cons hi, insSites] at h
  split at h
  · rename_i h0
    refine ⟨h0, ?_⟩
    split at h
    · exact absurd h (by simp)
    · rename_i l1 h1; exact ⟨l1, h1, h⟩
  · exact absurd h (by simp)
theorem blocksSites_at {params : Int} {nb : Nat} {bs : List (Block List)} {b : Nat} {x : Block List} (hx : bs[b]? = some x) {l l2 : List Site} (h : blocksSites params nb b (bs.drop b) l = some l2) :
    ∃ l1 l3, phiSites params b 0 x.phis l = some l1 ∧ insSites params b 0 x.ins l1 = some l3 ∧ termOk x.term nb = true ∧ blocksSites params nb (b + 1) (bs.drop (b + 1)) l3 = some l2 := by
  obtain ⟨hi, rfl⟩ := List.getElem?_eq_some_iff.1 hx
  rw [List.drop_eq_getElem_cons hi, blocksSites] at h
  split at h
  · exact absurd h (by simp)
  · rename_i l3 h3
    unfold blockSites at h3
    split at h3
    · exact absurd h3 (by simp)
    · rename_i l1 h1
      split at h3
      · exact absurd h3 (by simp)
      · rename_i l4 h4
        split at h3
        · rename_i h5
          injection h3 with h3
          subst h3
          exact ⟨l1, l4, h1, h4, h5, h⟩
        · exact absurd h3 (by simp)
theorem phiSites_end {params : Int} {b i : Nat} {ps : List (Phi List)} (hi : ps.length ≤ i) {l l2 : List Site} (h : phiSites params b i (ps.drop i) l = some l2) : l = l2 := by
  rw [List.drop_eq_nil_of_le hi, phiSites] at h
  injection h
theorem insSites_end {params : Int} {b i : Nat} {ps : List (Ins List)} (hi : ps.length ≤ i) {l l2 : List Site} (h : insSites params b i (ps.drop i) l = some l2) : l = l2 := by
  rw [List.drop_eq_nil_of_le hi, insSites] at h
  injection h
theorem blocksSites_end {params : Int} {nb b : Nat} {ps : List (Block List)} (hi : ps.length ≤ b) {l l2 : List Site} (h : blocksSites params nb b (ps.drop b) l = some l2) : l = l2 := by
  rw [List.drop_eq_nil_of_le hi, blocksSites] at h
  injection h
/-! ### Elements in memory -/
section
variable {P : Program} (T e : TypeId) (hT : P.underlying T = some (.slice e)) {w : World}
include hT
theorem getIns {s : Sl (Ins Sl)} (hsz : (P.info? e).map (·.size) = some 5) (h : kIns.sl.rd w s) (i : Int) {k : Nat} (hk : k < s.l.length) (hi : i = k) :
    ∃ b o, (∀ W, (Instr.indexAt T s.val (.int .i64 i)).run P W = .ok (.pointer (some ⟨b, o + k * 5, none⟩)) W) ∧ b < w.heap.size ∧
      (w.cell? ⟨b, o + k * 5, none⟩ = some (.int .i64 s.l[k].op) ∧ w.cell? ⟨b, o + k * 5 + 1, none⟩ = some (.int .i64 s.l[k].dst) ∧ w.cell? ⟨b, o + k * 5 + 2, none⟩ = some (.int .i64 s.l[k].two) ∧ w.cell? ⟨b, o + k * 5 + 3, none⟩ = some s.l[k].args.val ∧ w.cell? ⟨b, o + k * 5 + 4, none⟩ = some (.int .i32 s.l[k].imm)) ∧ kIns.rd w s.l[k] := by
  obtain ⟨b, o, h1, h2, h3, h4⟩ := kIns.get T e hT hsz h i hk hi
  exact ⟨b, o, h1, h2, ⟨h3 0 (by decide), h3 1 (by decide), h3 2 (by decide), h3 3 (by decide), h3 4 (by decide)⟩, h4⟩
theorem getBlock {s : Sl (Block Sl)} (hsz : (P.info? e).map (·.size) = some 6) (h : kBlock.sl.rd w s) (i : Int) {k : Nat} (hk : k < s.l.length) (hi : i = k) :
    ∃ b o, (∀ W, (Instr.indexAt T s.val (.int .i64 i)).run P W = .ok (.pointer (some ⟨b, o + k * 6, none⟩)) W) ∧ b < w.heap.size ∧
      (w.cell? ⟨b, o + k * 6, none⟩ = some s.l[k].phis.val ∧ w.cell? ⟨b, o + k * 6 + 1, none⟩ = some s.l[k].ins.val ∧ w.cell? ⟨b, o + k * 6 + 2, none⟩ = some (.int .i64 s.l[k].term.kind) ∧ w.cell? ⟨b, o + k * 6 + 3, none⟩ = some s.l[k].term.args.val ∧
       w.cell? ⟨b, o + k * 6 + 4, none⟩ = some s.l[k].term.to.val ∧ w.cell? ⟨b, o + k * 6 + 5, none⟩ = some (.int .i32 s.l[k].term.imm)) ∧ kBlock.rd w s.l[k] := by
  obtain ⟨b, o, h1, h2, h3, h4⟩ := kBlock.get T e hT hsz h i hk hi
  exact ⟨b, o, h1, h2, ⟨h3 0 (by decide), h3 1 (by decide), h3 2 (by decide), h3 3 (by decide), h3 4 (by decide), h3 5 (by decide)⟩, h4⟩
end
theorem bk_at (s : Sl (Block Sl)) {k : Nat} (h : k < s.l.length) : (s.l.map Block.p)[k]? = some s.l[k].p := by simp [h]
theorem is_at (x : Block Sl) {k : Nat} (h : k < x.ins.l.length) : x.p.ins[k]? = some x.ins.l[k].p := by simp [Block.p, h]
theorem ph_at (x : Block Sl) {k : Nat} (h : k < x.phis.l.length) : x.p.phis[k]? = some x.phis.l[k].p := by simp [Block.p, h]
end Jq
