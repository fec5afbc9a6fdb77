/-
  mach.phis.
-/
import Derived.Test.YtjlehpgfhlkjlaaSet
import Derived.Test.YtjlehpgfhlkjlaaSl1
import Derived.BigRegion
import Derived.BigQuiet
set_option linter.all false
namespace Jq
open Go Go.RowKit
/-- Which of a phi's values it takes, coming from a block. -/
def phiIdx (from_ : Int) (p : Phi List) : Int := idx (fun y => y.from_ == from_) p.ins
def phiReg (from_ : Int) (p : Phi List) : Int := (p.ins.getD (phiIdx from_ p).toNat ⟨0, 0⟩).val
def phiVal (from_ : Int) (regs : List Int) (p : Phi List) : Int := mget regs (phiReg from_ p)
def setEach : List Int → List (Phi List) → List Int → List Int
  | regs, p :: ps, v :: vs => setEach (mset regs p.dst v) ps vs
  | regs, _, _ => regs
@[simp] theorem setEach_len : ∀ (ps : List (Phi List)) (vs regs : List Int), (setEach regs ps vs).length = regs.length
  | [], _, _ => by simp [setEach]
  | _ :: _, [], _ => by simp [setEach]
  | p :: ps, v :: vs, regs => by rw [setEach, setEach_len ps vs, mset_len]
/-- mach.phis: the registers behind it. -/
def phisDo (l : List (Phi List)) (from_ : Int) (regs : List Int) : List Int := setEach regs l (l.map (phiVal from_ regs))
theorem setEach_at : ∀ (ps : List (Phi List)) (vs regs : List Int) (k : Nat) (hk : k < ps.length) (hv : k < vs.length),
    setEach regs (ps.take (k + 1)) (vs.take (k + 1)) = mset (setEach regs (ps.take k) (vs.take k)) ps[k].dst vs[k]
  | p :: ps, v :: vs, regs, 0, _, _ => by simp [setEach]
  | p :: ps, v :: vs, regs, k + 1, hk, hv => by
    simp only [List.take_succ_cons, setEach, List.getElem_cons_succ]
    exact setEach_at ps vs _ k (by simpa using hk) (by simpa using hv)
/-- A phi that may be run, of n registers. -/
structure PhiOk (from_ : Int) (n : Nat) (p : Phi List) : Prop where
  hit : 0 ≤ phiIdx from_ p
  reg : 0 ≤ phiReg from_ p ∧ phiReg from_ p < (n : Int)
  dst : 0 ≤ p.dst ∧ p.dst < (n : Int)
theorem idxFrom_lt {α : Type} (p : α → Bool) : ∀ (d k : Nat) (l : List α), l.length - k = d → 0 ≤ idxFrom p k l → idxFrom p k l < (l.length : Int)
  | 0, k, l, hd, h => by rw [idxFrom_end p k l (by omega)] at h; omega
  | d + 1, k, l, hd, h => by
    have hk : k < l.length := by omega
    cases hp : p l[k] with
    | true => rw [idxFrom_yes p k l hk hp]; omega
    | false => rw [idxFrom_no p k l hk hp] at h ⊢; exact idxFrom_lt p d (k + 1) l (by omega) h
theorem idx_lt {α : Type} (p : α → Bool) (l : List α) (h : 0 ≤ idx p l) : idx p l < (l.length : Int) := idxFrom_lt p _ 0 l rfl h
end Jq
namespace Go.Proofs.Ytjlehpgfhlkjlaa
open Go.RowKit Jq Go.Deep
set_option linter.unusedVariables false
theorem phis1_go : ∀ (xs : Array Value) (W : World), (callFunc 83 xs).run Try.prog W = .ok (.enter 83 xs) W := fun xs W => run_callFunc_go Try.func83 (by kernel_rfl) rfl xs W
set_option maxRecDepth 100000 in
set_option maxHeartbeats 400000 in
theorem phis1 (x : In) (n : Int) (bx : Nat) (w : World) (hb : w.cell? ⟨bx, 0, none⟩ = some (.int .i64 n)) (hlt : bx < w.heap.size) : Calls Try.prog 83 #[.agg #[.int .i64 x.from_, .int .i64 x.val], .pointer (some ⟨bx, 0, none⟩)] w fun e w' => e = .returned (.bool (x.from_ == n)) ∧ Below w.heap.size w w' := by
  go_enter Try.func83, Try.ntmps83
  go_wp2_with fail
  go_ret
  exact ret_bool rfl (bal (Below.refl _ _) _)

/-- What the second loop holds. -/
structure PL (s : Sl (Phi Sl)) (fr : Int) (R V : Sl Int) (base b2 : Nat) (w wr : World) (k : Nat) : Prop where
  regs : Own kW 21 base wr (R.wl (setEach R.l ((s.l.map Phi.p).take k) (V.l.take k)))
  vals : Own kW 21 b2 wr V
  srd : kPhi.sl.rd wr s
  chg : Chg (fun k => some k = R.val.ownBlock) w wr
theorem PL.go {s : Sl (Phi Sl)} {fr : Int} {R V : Sl Int} {base b2 : Nat} {w wr w1 : World} {k : Nat} (h : PL s fr R V base b2 w wr k) (hb : Below wr.heap.size wr w1) : PL s fr R V base b2 w w1 k :=
  ⟨h.regs.below hb, h.vals.below hb, kPhi.sl.below h.srd hb, h.chg.below hb⟩
theorem PL.put {s : Sl (Phi Sl)} {fr : Int} {R V : Sl Int} {base b2 : Nat} {w w1 : World} {k : Nat} (h : PL s fr R V base b2 w w1 k) (hk : k < s.l.length) (hV : k < V.l.length) (g o : Nat) (u : Value)
    (hob : (R.wl (setEach R.l ((s.l.map Phi.p).take k) (V.l.take k))).val.ownBlock = some g)
    (hown : Own kW 21 base (w1.setCell ⟨g, o, none⟩ u) (R.wl (mset (setEach R.l ((s.l.map Phi.p).take k) (V.l.take k)) s.l[k].dst V.l[k])))
    (hap : ∀ q, q ∈ kPhi.sl.fp s → some q ≠ R.val.ownBlock) (hRlt : ∀ q, some q = R.val.ownBlock → q < w.heap.size) (hb2 : w.heap.size < b2) : PL s fr R V base b2 w (w1.setCell ⟨g, o, none⟩ u) (k + 1) := by
  rw [Sl.wl_val (setEach_len _ _ _)] at hob
  have hg := hRlt g hob.symm
  have e := setEach_at (s.l.map Phi.p) V.l R.l k (by simpa using hk) hV
  have e2 : ((s.l.map Phi.p)[k]'(by simpa using hk)).dst = s.l[k].dst := by simp [Phi.p]
  rw [e2] at e
  refine ⟨by rw [e]; exact hown, h.vals.mv fun q hq => ?_, kPhi.sl.mv h.srd fun q hq => ?_, h.chg.set _ _ _ (Or.inl hob.symm)⟩
  · rcases hq with hq | ⟨x, _, hq⟩
    · exact Below.heap_setCell _ _ _ _ (by have := h.vals.ge q hq; show q ≠ g; omega)
    · simp [kW, Kd.scalar] at hq
  · refine Below.heap_setCell _ _ _ _ ?_
    rintro rfl
    exact hap _ hq hob.symm

set_option maxRecDepth 1000000 in
set_option maxHeartbeats 8000000 in
/-- 'mach.phis'. -/
theorem machPhis (s : Sl (Phi Sl)) (fr : Int) (R : Sl Int) (base : Nat) (w : World) (hs : kPhi.sl.rd w s) (hR : Own kW 21 base w R) (hap : ∀ k, k ∈ kPhi.sl.fp s → some k ≠ R.val.ownBlock) (hn : s.l.length ≤ 16384)
    (hok : ∀ p, p ∈ s.l → PhiOk fr R.l.length p.p) :
    Calls Try.prog 44 #[s.val, .int .i64 fr, R.val] w fun e w' => e = .returned (.tuple #[]) ∧ Own kW 21 base w' (R.wl (phisDo (s.l.map Phi.p) fr R.l)) ∧ Chg (fun k => some k = R.val.ownBlock) w w' := by
  have hs' := Lib.hid hs
  have hR' := Lib.hid hR
  have hap' := Lib.hid hap
  have hok' := Lib.hid hok
  have hRb := Kd.bound hR.rd
  have hgo := phis1_go
  clear hs hR hap hok
  go_enter Try.func44, Try.ntmps44
  go_wp2_with fail
  obtain ⟨W0, hW0⟩ : ∃ W0, W0 = w.alloc (.cells #[.int .i64 fr] 3) := ⟨_, rfl⟩
  have hB0 := Lib.hid (show Below w.heap.size w W0 by subst hW0; exact bal (Below.refl _ _) _)
  have hbx := Lib.hid (show W0.heap[w.heap.size]? = some (.cells #[.int .i64 fr] 3 (0, 0)) by subst hW0; exact heap_alloc_new w _)
  have hsz := Lib.hid (show W0.heap.size = w.heap.size + 1 by subst hW0; simp)
  go_must (rw [← hW0])
  clear hW0
  go_loopg [6, 14] (s.l.length) (fun g v q wr => ∃ k : Nat, k ≤ s.l.length ∧ g = s.l.length - k ∧ q = .int .i64 k ∧ ∃ V : Sl Int, v = V.val ∧ Own kW 21 W0.heap.size wr V ∧ V.l = (s.l.take k).map (fun p => phiVal fr R.l p.p) ∧ Below W0.heap.size W0 wr)
  case atStart => exact ⟨0, Nat.zero_le _, rfl, rfl, nilSl, rfl, Own.nil _ _ _ _, rfl, Below.refl _ _⟩
  case round =>
    obtain ⟨k, hk, hg, rfl, V, rfl, hV, hVl, hB⟩ := hrel
    have hV' := Lib.hid hV
    have hVl' := Lib.hid hVl
    have hB' := Lib.hid hB
    have hg' := Lib.hid hg
    clear hV hVl hB hg
    by_cases hlt : k < s.l.length
    · have hB2 := Lib.hid (hB0.out.trans (hB'.out.mono hB0.out.size))
      obtain ⟨b3, o3, hat3, hb3, hp0, hp1, hrp⟩ := getPhi 62 93 Try.underlying62 (by kernel_rfl) (kPhi.sl.below hs'.out hB2.out) k hlt rfl
      have hrp' := Lib.hid hrp
      clear hrp
      go_wp2_with fail
      clear hat3 hp0 hp1
      have hk1 := Lib.hid (hok'.out _ (List.getElem_mem hlt))
      have hbW := Lib.hid (show ∀ W, Below (wr.alloc (.cells #[.int .i64 s.l[k].dst, s.l[k].ins.val] 93)).heap.size (wr.alloc (.cells #[.int .i64 s.l[k].dst, s.l[k].ins.val] 93)) W → Below wr.heap.size wr W ∧ W.cell? ⟨w.heap.size, 0, none⟩ = some (.int .i64 fr) ∧ w.heap.size < W.heap.size ∧ W.cell? ⟨wr.heap.size, 1, none⟩ = some s.l[k].ins.val from fun W hW => by
        have h1 : Below wr.heap.size wr W := bthen (bal (Below.refl _ _) _) hW
        have h2 : Below W0.heap.size W0 W := bthen hB'.out h1
        have h3 := h2.size
        have h4 := hsz.out
        refine ⟨h1, ?_, by omega, ?_⟩
        · have := h2.block w.heap.size (by omega)
          simp [World.cell?, this, hbx.out]
        · have h := hW.cell (p := ⟨wr.heap.size, 1, none⟩) (by simp)
          rw [h]; simp)
      refine (indexFuncIn s.l[k].ins 83 #[.pointer (some ⟨w.heap.size, 0, none⟩)] (fun y => y.from_ == fr) _ (kIn.sl.below hrp'.out (bal (Below.refl _ _) _)) ⟨phis1_go, fun x _ W hW => phis1 x fr w.heap.size W (hbW.out W hW).2.1 (hbW.out W hW).2.2.1⟩).mono ?_
      rintro e w1 ⟨rfl, hb1⟩
      obtain ⟨hbr, _, _, hcx⟩ := hbW.out w1 hb1
      have hbr' := Lib.hid hbr
      obtain ⟨n, hin⟩ : ∃ n : Nat, idx (fun y => y.from_ == fr) s.l[k].ins.l = (n : Int) := ⟨(idx (fun y : In => y.from_ == fr) s.l[k].ins.l).toNat, by have : 0 ≤ idx (fun y : In => y.from_ == fr) s.l[k].ins.l := hk1.out.hit; omega⟩
      have hnl : n < s.l[k].ins.l.length := by
        have h := idx_lt (fun y : In => y.from_ == fr) s.l[k].ins.l (by omega)
        omega
      have hreg : phiReg fr s.l[k].p = s.l[k].ins.l[n].val := by
        have : phiIdx fr s.l[k].p = (n : Int) := hin
        simp only [phiReg, this, Int.toNat_natCast]
        show (s.l[k].ins.l.getD n ⟨0, 0⟩).val = _
        simp [List.getD_eq_getElem?_getD, hnl]
      have hrr := hk1.out.reg
      rw [hreg] at hrr
      have hval := Lib.hid (show phiVal fr R.l s.l[k].p = R.l[s.l[k].ins.l[n].val.toNat]'(by omega) by
        rw [phiVal, hreg, mget, if_neg (by omega)]
        have : s.l[k].ins.l[n].val.toNat < R.l.length := by omega
        simp [List.getD_eq_getElem?_getD, this])
      rw [hin]
      obtain ⟨b4, o4, hat4, hb4, hf0, hf1⟩ := getIn 91 90 Try.underlying91 (by kernel_rfl) (kIn.sl.below hrp'.out hbr'.out) n hnl rfl
      obtain ⟨b5, o5, hat5, hb5, hc5⟩ := getW 25 21 Try.underlying25 (by kernel_rfl) (kW.sl.below (kW.sl.below hR'.out.rd hB2.out) hbr'.out) s.l[k].ins.l[n].val (k := s.l[k].ins.l[n].val.toNat) (by omega) (by omega)
      rw [← hval.out] at hc5
      obtain ⟨pv, hpv⟩ : ∃ pv, phiVal fr R.l s.l[k].p = pv := ⟨_, rfl⟩
      rw [hpv] at hc5
      have hpv' := Lib.hid hpv
      clear hval hpv
      obtain ⟨rg, hrg⟩ : ∃ rg, s.l[k].ins.l[n].val = rg := ⟨_, rfl⟩
      rw [hrg] at hf1 hc5 hat5
      clear hb1 hbr hin hreg hrr hrg
      have hVw := Lib.hid (hV'.out.below hbr'.out)
      have hVn := Lib.hid (show V.l.length ≤ 16384 by rw [hVl'.out]; simp; omega)
      have hVs := Lib.hid (show W0.heap.size ≤ w1.heap.size from Nat.le_trans hB'.out.size hbr'.out.size)
      go_wp2_with (at_builtin; go_must (refine wpList_app kW (by decide) kW_one W0.heap.size rfl 25 21 _ _ rfl (.int .i32 0) 4 Try.underlying25 infoW rfl (by decide) _ V ⟨some ⟨w1.heap.size, 0, none⟩, 1, [pv]⟩ rfl rfl (hVw.out.below (bal (Below.refl _ _) _)) (own_lit (.int .i32) 21 0 w1 [pv] (by simp) (by simp)).rd (by have := hVs.out; simp; omega) kW_apart (by have := hVn.out; simp only [List.length_singleton]; omega) ?_; intro V2 w2 hown hl hg hat; have hown' := Lib.hid hown; have hl' := Lib.hid hl; have hB5 := Lib.hid (Below.grown (B := W0.heap.size) (a := W0) ((bthen hB'.out hbr'.out).trans ((bal (Below.refl _ _) (.cells #[.int .i32 pv] 21)).mono hVs.out)) hg (by have := hVs.out; simp; omega) (fun q hq => hVw.out.ge q hq.symm)); clear hown hl hg hat))
      clear hat4 hat5 hf0 hf1 hc5 hcx
      go_roundg (s.l.length - (k + 1))
      case measure => have := hg'.out; omega
      case rel =>
        refine ⟨k + 1, by omega, rfl, by go_num, V2, rfl, hown'.out, ?_, hB5.out⟩
        rw [hl'.out, hVl'.out]
        show _ ++ [pv] = _
        rw [← hpv'.out, List.map_take, List.map_take]
        exact take_at _ k _ (by simp [hlt])
    · have hkl : k = s.l.length := by omega
      subst hkl
      have hP0 := Lib.hid (show PL s fr R V base W0.heap.size w wr 0 from ⟨by simp only [List.take_zero, setEach]; exact hR'.out.below (hB0.out.trans (hB'.out.mono hB0.out.size)), hV'.out, kPhi.sl.below hs'.out (hB0.out.trans (hB'.out.mono hB0.out.size)), Chg.of (hB0.out.trans (hB'.out.mono hB0.out.size))⟩)
      have hVl2 := Lib.hid (show V.l = (s.l.map Phi.p).map (phiVal fr R.l) by have h := hVl'.out; rw [List.take_length] at h; rw [h]; simp)
      have hRlt := Lib.hid (show ∀ q, some q = R.val.ownBlock → q < w.heap.size from fun q hq => hR'.out.lt q (Or.inl hq))
      have hWs := Lib.hid (show w.heap.size < W0.heap.size by have := hsz.out; omega)
      clear hV' hVl' hB' hg' hB0 hbx hsz
      go_wp2_with fail
      go_loopg [37] (s.l.length) (fun g q wr => ∃ k : Nat, k ≤ s.l.length ∧ g = s.l.length - k ∧ q = .int .i64 k ∧ PL s fr R V base W0.heap.size w wr k)
      case atStart => exact ⟨0, Nat.zero_le _, rfl, rfl, hP0.out⟩
      case round =>
        obtain ⟨k, hk, hg, rfl, hP⟩ := hrel
        have hP' := Lib.hid hP
        have hg' := Lib.hid hg
        clear hP hg
        by_cases hlt : k < s.l.length
        · obtain ⟨b3, o3, hat3, hb3, hp0, hp1, hrp⟩ := getPhi 62 93 Try.underlying62 (by kernel_rfl) hP'.out.srd k hlt rfl
          have hVk : k < V.l.length := by rw [hVl2.out]; simpa using hlt
          obtain ⟨b5, o5, hat5, hb5, hc5⟩ := getW 25 21 Try.underlying25 (by kernel_rfl) hP'.out.vals.rd k hVk rfl
          have hdst := (hok'.out _ (List.getElem_mem hlt)).dst
          have hdst2 : 0 ≤ s.l[k].dst ∧ s.l[k].dst < (R.l.length : Int) := hdst
          obtain ⟨hd0, hd1⟩ := hdst2
          obtain ⟨g, hA, hbs, hgl, hc, hf, hob, hst⟩ := (hP'.out.go (bal (Below.refl _ _) (.cells #[.int .i64 s.l[k].dst, s.l[k].ins.val] 93))).regs.setAt s.l[k].dst V.l[k] ⟨hd0, by simpa [Sl.wl] using hd1⟩
          have hatR := Kd.run_index (P := Try.prog) 25 21 Try.underlying25 R g 0 1 hA (by kernel_rfl) s.l[k].dst s.l[k].dst.toNat (by omega) (by omega)
          rw [Nat.zero_add, Nat.mul_one] at hatR
          have hst' := Lib.hid hst
          have hob' := Lib.hid hob
          clear hrp hst hob hdst
          go_wp2_with fail
          clear hat3 hp0 hp1
          go_region
          go_wp2_with fail
          clear hat5 hc5 hatR hc hf
          go_roundg (s.l.length - (k + 1))
          case measure => have := hg'.out; omega
          case rel =>
            refine ⟨k + 1, by omega, rfl, by go_num, ?_⟩
            exact ((hP'.out.go (bal (Below.refl _ _) (.cells #[.int .i64 s.l[k].dst, s.l[k].ins.val] 93))).put hlt hVk g _ _ hob'.out hst'.out hap'.out hRlt.out hWs.out).go (Below.refl _ _).drew
        · have hkl : k = s.l.length := by omega
          subst hkl
          go_wp2_with fail
          go_end0
          have hl := hP'.out.regs
          have e1 : (s.l.map Phi.p).take s.l.length = s.l.map Phi.p := List.take_of_length_le (by simp)
          have e2 : V.l.take s.l.length = V.l := List.take_of_length_le (by rw [hVl2.out]; simp)
          rw [e1, e2, hVl2.out] at hl
          exact ⟨rfl, hl, hP'.out.chg⟩
end Go.Proofs.Ytjlehpgfhlkjlaa
