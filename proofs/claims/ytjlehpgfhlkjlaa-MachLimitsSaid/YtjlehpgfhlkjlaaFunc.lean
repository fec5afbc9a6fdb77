/-
  mach.Func.
-/
import Derived.Test.YtjlehpgfhlkjlaaGraph
import Derived.Test.YtjlehpgfhlkjlaaPFunc
import Derived.Test.YtjlehpgfhlkjlaaPhi
import Derived.Test.YtjlehpgfhlkjlaaEnd
set_option linter.all false
namespace Jq
open Go
open Go.RowKit
def Sl.tk {α : Type} (s : Sl α) (i : Nat) : Sl α := ⟨s.A, s.cap, s.l.take i⟩
theorem run_take {α : Type} {P : Program} (T e : TypeId) (z : Nat) (hT : P.underlying T = some (.slice e)) (hsz : (P.info? e).map (·.size) = some z) (s : Sl α) (i : Nat) (h1 : i ≤ s.l.length) (hc : s.l.length ≤ s.cap) (W : World) :
    (Instr.sliceAt T s.val none (some (.int .i64 (i : Int))) none).run P W = .ok (s.tk i).val W := by
  unfold Sl.tk
  obtain ⟨q, hq, hqs⟩ := Option.map_eq_some_iff.1 hsz
  have hso : (Go.sizeOf e).run P W = .ok z W := by simp [Go.sizeOf, typeInfo, hq, hqs]
  have hle : (i : Int) ≤ (s.cap : Int) := by omega
  have hle2 : i ≤ s.cap := by omega
  simp [Instr.sliceAt, Instr.slice, Instr.sliceBounds, Instr.sliceBound, asIntOf, run_underlying hT, hso, Result.andThen, hle, hle2]
  rcases s with ⟨_ | A, cap, l⟩
  · simp [Sl.val] at *; omega
  · have : Option.map (fun x : Addr => x.add 0) (some A) = some A := by simp [Addr.add]
    simp [Sl.val, Addr.add] at *
    omega
theorem tk_rd {α : Type} {d : Kd α} {w : World} {s : Sl α} (h : d.sl.rd w s) (i : Nat) : d.sl.rd w (s.tk i) := by
  have hl : ∀ x, x ∈ (s.tk i).l → x ∈ s.l := fun x hx => List.mem_of_mem_take hx
  refine ⟨?_, ?_, fun h0 => ?_, fun x hx => h.2.2.2 x (hl x hx)⟩
  · have := h.1; simp only [Sl.tk, List.length_take]; omega
  · have := h.2.1; simp only [Sl.tk, List.length_take]; omega
  · simp only [Sl.tk, List.length_take] at h0
    obtain ⟨b, o, hA, hb, hc⟩ := h.2.2.1 (by omega)
    refine ⟨b, o, hA, hb, fun k hk j hj => ?_⟩
    simp only [Sl.tk, List.length_take] at hk
    rw [hc k (by omega) j hj]
    simp [Sl.tk]
structure FB (T : TypeId) (m : MFunc Sl) (w wr : World) : Prop where
  box : wr.heap[w.heap.size]? = some (.cells #[.int .i64 m.params, m.blocks.val] T (0, 0))
  below : Below w.heap.size w wr
theorem FB.lt {T : TypeId} {m : MFunc Sl} {w wr : World} (h : FB T m w wr) : w.heap.size < wr.heap.size := (Array.getElem?_eq_some_iff.1 h.box).1
theorem FB.go {T : TypeId} {m : MFunc Sl} {w wr w1 : World} (h : FB T m w wr) (hb : Below wr.heap.size wr w1) : FB T m w w1 :=
  ⟨(hb.block _ h.lt).trans h.box, bthen h.below hb⟩
theorem FB.c0 {T : TypeId} {m : MFunc Sl} {w wr : World} (h : FB T m w wr) : wr.cell? ⟨w.heap.size, 0, none⟩ = some (.int .i64 m.params) := by simp [World.cell?, h.box]
theorem FB.c1 {T : TypeId} {m : MFunc Sl} {w wr : World} (h : FB T m w wr) : wr.cell? ⟨w.heap.size, 1, none⟩ = some m.blocks.val := by simp [World.cell?, h.box]
/-- A boxed block in the range loop. -/
structure FX (T U : TypeId) (m : MFunc Sl) (x : MBlock Sl) (w wg wr : World) : Prop where
  fb : FB T m w wr
  box : wr.heap[wg.heap.size]? = some (.cells (kMBlock.cs x).toArray U (0, 0))
theorem FX.lt {T U : TypeId} {m : MFunc Sl} {x : MBlock Sl} {w wg wr : World} (h : FX T U m x w wg wr) : wg.heap.size < wr.heap.size := (Array.getElem?_eq_some_iff.1 h.box).1
theorem FX.go {T U : TypeId} {m : MFunc Sl} {x : MBlock Sl} {w wg wr w1 : World} (h : FX T U m x w wg wr) (hb : Below wr.heap.size wr w1) : FX T U m x w wg w1 :=
  ⟨h.fb.go hb, (hb.block _ h.lt).trans h.box⟩
theorem FX.cell {T U : TypeId} {m : MFunc Sl} {x : MBlock Sl} {w wg wr : World} (h : FX T U m x w wg wr) (k : Nat) (v : Value) (hv : (kMBlock.cs x)[k]? = some v) : wr.cell? ⟨wg.heap.size, k, none⟩ = some v := by
  simp [World.cell?, h.box, hv]
end Jq
namespace Go.Proofs.Ytjlehpgfhlkjlaa
open Go.RowKit Jq Go.Deep
theorem wrap64_of {n : Int} (h1 : -9223372036854775808 ≤ n) (h2 : n ≤ 9223372036854775807) : wrap64 n = n := by unfold wrap64; omega
theorem ins_at (x : MBlock Sl) {i : Nat} (h : i < x.ins.l.length) : x.p.ins[i]? = some (Mach.p x.ins.l[i]) := by simp [MBlock.p, h]
theorem size_le (m : MFunc Sl) (w : World) (hm : kMFunc.rd w m) (h : m.blocks.l.length ≤ 512) (k : Nat) : sizeOf_ (m.p.blocks.drop k) ≤ 144115188075856384 := by
  have h1 := sizeOf_le (m.p.blocks.drop k) (fun x hx => by
    obtain ⟨y, hy, rfl⟩ := List.mem_map.1 (show x ∈ m.blocks.l.map MBlock.p from List.mem_of_mem_drop hx)
    have hr := hm.2.2.2 y hy
    have h1 := Kd.bound (d := kPhi) hr.1
    have h2 := Kd.bound (d := kMach) hr.2.1
    simp only [MBlock.p, List.length_map]
    exact ⟨h1, h2⟩)
  have h2 : (m.p.blocks.drop k).length ≤ 512 := by simp [MFunc.p]; omega
  omega

set_option maxRecDepth 1000000 in
set_option maxHeartbeats 8000000 in
/-- 'mach.Func': what is wrong first. -/
theorem machFunc (m : MFunc Sl) (w : World) (hm : kMFunc.rd w m) (hb8 : ∀ b, b ∈ m.blocks.l → ∀ y, y ∈ b.ins.l → y.args.l.length * 8 ≤ 140737488355328) :
    Calls Try.prog 35 #[m.v] w fun e w' => e = .returned (.tuple #[.int .i64 (funcErr m.p).1, .int .i64 (funcErr m.p).2.1, .int .i64 (funcErr m.p).2.2]) ∧ Below w.heap.size w w' := by
  have hm' := Lib.hid hm
  have hb8' := Lib.hid hb8
  have hbd := Kd.bound (d := kMBlock) hm
  clear hm hb8
  go_enter Try.func35, Try.ntmps35
  go_wp2_with fail
  go_loopg [5, 20] (m.blocks.l.length) (fun g v i wr => ∃ k : Nat, k ≤ m.blocks.l.length ∧ g = m.blocks.l.length - k ∧ i = .int .i64 k ∧ FB 24 m w wr ∧ ∃ n : Int, v = .int .i64 n ∧ (m.blocks.l.length ≤ 512 → n + sizeOf_ (m.p.blocks.drop k) = sizeOf_ m.p.blocks))
  case atStart =>
    refine ⟨0, Nat.zero_le _, rfl, rfl, ⟨heap_alloc_new w _, bal (Below.refl _ _) _⟩, 0, rfl, fun _ => by simp⟩
  case round =>
    obtain ⟨k, hk, hg, rfl, HB, n, rfl, hn⟩ := hrel
    have HB' := Lib.hid HB
    have hn' := Lib.hid hn
    have hg' := Lib.hid hg
    clear HB hn hg
    by_cases hlt : k < m.blocks.l.length
    · obtain ⟨b, o, hat, hb, ⟨c0, c1, c2, c3, c4, c5, c6⟩, hrb⟩ := getMBlock 22 65 Try.underlying22 (by kernel_rfl) (kMBlock.sl.below hm'.out HB'.out.below) k hlt rfl
      have hbp := Kd.bound (d := kPhi) hrb.1
      have hbi := Kd.bound (d := kMach) hrb.2.1
      clear hrb
      go_wp2_with fail
      clear hat c0 c1 c2 c3 c4 c5 c6
      go_roundg (m.blocks.l.length - (k + 1))
      case measure => have := hg'.out; omega
      case rel =>
        refine ⟨k + 1, by omega, rfl, by go_num, HB'.out.go (bal (Below.refl _ _) _), _, rfl, fun h5 => ?_⟩
        have h1 := hn'.out h5
        have h2 := size_le m w hm'.out h5 0
        have h3 := sizeOf_ge (m.p.blocks.drop (k + 1))
        have h4 := sizeOf_ge m.p.blocks
        rw [sizeOf_at m.p.blocks k _ (mb_at m hlt)] at h1
        simp only [List.drop_zero] at h2
        have e1 : (MBlock.p m.blocks.l[k]).phis.length = m.blocks.l[k].phis.l.length := by simp [MBlock.p]
        have e2 : (MBlock.p m.blocks.l[k]).ins.length = m.blocks.l[k].ins.l.length := by simp [MBlock.p]
        rw [e1, e2] at h1
        have h6 := size_le m w hm'.out h5 (k + 1)
        rw [wrap64_of (by omega) (by omega)]
        omega
    · have hk2 : k = m.blocks.l.length := by omega
      subst hk2
      have c0 := HB'.out.c0
      have c1 := HB'.out.c1
      have hbl : m.p.blocks.length = m.blocks.l.length := by simp [MFunc.p]
      have hbl' := Lib.hid hbl
      clear hbl
      by_cases hp0 : m.params < 0
      · go_wp2_with fail
        go_ret3
        have e : funcErr m.p = (1, 0, 0) := by rw [funcErr, if_pos (show m.p.params < 0 ∨ 4 < m.p.params from Or.inl hp0)]
        exact ret3_of (by rw [e]) (by rw [e]) (by rw [e]) HB'.out.below
      have hp1 : 0 ≤ m.params := by omega
      have dn : decide (m.params < 0) = false := by simpa using hp1
      clear hp0
      by_cases hp4 : 4 < m.params
      · go_wp2_with fail
        go_ret3
        have e : funcErr m.p = (1, 0, 0) := by rw [funcErr, if_pos (show m.p.params < 0 ∨ 4 < m.p.params from Or.inr hp4)]
        exact ret3_of (by rw [e]) (by rw [e]) (by rw [e]) HB'.out.below
      have hp5 : m.params ≤ 4 := by omega
      have d4 : decide (4 < m.params) = false := by simpa using hp5
      clear hp4
      have hP := Lib.hid (show ¬ (m.p.params < 0 ∨ 4 < m.p.params) by simp only [MFunc.p]; omega)
      by_cases hz : m.blocks.l.length = 0
      · have d0 : ((m.blocks.l.length : Int) == 0) = true := by simp [hz]
        have hz' := Lib.hid hz
        clear hz
        go_wp2_with fail
        go_ret3
        have e : funcErr m.p = (14, 0, 0) := by rw [funcErr, if_neg hP.out, if_pos (by rw [hbl'.out]; exact hz'.out)]
        exact ret3_of (by rw [e]) (by rw [e]) (by rw [e]) HB'.out.below
      have d0 : ((m.blocks.l.length : Int) == 0) = false := by simpa using hz
      have hZ := Lib.hid (show ¬ m.p.blocks.length = 0 by rw [hbl'.out]; exact hz)
      have hz1 : 0 < m.blocks.l.length := by omega
      clear hz
      by_cases h512 : 512 < m.blocks.l.length
      · go_wp2_with fail
        go_ret3
        have e : funcErr m.p = (2, 0, 0) := by rw [funcErr, if_neg hP.out, if_neg hZ.out, if_pos (by rw [hbl'.out]; exact Or.inl h512)]
        exact ret3_of (by rw [e]) (by rw [e]) (by rw [e]) HB'.out.below
      have h513 : m.blocks.l.length ≤ 512 := by omega
      have hn2 : n = sizeOf_ m.p.blocks := by
        have h := hn'.out h513
        rw [List.drop_eq_nil_of_le (by rw [hbl'.out]; exact Nat.le_refl _)] at h
        simpa [sizeOf_] using h
      have d9 : decide (512 < m.blocks.l.length) = false := by simpa using h513
      clear h512
      by_cases h16 : 16384 < n
      · go_wp2_with fail
        go_ret3
        have e : funcErr m.p = (2, 0, 0) := by rw [funcErr, if_neg hP.out, if_neg hZ.out, if_pos (by rw [← hn2]; exact Or.inr h16)]
        exact ret3_of (by rw [e]) (by rw [e]) (by rw [e]) HB'.out.below
      have h17 : n ≤ 16384 := by omega
      have hS := Lib.hid (show ¬ (512 < m.p.blocks.length ∨ 16384 < sizeOf_ m.p.blocks) by rw [hbl'.out, ← hn2]; omega)
      have d16 : decide (16384 < n) = false := by simpa using h17
      clear h16 hn2 hn'
      go_wp2_with fail
      clear c0 c1 d0 dn d4 d9 d16
      go_loopg [61] (m.blocks.l.length) (fun g i wr => ∃ k : Nat, k ≤ m.blocks.l.length ∧ g = m.blocks.l.length - k ∧ i = .int .i64 k ∧ FB 24 m w wr ∧ blocksErr m.blocks.l.length k (m.p.blocks.drop k) = blocksErr m.blocks.l.length 0 m.p.blocks)
      case atStart => exact ⟨0, Nat.zero_le _, rfl, rfl, HB'.out, by simp⟩
      case round =>
        obtain ⟨wg, rfl⟩ : ∃ wg : World, wg = wr := ⟨wr, rfl⟩
        obtain ⟨k, hk, hg, rfl, HB, hbe⟩ := hrel
        have HB' := Lib.hid HB
        have hbe' := Lib.hid hbe
        have hgk' := Lib.hid hg
        clear HB hbe hg hg'
        by_cases hlt : k < m.blocks.l.length
        · obtain ⟨b, o, hat, hb, ⟨c0, c1, c2, c3, c4, c5, c6⟩, hrb⟩ := getMBlock 22 65 Try.underlying22 (by kernel_rfl) (kMBlock.sl.below hm'.out HB'.out.below) k hlt rfl
          have hrb' := Lib.hid (show kMBlock.rd w m.blocks.l[k] from hm'.out.2.2.2 _ (List.getElem_mem hlt))
          clear hrb
          go_wp2_with fail
          clear hat c0 c1 c2 c3 c4 c5 c6
          have hbp := Kd.bound (d := kPhi) hrb'.out.1
          have hbi := Kd.bound (d := kMach) hrb'.out.2.1
          go_loopg [69] (m.blocks.l[k].phis.l.length) (fun g i wr => ∃ j : Nat, j ≤ m.blocks.l[k].phis.l.length ∧ g = m.blocks.l[k].phis.l.length - j ∧ i = .int .i64 j ∧ FX 24 65 m m.blocks.l[k] w wg wr ∧ phisErr j (m.blocks.l[k].p.phis.take j) (m.blocks.l[k].p.phis.drop j) = phisErr 0 [] m.blocks.l[k].p.phis)
          case atStart => exact ⟨0, Nat.zero_le _, rfl, rfl, ⟨HB'.out.go (bal (Below.refl _ _) _), heap_alloc_new wg _⟩, by simp⟩
          case round =>
            obtain ⟨i, hi, hg, rfl, HX, hpe⟩ := hrel
            have HX' := Lib.hid HX
            have hpe' := Lib.hid hpe
            have hgi' := Lib.hid hg
            clear HX hpe hg
            by_cases hil : i < m.blocks.l[k].phis.l.length
            · obtain ⟨b3, o3, hat3, hb3, hp0, hp1, hrp⟩ := getPhi 62 93 Try.underlying62 (by kernel_rfl) (kPhi.sl.below hrb'.out.1 HX'.out.fb.below) i hil rfl
              have hrp' := Lib.hid hrp
              have htk := run_take (P := Try.prog) 62 93 2 Try.underlying62 (by kernel_rfl) m.blocks.l[k].phis i (by omega) (Kd.cap_ (d := kPhi) hrb'.out.1)
              have hS1 : ∀ W : World, Below (wr.alloc (.cells #[.int .i64 m.blocks.l[k].phis.l[i].dst, m.blocks.l[k].phis.l[i].ins.val] 93)).heap.size (wr.alloc (.cells #[.int .i64 m.blocks.l[k].phis.l[i].dst, m.blocks.l[k].phis.l[i].ins.val] 93)) W → W.cell? ⟨wr.heap.size, 0, none⟩ = some (.int .i64 m.blocks.l[k].phis.l[i].dst) ∧ W.cell? ⟨wr.heap.size, 1, none⟩ = some m.blocks.l[k].phis.l[i].ins.val ∧ W.cell? ⟨wg.heap.size, 0, none⟩ = some m.blocks.l[k].phis.val := by
                intro W hW
                have h0 := hW.cell (p := ⟨wr.heap.size, 0, none⟩) (by simp)
                have h1 := hW.cell (p := ⟨wr.heap.size, 1, none⟩) (by simp)
                exact ⟨by rw [h0]; simp, by rw [h1]; simp, ((HX'.out.go (bal (Below.refl _ _) _)).go hW).cell 0 _ rfl⟩
              have hS1' := Lib.hid hS1
              clear hS1 hrp
              have hpt' := Lib.hid (show phiErr (Phi.p m.blocks.l[k].phis.l[i]) ((m.blocks.l[k].phis.tk i).l.map Phi.p) = phiErr (Phi.p m.blocks.l[k].phis.l[i]) (m.blocks.l[k].p.phis.take i) by simp only [Sl.tk, MBlock.p, List.map_take])
              have hph' := Lib.hid (ph_at m.blocks.l[k] hil)
              go_wp2_with fail
              clear hat3 hp0 hp1
              obtain ⟨pe, hpe2⟩ : ∃ pe, phiErr (Phi.p m.blocks.l[k].phis.l[i]) (m.blocks.l[k].p.phis.take i) = pe := ⟨_, rfl⟩
              rw [hpe2] at hpt'
              have hpe2' := Lib.hid hpe2
              clear hpe2
              have hcx0 : wr.cell? ⟨wg.heap.size, 0, none⟩ = some m.blocks.l[k].phis.val := HX'.out.cell 0 _ rfl
              have hgl : wg.heap.size < wr.heap.size := HX'.out.lt
              by_cases hp0 : pe = 0
              · subst hp0
                go_region_held3 (fun w' => w'.cell? ⟨wr.heap.size, 0, none⟩ = some (.int .i64 m.blocks.l[k].phis.l[i].dst) ∧ w'.cell? ⟨wr.heap.size, 1, none⟩ = some m.blocks.l[k].phis.l[i].ins.val ∧ w'.cell? ⟨wg.heap.size, 0, none⟩ = some m.blocks.l[k].phis.val) (first | go_keep | exact ⟨by assumption, by assumption, by assumption⟩) (first | (go_at_call 72; refine (machPhi m.blocks.l[k].phis.l[i] (m.blocks.l[k].phis.tk i) _ (kPhi.below hrp'.out (by repeat (first | exact Below.refl _ _ | refine bal ?_ _ | refine Below.drew ?_))) (kPhi.sl.below (tk_rd (kPhi.sl.below hrb'.out.1 HX'.out.fb.below) i) (by repeat (first | exact Below.refl _ _ | refine bal ?_ _ | refine Below.drew ?_)))).mono ?_; rintro e w1 ⟨rfl, hb1⟩; rw [hpt'.out]; have hB := Lib.hid (show Below wr.heap.size wr w1 from by refine bthen ?_ hb1; repeat (first | exact Below.refl _ _ | refine bal ?_ _ | refine Below.drew ?_)); obtain ⟨hS2, hS3, hS4⟩ := hS1'.out w1 (by refine bthen ?_ hb1; repeat (first | exact Below.refl _ _ | refine Below.drew ?_)); clear hb1))
                go_wp2_with fail
                go_roundg (m.blocks.l[k].phis.l.length - (i + 1))
                case measure => have := hgi'.out; omega
                case rel =>
                  exact ⟨i + 1, by omega, rfl, by go_num, HX'.out.go hB.out, phisErr_yes _ i _ hph'.out hpe'.out hpe2'.out⟩
              · have dp : (pe == 0) = false := by simpa using hp0
                go_region_held3 (fun w' => w'.cell? ⟨wr.heap.size, 0, none⟩ = some (.int .i64 m.blocks.l[k].phis.l[i].dst) ∧ w'.cell? ⟨wr.heap.size, 1, none⟩ = some m.blocks.l[k].phis.l[i].ins.val ∧ w'.cell? ⟨wg.heap.size, 0, none⟩ = some m.blocks.l[k].phis.val) (first | go_keep | exact ⟨by assumption, by assumption, by assumption⟩) (first | (go_at_call 72; refine (machPhi m.blocks.l[k].phis.l[i] (m.blocks.l[k].phis.tk i) _ (kPhi.below hrp'.out (by repeat (first | exact Below.refl _ _ | refine bal ?_ _ | refine Below.drew ?_))) (kPhi.sl.below (tk_rd (kPhi.sl.below hrb'.out.1 HX'.out.fb.below) i) (by repeat (first | exact Below.refl _ _ | refine bal ?_ _ | refine Below.drew ?_)))).mono ?_; rintro e w1 ⟨rfl, hb1⟩; rw [hpt'.out]; have hB := Lib.hid (show Below wr.heap.size wr w1 from by refine bthen ?_ hb1; repeat (first | exact Below.refl _ _ | refine bal ?_ _ | refine Below.drew ?_)); obtain ⟨hS2, hS3, hS4⟩ := hS1'.out w1 (by refine bthen ?_ hb1; repeat (first | exact Below.refl _ _ | refine Below.drew ?_)); clear hb1))
                have hp0' := Lib.hid hp0
                clear hp0
                go_wp2_with fail
                go_ret3
                have e := funcErr_block m.p hP.out hZ.out hS.out _ (by rw [hbl'.out]; exact blocksErr_no _ _ k _ (mb_at m hlt) hbe'.out _ (blockErr_phi _ _ _ (phisErr_no _ i _ hph'.out hpe'.out (by rw [hpe2'.out]; exact hp0'.out))))
                rw [hpe2'.out] at e
                exact ret3_of (by rw [e]) (by rw [e]) (by rw [e]) (bthen HX'.out.fb.below hB.out)
            · have hpn := Lib.hid (phisErr_end _ i (by simp only [MBlock.p, List.length_map]; omega) hpe'.out)
              have cx := HX'.out.cell 1 _ rfl
              go_wp2_with fail
              clear cx
              go_loopg [90] (m.blocks.l[k].ins.l.length) (fun g i wr => ∃ j : Nat, j ≤ m.blocks.l[k].ins.l.length ∧ g = m.blocks.l[k].ins.l.length - j ∧ i = .int .i64 j ∧ FX 24 65 m m.blocks.l[k] w wg wr ∧ inssErr j (m.blocks.l[k].p.ins.drop j) = inssErr 0 m.blocks.l[k].p.ins)
              case atStart => exact ⟨0, Nat.zero_le _, rfl, rfl, HX'.out, by simp⟩
              case round =>
                obtain ⟨i2, hi2, hg, rfl, HX2, hie⟩ := hrel
                have HX2' := Lib.hid HX2
                have hie' := Lib.hid hie
                have hgi2' := Lib.hid hg
                clear HX2 hie hg
                by_cases hil2 : i2 < m.blocks.l[k].ins.l.length
                · obtain ⟨b3, o3, hat3, hb3, ⟨d0, d1, d2, d3, d4, d5, d6, d7⟩, hrm⟩ := getMach 63 40 Try.underlying63 (by kernel_rfl) (kMach.sl.below hrb'.out.2.1 HX2'.out.fb.below) i2 hil2 rfl
                  have hrm' := Lib.hid hrm
                  have h8' := Lib.hid (hb8'.out _ (List.getElem_mem hlt) _ (List.getElem_mem hil2))
                  have hia' := Lib.hid (ins_at m.blocks.l[k] hil2)
                  clear hrm
                  go_wp2_with fail
                  clear hat3 d0 d1 d2 d3 d4 d5 d6 d7
                  refine (machIns m.blocks.l[k].ins.l[i2] _ (kMach.below hrm'.out (bal (Below.refl _ _) _)) h8'.out).mono ?_
                  rintro e w1 ⟨rfl, hb1⟩
                  have hB := Lib.hid (show Below wr.heap.size wr w1 from bthen (bal (Below.refl _ _) _) hb1)
                  clear hb1
                  obtain ⟨pe, hpe2⟩ : ∃ pe, insErr (Mach.p m.blocks.l[k].ins.l[i2]) = pe := ⟨_, rfl⟩
                  rw [hpe2]
                  have hpe2' := Lib.hid hpe2
                  clear hpe2
                  by_cases hp0 : pe = 0
                  · subst hp0
                    go_wp2_with fail
                    go_roundg (m.blocks.l[k].ins.l.length - (i2 + 1))
                    case measure => have := hgi2'.out; omega
                    case rel =>
                      exact ⟨i2 + 1, by omega, rfl, by go_num, HX2'.out.go hB.out, inssErr_yes _ i2 _ hia'.out hie'.out hpe2'.out⟩
                  · have dp : (pe == 0) = false := by simpa using hp0
                    have hp0' := Lib.hid hp0
                    clear hp0
                    go_wp2_with fail
                    go_ret3
                    have e := funcErr_block m.p hP.out hZ.out hS.out _ (by rw [hbl'.out]; exact blocksErr_no _ _ k _ (mb_at m hlt) hbe'.out _ (blockErr_ins _ _ _ hpn.out (inssErr_no _ i2 _ hia'.out hie'.out (by rw [hpe2'.out]; exact hp0'.out))))
                    rw [hpe2'.out] at e
                    exact ret3_of (by rw [e]) (by rw [e]) (by rw [e]) (bthen HX2'.out.fb.below hB.out)
                · have hin := Lib.hid (inssErr_end _ i2 (by simp only [MBlock.p, List.length_map]; omega) hie'.out)
                  have cx2 := HX2'.out.cell 2 _ rfl
                  have cx3 := HX2'.out.cell 3 _ rfl
                  have cx4 := HX2'.out.cell 4 _ rfl
                  have cx5 := HX2'.out.cell 5 _ rfl
                  have cx6 := HX2'.out.cell 6 _ rfl
                  have cb := HX2'.out.fb.c1
                  go_wp2_with fail
                  clear cx2 cx3 cx4 cx5 cx6 cb
                  refine (machEnd m.blocks.l[k].fin _ _ (kEnd.below hrb'.out.2.2 HX2'.out.fb.below)).mono ?_
                  rintro e w1 ⟨rfl, hb1⟩
                  have HX3 := Lib.hid (HX2'.out.go hb1)
                  clear hb1
                  obtain ⟨pe, hpe2⟩ : ∃ pe, endErr (End.p m.blocks.l[k].fin) m.blocks.l.length = pe := ⟨_, rfl⟩
                  rw [hpe2]
                  have hpe2' := Lib.hid hpe2
                  clear hpe2
                  by_cases hp0 : pe = 0
                  · subst hp0
                    go_wp2_with fail
                    go_roundg (m.blocks.l.length - (k + 1))
                    case measure => have := hgk'.out; omega
                    case rel =>
                      exact ⟨k + 1, by omega, rfl, by go_num, HX3.out.fb, blocksErr_yes _ _ k _ (mb_at m hlt) hbe'.out (blockErr_none _ _ hpn.out hin.out hpe2'.out)⟩
                  · have dp : (pe == 0) = false := by simpa using hp0
                    have hp0' := Lib.hid hp0
                    have cx1 := HX3.out.cell 1 _ rfl
                    clear hp0
                    go_wp2_with fail
                    go_quiet (fail)
                    go_wp2_with fail
                    go_ret3
                    have e := funcErr_block m.p hP.out hZ.out hS.out _ (by rw [hbl'.out]; exact blocksErr_no _ _ k _ (mb_at m hlt) hbe'.out _ (blockErr_end _ _ hpn.out hin.out (by show endErr (End.p m.blocks.l[k].fin) _ ≠ 0; rw [hpe2'.out]; exact hp0'.out)))
                    rw [show endErr (MBlock.p m.blocks.l[k]).fin m.blocks.l.length = pe from hpe2'.out, show ((MBlock.p m.blocks.l[k]).ins.length : Int) = m.blocks.l[k].ins.l.length by simp [MBlock.p]] at e
                    exact ret3_of (by rw [e]) (by rw [e]) (by rw [e]) (bthen HX3.out.fb.below (bdn _ _))
        · have hbn := blocksErr_end _ _ k (by rw [hbl'.out]; omega) hbe'.out
          have hbn' := Lib.hid hbn
          have c0 := HB'.out.c0
          have c1 := HB'.out.c1
          clear hbn
          go_wp2_with fail
          clear c0 c1
          refine (machGraph m _ (kMFunc.below hm'.out HB'.out.below) hz1 h513 ?_).mono ?_
          · intro b hb t ht
            have h := blocksErr_ok _ _ hbn'.out (MBlock.p b) (List.mem_map_of_mem hb)
            exact endErr_to (blockErr_to h) t ht
          rintro e w1 ⟨rfl, hb1⟩
          have hB := Lib.hid (bthen HB'.out.below hb1)
          clear hb1
          go_wp2_with fail
          go_ret3
          have e := funcErr_graph m.p hP.out hZ.out hS.out (by rw [hbl'.out]; exact hbn'.out)
          exact ret3_of (by rw [e]) (by rw [e]) (by rw [e]) hB.out
end Go.Proofs.Ytjlehpgfhlkjlaa
