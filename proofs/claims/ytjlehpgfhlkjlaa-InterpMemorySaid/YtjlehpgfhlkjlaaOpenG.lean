/-
  What a caller hands in reads as data: so memory bears it as our kinds say. No program in sight.
-/
import Derived.Test.YtjlehpgfhlkjlaaCore
import Derived.ProofKit
import Derived.OpenShut
import Derived.Below
import Derived.Carry
import Derived.SizedLaws
set_option linter.all false
namespace Jq
open Go Go.RowKit Go.ChangeShapes

/-- Whatever reads as type t is one of a kind, of which 'ok' holds. -/
def Opens {α : Type} (P : Program) (d : Kd α) (t : TypeId) (ok : α → Prop) : Prop :=
  ∀ {H : Type} (enc : TypeId × Value → H) (w : World) (fuel : Nat) (cs : List Value) (x : DataW H × List MemPlace),
    DataW.trod enc P w 0 (fun _ => true) true fuel t cs = some x → (∀ n, n ∈ x.1.weights P t → n ≤ reachBytes) → ∃ y : α, cs = d.cs y ∧ d.rd w y ∧ ok y

theorem pick {α : Type} {p : Nat → α → Prop} : ∀ (n : Nat), (∀ i, i < n → ∃ y, p i y) → ∃ l : List α, l.length = n ∧ ∀ i (h : i < l.length), p i l[i]
  | 0, _ => ⟨[], rfl, fun i h => absurd h (by simp)⟩
  | n + 1, h => by
    obtain ⟨l, hl, hp⟩ := pick n fun i hi => h i (by omega)
    obtain ⟨y, hy⟩ := h n (by omega)
    refine ⟨l ++ [y], by simp [hl], fun i hi => ?_⟩
    by_cases hin : i < l.length
    · rw [List.getElem_append_left hin]; exact hp i hin
    · have : i = l.length := by simp at hi; omega
      subst this
      simp
      rw [hl]
      exact hy

theorem mem_weightsAll {H : Type} {P : Program} {e : TypeId} {n : Nat} : ∀ {l : List (DataW H)} {d : DataW H}, d ∈ l → n ∈ d.weights P e → n ∈ DataW.weightsAll P e l
  | [], _, h, _ => absurd h (by simp)
  | c :: l, d, h, hn => by
    rw [DataW.weightsAll, List.mem_append]
    rcases List.mem_cons.1 h with rfl | h
    · exact .inl hn
    · exact .inr (mem_weightsAll h hn)
/-- A slice, by its elements. -/
theorem opens_slice {α : Type} {P : Program} {d : Kd α} {t e : TypeId} {ok : α → Prop} (ht : P.underlying t = some (.slice e)) (hsz : P.cellsOf e = d.sz) (hpos : 0 < d.sz) (bytes : Nat) (hby : P.bytesOf e = bytes) (hby1 : 0 < bytes) (h : Opens P d e ok) :
    Opens P d.sl t fun s => s.l.length * bytes ≤ 140737488351232 ∧ ∀ x, x ∈ s.l → ok x := by
  intro H enc w fuel cs x hx hw
  rcases DataW.trod_slice ht hx with ⟨rfl, rfl⟩ | ⟨a, len, cap, elems, rest, n, _, rfl, rfl, _, hl, hm, hlen, hel, _, _⟩
  · exact ⟨nilSl, rfl, Kd.nil_rd d w, by simp, fun y hy => absurd hy (by simp [nilSl])⟩
  · have hw0 : (elems.length + rest.length) * bytes ≤ 140737488351232 := by
      have := hw ((elems.length + rest.length) * P.bytesOf e) (by simp [DataW.weights, ht])
      rw [hby] at this
      simpa [reachBytes] using this
    have hlb : len * bytes ≤ 140737488351232 := Nat.le_trans (Nat.mul_le_mul_right _ (by omega)) hw0
    obtain ⟨l, hll, hlp⟩ := pick (p := fun i y => w.cells? 0 (a.add (i * d.sz)) d.sz = some (d.cs y) ∧ d.rd w y ∧ ok y) len (fun i hi => by
      have hi' : i < elems.length := by omega
      have h1 := hel i hi
      rw [hsz, List.getElem?_eq_getElem hi'] at h1
      obtain ⟨c, hc, hc2⟩ := Option.bind_eq_some_iff.1 h1
      obtain ⟨y, rfl, hy, hok⟩ := h enc w n c elems[i] hc2 fun m hm => hw m (by
        simp only [DataW.weights, List.map_map, List.length_map, List.mem_cons, List.mem_append, ht]
        exact .inr (.inl (mem_weightsAll (List.mem_map_of_mem (List.getElem_mem hi')) hm)))
      exact ⟨y, hc, hy, hok⟩)
    subst hll
    have hlb1 : l.length ≤ 140737488355328 := by
      have : l.length ≤ l.length * bytes := Nat.le_mul_of_pos_right _ hby1
      omega
    refine ⟨⟨some a, cap, l⟩, rfl, ⟨hl, hlb1, fun h0 => ?_, fun y hy => ?_⟩, hlb, fun y hy => ?_⟩
    · obtain ⟨b, o, spot⟩ := a
      have h1 := (World.cells?_some (hlp 0 h0).1).2.2 0 hpos
      have hs : spot = none := by
        rw [List.getElem?_eq_getElem (by rw [d.len]; exact hpos)] at h1
        simpa [Addr.add] using World.cell?_spot h1
      subst hs
      refine ⟨b, o, rfl, ?_, fun i hi j hj => ?_⟩
      · have := World.cells?_block (hlp 0 h0).1 hpos
        rwa [WideShapes.add_plain] at this
      · have h2 := (World.cells?_some (hlp i hi).1).2.2 j hj
        rw [← h2]
        simp only [WideShapes.add_plain]
        congr 2
        omega
    · obtain ⟨i, hi, rfl⟩ := List.mem_iff_getElem.1 hy
      exact (hlp i hi).2.1
    · obtain ⟨i, hi, rfl⟩ := List.mem_iff_getElem.1 hy
      exact (hlp i hi).2.2
def Fits64 (n : Int) : Prop := -9223372036854775808 ≤ n ∧ n ≤ 9223372036854775807
def Fits32 (n : Int) : Prop := -2147483648 ≤ n ∧ n ≤ 2147483647
theorem fits64_of {n : Int} (h : (Lit.int .i64 n).wf = true) : Fits64 n := by
  exact Go.bounds_i64 h
theorem fits32_of {n : Int} (h : (Lit.int .i32 n).wf = true) : Fits32 n := by
  exact Go.bounds_i32 h
theorem opens_int {P : Program} {t : TypeId} (ht : P.underlying t = some (.int .i64)) : Opens P kI t Fits64 := by
  intro H enc w fuel cs x hx hw
  obtain ⟨n, rfl, _, hwf⟩ := DataW.trod_int ht hx
  exact ⟨n, rfl, trivial, fits64_of hwf⟩
theorem opens_word {P : Program} {t : TypeId} (ht : P.underlying t = some (.int .i32)) : Opens P kW t Fits32 := by
  intro H enc w fuel cs x hx hw
  obtain ⟨n, rfl, _, hwf⟩ := DataW.trod_int ht hx
  exact ⟨n, rfl, trivial, fits32_of hwf⟩

/-- ARGS, all at once: what read before the call reads so behind it. -/
theorem trodAll_keep {H : Type} {enc : TypeId × Value → H} {P : Program} (hl : laidOutB P = true) {W W' : World} (hb : Below W.heap.size W W') :
    ∀ (ts : List TypeId) (vs : List Value) (ds : List (DataW H)) (ps : List MemPlace), (∀ t, t ∈ ts → P.readableRec t = true ∧ t < P.types.size) → DataW.TrodAll enc P W 0 (fun _ => true) true ts vs ds ps →
      DataW.TrodAll enc P W' 0 (fun b => decide (b < W.heap.size)) true ts vs ds ps
  | [], [], [], ps, _, h => h
  | t :: ts, v :: vs, d :: ds, ps, hr, h => by
    obtain ⟨p, q, h1, h2, h3⟩ := h
    refine ⟨p, q, Below.trod hl (hr t (by simp)).1 (hr t (by simp)).2 h1 hb ?_, trodAll_keep hl hb ts vs ds q (fun u hu => hr u (by simp [hu])) h2, h3⟩
    obtain ⟨m, hm⟩ := h1
    exact DataW.trod_lt m _ _ _ hm
  | [], [], _ :: _, _, _, h => h.elim
  | [], _ :: _, _, _, _, h => by cases h
  | _ :: _, [], _, _, _, h => by cases h
  | _ :: _, _ :: _, [], _, _, h => by cases h
theorem mem_each {H : Type} {P : Program} {n : Nat} : ∀ {ts : List TypeId} {ds : List (DataW H)} {i : Nat} {t : TypeId} {d : DataW H}, ts[i]? = some t → ds[i]? = some d → n ∈ d.weights P t → n ∈ DataW.weightsEach P ts ds
  | [], _, i, t, d, h, _, _ => by simp at h
  | _ :: _, [], i, t, d, _, h, _ => by simp at h
  | u :: ts, c :: ds, 0, t, d, h1, h2, h3 => by
    simp at h1 h2
    subst h1 h2
    rw [DataW.weightsEach, List.mem_append]
    exact .inl h3
  | u :: ts, c :: ds, i + 1, t, d, h1, h2, h3 => by
    rw [DataW.weightsEach, List.mem_append]
    exact .inr (mem_each (by simpa using h1) (by simpa using h2) h3)
/-- A struct, by a field. -/
theorem opens_struct {H : Type} {enc : TypeId × Value → H} {P : Program} {w : World} {t : TypeId} {fs : Array Field} {fuel : Nat} {cs : List Value} {x : DataW H × List MemPlace} (ht : P.underlying t = some (.struct fs))
    (hx : DataW.trod enc P w 0 (fun _ => true) true fuel t cs = some x) (hw : ∀ n, n ∈ x.1.weights P t → n ≤ reachBytes) :
    cs.length = P.cellsOf t ∧ ∀ (i : Nat) (f : Field) {α : Type} (d : Kd α) (ok : α → Prop) (o c : Nat), fs[i]? = some f → f.offset = o → P.cellsOf f.type = c → Opens P d f.type ok → ∃ y, (cs.drop o).take c = d.cs y ∧ d.rd w y ∧ ok y := by
  obtain ⟨xs, n, _, rfl, hl, hlen, hf⟩ := DataW.trod_struct ht hx
  refine ⟨hl, fun i f α d ok o c hi ho hc hO => ?_⟩
  subst ho hc
  have h1 := hf i f hi
  have hlt : i < xs.length := by
    have := (Array.getElem?_eq_some_iff.1 hi).1
    omega
  rw [List.getElem?_eq_getElem hlt] at h1
  refine hO enc w n _ xs[i] h1 fun m hm => hw m ?_
  simp only [DataW.weights, ht]
  refine mem_each (i := i) (t := f.type) (d := xs[i].1) ?_ ?_ hm
  · obtain ⟨h2, h3⟩ := Array.getElem?_eq_some_iff.1 hi
    simp [h2, h3]
  · simp [hlt]
/-- An argument that is a struct (or an array) of a kind. -/
theorem arg_agg {α : Type} {H : Type} {enc : TypeId × Value → H} {P : Program} {w : World} {d : Kd α} {t : TypeId} {ok : α → Prop} (hO : Opens P d t ok) {cs : Array Value} {x : DataW H} {ps : List MemPlace} (h : DataW.Trod enc P w 0 (fun _ => true) true t (.agg cs) x ps)
    (hw : ∀ n, n ∈ x.weights P t → n ≤ reachBytes) : ∃ y, cs = (d.cs y).toArray ∧ d.rd w y ∧ ok y := by
  obtain ⟨fuel, hf⟩ := h
  obtain ⟨y, hy, h1, h2⟩ := hO enc w fuel _ _ hf hw
  refine ⟨y, ?_, h1, h2⟩
  have : (Value.agg cs).cells.toList = cs.toList := rfl
  rw [this] at hy
  rw [← hy]
/-- One that is of one cell. -/
theorem arg_one {α : Type} {H : Type} {enc : TypeId × Value → H} {P : Program} {w : World} {d : Kd α} {t : TypeId} {ok : α → Prop} (hO : Opens P d t ok) {v : Value} (hv : v.cells = #[v]) {x : DataW H} {ps : List MemPlace} (h : DataW.Trod enc P w 0 (fun _ => true) true t v x ps)
    (hw : ∀ n, n ∈ x.weights P t → n ≤ reachBytes) : ∃ y, [v] = d.cs y ∧ d.rd w y ∧ ok y := by
  obtain ⟨fuel, hf⟩ := h
  obtain ⟨y, hy, h1, h2⟩ := hO enc w fuel _ _ hf hw
  refine ⟨y, ?_, h1, h2⟩
  rw [hv] at hy
  exact hy
theorem okWide_array {P : Program} {w : World} {r : Reach} {base : Nat} {t n e : Nat} {v : Value} (ht : P.underlying t = some (.array n e)) (h : Value.okWide P w r base t v) : ∃ cs, v = .agg cs ∧ cs.size = P.cellsOf t := by
  simp only [Value.okWide, ht] at h
  obtain ⟨cs, h1, h2, _⟩ := h
  exact ⟨cs, h1, h2⟩
/-- A row of words of a fixed length, by value. -/
def kRow (n : Nat) : Kd { l : List Int // l.length = n } where
  sz := n
  cs x := x.1.map (.int .i32)
  fp _ := []
  rd _ _ := True
  len x := by simp [x.2]
  mv _ _ := trivial
  lt _ k hk := by simp at hk
/-- Rows in a row. -/
def kRows (m n : Nat) : Kd { l : List Int // l.length = m * n } := kRow (m * n)
theorem opens_array {α : Type} {P : Program} {d : Kd α} {t e n : TypeId} {ok : α → Prop} (ht : P.underlying t = some (.array n e)) (hsz : P.cellsOf e = d.sz) (h : Opens P d e ok) {H : Type} (enc : TypeId × Value → H) (w : World) (fuel : Nat) (cs : List Value) (x : DataW H × List MemPlace)
    (hx : DataW.trod enc P w 0 (fun _ => true) true fuel t cs = some x) (hw : ∀ n, n ∈ x.1.weights P t → n ≤ reachBytes) : cs.length = P.cellsOf t ∧ ∃ l : List α, l.length = n ∧ ∀ i (hi : i < l.length), (cs.drop (i * d.sz)).take d.sz = d.cs l[i] ∧ d.rd w l[i] ∧ ok l[i] := by
  obtain ⟨xs, m, _, rfl, hl, hlen, hf⟩ := DataW.trod_array ht hx
  refine ⟨hl, pick (p := fun i y => (cs.drop (i * d.sz)).take d.sz = d.cs y ∧ d.rd w y ∧ ok y) n fun i hi => ?_⟩
  have hlt : i < xs.length := by omega
  have h1 := hf i hi
  rw [hsz, List.getElem?_eq_getElem hlt] at h1
  refine h enc w m _ xs[i] h1 fun k hk => hw k ?_
  simp only [DataW.weights, ht]
  exact mem_weightsAll (List.mem_map_of_mem (List.getElem_mem hlt)) hk
end Jq
