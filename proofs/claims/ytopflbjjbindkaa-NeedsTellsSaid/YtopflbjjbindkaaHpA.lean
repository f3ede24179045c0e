/- Arguments, read as lists; the row of a law out of its contract. -/
import Derived.Test.YtopflbjjbindkaaHpL
import Derived.ProofKit
import Derived.OpenShut
import Derived.ShutString
import Derived.ChangeOld
import Derived.Below
import Derived.Carry
import Derived.SizedLaws
import Derived.Deep.Slices
set_option linter.unusedVariables false
set_option linter.unusedSimpArgs false
namespace Go.Hp
open Go.ChangeShapes Go.WideShapes Go.ChangeAt Go.RowKit Go.Deep

section
variable {H : Type} {enc : TypeId × Value → H} {P : Program} {W : World}
/-- Cells that read as a datum, no part of it too great. -/
def Rd (enc : TypeId × Value → H) (P : Program) (W : World) (t : TypeId) (cs : List Value) : Prop :=
  ∃ (n : Nat) (y : DataW H × List MemPlace), DataW.trod enc P W 0 (fun _ => true) true n t cs = some y ∧ ∀ m ∈ DataW.weights P t y.1, m ≤ reachBytes
theorem Rd.int {t : TypeId} {k : IntKind} (hu : P.underlying t = some (.int k)) {cs : List Value} (h : Rd enc P W t cs) : ∃ n, cs = [.int k n] ∧ (Lit.int k n).wf = true := by
  obtain ⟨n, y, h1, _⟩ := h
  obtain ⟨m, h2, _, h3⟩ := DataW.trod_int hu h1
  exact ⟨m, h2, h3⟩
theorem Rd.i64 {t : TypeId} (hu : P.underlying t = some (.int .i64)) {cs : List Value} (h : Rd enc P W t cs) : ∃ n : Int, cs = [.int .i64 n] ∧ -9223372036854775808 ≤ n ∧ n ≤ 9223372036854775807 := by
  obtain ⟨n, h1, h2⟩ := h.int hu
  refine ⟨n, h1, ?_⟩
  have e1 : IntKind.i64.min = -9223372036854775808 := by decide
  have e2 : IntKind.i64.max = 9223372036854775807 := by decide
  simp [Lit.wf] at h2
  omega
theorem Rd.u8 {t : TypeId} (hu : P.underlying t = some (.int .u8)) {cs : List Value} (h : Rd enc P W t cs) : ∃ n : UInt8, cs = [.int .u8 (n.toNat : Int)] := by
  obtain ⟨n, h1, h2⟩ := h.int hu
  have e1 : IntKind.u8.min = 0 := by decide
  have e2 : IntKind.u8.max = 255 := by decide
  simp [Lit.wf] at h2
  refine ⟨UInt8.ofNat n.toNat, ?_⟩
  rw [h1]
  have : (UInt8.ofNat n.toNat).toNat = n.toNat := by simp; omega
  rw [this]
  congr 2
  omega
theorem Rd.bool {t : TypeId} (hu : P.underlying t = some .bool) {cs : List Value} (h : Rd enc P W t cs) : ∃ b, cs = [.bool b] := by
  obtain ⟨n, y, h1, _⟩ := h
  obtain ⟨m, h2, _⟩ := DataW.trod_bool hu h1
  exact ⟨m, h2⟩
theorem Rd.string {t : TypeId} (hu : P.underlying t = some .string) {cs : List Value} (h : Rd enc P W t cs) : ∃ l, cs = [str l] ∧ l.length ≤ reachBytes := by
  obtain ⟨n, y, h1, hw⟩ := h
  obtain ⟨s, h2, h3, _⟩ := DataW.trod_string hu h1
  refine ⟨s.data.toList, by rw [h2, str_eq], ?_⟩
  rw [h3] at hw
  exact hw _ (by simp [DataW.weights])
theorem mem_weightsEach : ∀ (ts : List TypeId) (ds : List (DataW H)) (j : Nat) (t : TypeId) (d : DataW H) (m : Nat), ts[j]? = some t → ds[j]? = some d → m ∈ DataW.weights P t d → m ∈ DataW.weightsEach P ts ds
  | [], _, _, _, _, _, h, _, _ => by simp at h
  | _ :: _, [], _, _, _, _, _, h, _ => by simp at h
  | u :: ts, e :: ds, 0, t, d, m, h1, h2, h3 => by
    simp at h1 h2
    subst h1 h2
    simp [DataW.weightsEach, h3]
  | u :: ts, e :: ds, j + 1, t, d, m, h1, h2, h3 => by
    simp only [DataW.weightsEach, List.mem_append]
    exact .inr (mem_weightsEach ts ds j t d m (by simpa using h1) (by simpa using h2) h3)
theorem mem_weightsAll (e : TypeId) : ∀ (ds : List (DataW H)) (d : DataW H) (m : Nat), d ∈ ds → m ∈ DataW.weights P e d → m ∈ DataW.weightsAll P e ds
  | [], _, _, h, _ => by cases h
  | x :: ds, d, m, h1, h2 => by
    simp only [DataW.weightsAll, List.mem_append]
    rcases List.mem_cons.1 h1 with rfl | h1
    · exact .inl h2
    · exact .inr (mem_weightsAll e ds d m h1 h2)
theorem Rd.size {t : TypeId} {fs : Array Field} (hu : P.underlying t = some (.struct fs)) {cs : List Value} (h : Rd enc P W t cs) : cs.length = P.cellsOf t := by
  obtain ⟨n, y, h1, hw⟩ := h
  obtain ⟨xs, m, _, h2, h3, h4, h5⟩ := DataW.trod_struct hu h1
  exact h3
theorem Rd.field {t : TypeId} {fs : Array Field} (hu : P.underlying t = some (.struct fs)) {cs : List Value} (h : Rd enc P W t cs) {j : Nat} {f : Field} (hf : fs[j]? = some f) : Rd enc P W f.type ((cs.drop f.offset).take (P.cellsOf f.type)) := by
  obtain ⟨n, y, h1, hw⟩ := h
  obtain ⟨xs, m, _, h2, h3, h4, h5⟩ := DataW.trod_struct hu h1
  have hj : j < xs.length := by rw [h4]; exact (Array.getElem?_eq_some_iff.1 hf).1
  have h6 := h5 j f hf
  rw [List.getElem?_eq_getElem hj] at h6
  refine ⟨m, xs[j], h6, fun q hq => hw q ?_⟩
  rw [h2]
  simp only [DataW.weights, hu]
  exact mem_weightsEach _ _ j f.type xs[j].1 q (by simp [hf]) (by simp [List.getElem?_eq_getElem hj]) hq
theorem Rd.part {t : TypeId} {fs : Array Field} (hu : P.underlying t = some (.struct fs)) {cs : List Value} (h : Rd enc P W t cs) (j ft off : Nat) {c : Nat} (hf : (fs[j]?).map (fun f => (f.type, f.offset)) = some (ft, off)) (hc : P.cellsOf ft = c) : Rd enc P W ft ((cs.drop off).take c) := by
  cases hi : fs[j]? with
  | none => rw [hi] at hf; cases hf
  | some f =>
    rw [hi] at hf
    simp only [Option.map_some, Option.some.injEq, Prod.mk.injEq] at hf
    obtain ⟨rfl, rfl⟩ := hf
    rw [← hc]
    exact h.field hu hi
/-- Cells from an address on. -/
def RowAt (h : Heap) (b o : Nat) (cs : List Value) : Prop := ∀ j u, cs[j]? = some u → cellH h b (o + j) = some u
theorem cell_spot {w : World} {a : Addr} {v : Value} (h : w.cell? a = some v) : a = ⟨a.block, a.off, none⟩ := by
  unfold World.cell? at h
  split at h
  · split at h
    · cases h
    · rename_i hs
      obtain ⟨b, o, s⟩ := a
      cases s <;> simp_all
  · cases h
theorem Rd.slice {t e : TypeId} (hu : P.underlying t = some (.slice e)) {c : Nat} (hC : P.cellsOf e = c) (hc : 0 < c) {cs : List Value} (h : Rd enc P W t cs) :
    ∃ A len cap, cs = [.slice A len cap] ∧ len * P.bytesOf e ≤ reachBytes ∧ len ≤ cap ∧ (cap = 0 ∨ ∃ b o, A = some ⟨b, o, none⟩ ∧ ∀ i, i < len → ∃ cs', cs'.length = c ∧ RowAt W.heap b (o + i * c) cs' ∧ Rd enc P W e cs') := by
  obtain ⟨n, y, h1, hw⟩ := h
  rcases open_slice hu h1 with ⟨rfl, _⟩ | ⟨a, len, cap, m, n', D, Pl, rfl, hb, hl, hm, hmm, rfl, hx⟩
  · exact ⟨none, 0, 0, rfl, by simp, Nat.le_refl _, .inl rfl⟩
  · simp only [if_true] at hmm
    subst hmm
    simp only [DataW.weights, hu, List.length_map, List.length_range, List.mem_cons, List.mem_append] at hw
    refine ⟨some a, len, m, rfl, ?_, hl, ?_⟩
    · have := hw _ (.inl rfl)
      have h2 : len * P.bytesOf e ≤ (len + (m - len)) * P.bytesOf e := Nat.mul_le_mul_right _ (by omega)
      omega
    · rcases Nat.eq_zero_or_pos m with h0 | h0
      · exact .inl h0
      right
      rw [hC] at hx
      obtain ⟨cs0, q1, _⟩ := hx 0 h0
      obtain ⟨_, q2, q3⟩ := World.cells?_some q1
      have q4 := q3 0 hc
      rw [List.getElem?_eq_getElem (by omega)] at q4
      simp only [Nat.zero_mul] at q4
      have z : ∀ a : Addr, a.add 0 = a := fun a => by simp [Addr.add]
      rw [z, z] at q4
      have hs := cell_spot q4
      refine ⟨a.block, a.off, by rw [← hs], fun i hi => ?_⟩
      obtain ⟨cs', r1, r2⟩ := hx i (by omega)
      obtain ⟨_, r3, r4⟩ := World.cells?_some r1
      refine ⟨cs', r3, fun j u hj => ?_, n', _, r2, fun q hq => hw q ?_⟩
      · have hjl : j < c := by rw [← r3]; exact (List.getElem?_eq_some_iff.1 hj).1
        have r5 := r4 j hjl
        rw [hj, hs, addr_add, addr_add, cell_world] at r5
        exact r5
      · right; left
        exact mem_weightsAll e _ _ _ (List.mem_map.2 ⟨i, by simpa using hi, rfl⟩) hq
/-- A slice of elements of c cells each. -/
def SlR {α : Type} (c : Nat) (R : List Value → α → Prop) (h : Heap) (v : Value) (l : List α) : Prop :=
  ∃ A cap, v = .slice A l.length cap ∧ l.length ≤ cap ∧ (cap = 0 ∨ ∃ b o, A = some ⟨b, o, none⟩ ∧ ∀ i x, l[i]? = some x → ∃ cs, cs.length = c ∧ R cs x ∧ RowAt h b (o + i * c) cs)
theorem Rd.slR {α : Type} {t e : TypeId} (hu : P.underlying t = some (.slice e)) {c : Nat} (hC : P.cellsOf e = c) (hc : 0 < c) {R : List Value → α → Prop} (hR : ∀ cs, Rd enc P W e cs → ∃ x, R cs x) {v : Value} (h : Rd enc P W t [v]) :
    ∃ l : List α, SlR c R W.heap v l ∧ l.length * P.bytesOf e ≤ reachBytes := by
  obtain ⟨A, len, cap, h1, h2, h3, h4⟩ := h.slice hu hC hc
  simp only [List.cons.injEq, and_true] at h1
  rcases h4 with rfl | ⟨b, o, rfl, h4⟩
  · exact ⟨[], ⟨A, 0, by rw [h1]; congr 1; simp; omega, by simp, .inl rfl⟩, by simp⟩
  · have h5 : ∀ n, n ≤ len → ∃ l : List α, l.length = n ∧ ∀ i x, l[i]? = some x → ∃ cs, cs.length = c ∧ R cs x ∧ RowAt W.heap b (o + i * c) cs := by
      intro n
      induction n with
      | zero => exact fun _ => ⟨[], rfl, by simp⟩
      | succ n ih =>
        intro hn
        obtain ⟨l, hl, hi⟩ := ih (by omega)
        obtain ⟨cs, q1, q2, q3⟩ := h4 n (by omega)
        obtain ⟨x, hx⟩ := hR cs q3
        refine ⟨l ++ [x], by simp [hl], fun i y hy => ?_⟩
        by_cases hlt : i < l.length
        · rw [List.getElem?_append_left hlt] at hy
          exact hi i y hy
        · have hil := (List.getElem?_eq_some_iff.1 hy).1
          simp at hil
          have : i = n := by omega
          subst this
          rw [List.getElem?_append_right (by omega), hl] at hy
          simp at hy
          subst hy
          exact ⟨cs, q1, hx, q2⟩
    obtain ⟨l, hl, hi⟩ := h5 len (Nat.le_refl _)
    exact ⟨l, ⟨_, cap, by rw [h1, hl], by omega, .inr ⟨b, o, rfl, hi⟩⟩, by rw [hl]; exact h2⟩
/-- An argument's reading. -/
theorem Rd.of {ts : List TypeId} {ds : List (DataW H)} (hsz : (DataW.weightsEach P ts ds).all (· ≤ reachBytes) = true) {j : Nat} {t : TypeId} {d : DataW H} {v : Value} {p : List MemPlace} (ht : ts[j]? = some t) (hd : ds[j]? = some d)
    (h : DataW.Trod enc P W 0 (fun _ => true) true t v d p) : Rd enc P W t v.cells.toList := by
  obtain ⟨n, hn⟩ := h
  refine ⟨n, _, hn, fun m hm => ?_⟩
  have := List.all_eq_true.1 hsz m (mem_weightsEach ts ds j t d m ht hd hm)
  simpa using this
theorem law_args (hl : laidOutB P = true) {W' : World} (hb : Below W.heap.size W W') : ∀ {ts : List TypeId} {vs : List Value} {ds : List (DataW H)} {p : List MemPlace}, (∀ t ∈ ts, P.readableRec t = true ∧ t < P.types.size) →
    DataW.TrodAll enc P W 0 (fun _ => true) true ts vs ds p → DataW.TrodAll enc P W' 0 (fun b => decide (b < W.heap.size)) true ts vs ds p
  | [], vs, ds, p, _, h => by
    obtain ⟨rfl, rfl, rfl⟩ := trodAll_nil h
    exact trodAll_mk0
  | t :: ts, vs, ds, p, hr, h => by
    obtain ⟨v, vs', d, ds', q, r, rfl, rfl, rfl, h1, h2⟩ := trodAll_cons h
    have hlt : ∀ x ∈ q, x.block < W.heap.size := by
      obtain ⟨m, hm⟩ := h1
      exact DataW.trod_lt m _ _ _ hm
    exact trodAll_cons_mk (Below.trod hl (hr t (by simp)).1 (hr t (by simp)).2 h1 hb hlt) (law_args hl hb (fun u hu => hr u (by simp [hu])) h2)
theorem below_of {w w' : World} (s : Same w w') (x : Ext w.heap w'.heap) : Below w.heap.size w w' := ⟨s.os, s.tape, s.output, x.size, x.block⟩
end
theorem calls_of {P : Program} {f : FuncId} {args : Array Value} {h : Heap} {K : Value → Heap → Prop} (hr : ∀ w : World, (callFunc f args).run P w = .ok (.enter f args) w) (H : CallF P f args h K) {w : World} (hw : w.heap = h) : Calls P f args w (fun e w' => ∃ v, e = .returned v ∧ Same w w' ∧ K v w'.heap) := by
  obtain ⟨n, w', h1, h2, h3⟩ := H w hw
  rw [hr] at h1
  injection h1 with e1 e2
  subst e1 e2
  exact h3
theorem list1 {α : Type} : ∀ {l : List α}, l.length = 1 → ∃ a, l = [a]
  | [], h => by simp at h
  | [a], _ => ⟨a, rfl⟩
  | _ :: _ :: _, h => by simp at h
theorem list2 {α : Type} : ∀ {l : List α}, l.length = 2 → ∃ a b, l = [a, b]
  | [], h => by simp at h
  | [a], h => by simp at h
  | [a, b], _ => ⟨a, b, rfl⟩
  | _ :: _ :: _ :: _, h => by simp at h
theorem list3 {α : Type} : ∀ {l : List α}, l.length = 3 → ∃ a b c, l = [a, b, c]
  | [], h => by simp at h
  | [a], h => by simp at h
  | [a, b], h => by simp at h
  | [a, b, c], _ => ⟨a, b, c, rfl⟩
  | _ :: _ :: _ :: _ :: _, h => by simp at h
theorem list4 {α : Type} : ∀ {l : List α}, l.length = 4 → ∃ a b c d, l = [a, b, c, d]
  | [], h => by simp at h
  | [a], h => by simp at h
  | [a, b], h => by simp at h
  | [a, b, c], h => by simp at h
  | [a, b, c, d], _ => ⟨a, b, c, d, rfl⟩
  | _ :: _ :: _ :: _ :: _ :: _, h => by simp at h
theorem list5 {α : Type} : ∀ {l : List α}, l.length = 5 → ∃ a b c d e, l = [a, b, c, d, e]
  | [], h => by simp at h
  | [a], h => by simp at h
  | [a, b], h => by simp at h
  | [a, b, c], h => by simp at h
  | [a, b, c, d], h => by simp at h
  | [a, b, c, d, e], _ => ⟨a, b, c, d, e, rfl⟩
  | _ :: _ :: _ :: _ :: _ :: _ :: _, h => by simp at h
theorem list6 {α : Type} : ∀ {l : List α}, l.length = 6 → ∃ a b c d e f, l = [a, b, c, d, e, f]
  | [], h => by simp at h
  | [a], h => by simp at h
  | [a, b], h => by simp at h
  | [a, b, c], h => by simp at h
  | [a, b, c, d], h => by simp at h
  | [a, b, c, d, e], h => by simp at h
  | [a, b, c, d, e, f], _ => ⟨a, b, c, d, e, f, rfl⟩
  | _ :: _ :: _ :: _ :: _ :: _ :: _ :: _, h => by simp at h
theorem list7 {α : Type} : ∀ {l : List α}, l.length = 7 → ∃ a b c d e f g, l = [a, b, c, d, e, f, g]
  | [], h => by simp at h
  | [a], h => by simp at h
  | [a, b], h => by simp at h
  | [a, b, c], h => by simp at h
  | [a, b, c, d], h => by simp at h
  | [a, b, c, d, e], h => by simp at h
  | [a, b, c, d, e, f], h => by simp at h
  | [a, b, c, d, e, f, g], _ => ⟨a, b, c, d, e, f, g, rfl⟩
  | _ :: _ :: _ :: _ :: _ :: _ :: _ :: _ :: _, h => by simp at h
end Go.Hp
