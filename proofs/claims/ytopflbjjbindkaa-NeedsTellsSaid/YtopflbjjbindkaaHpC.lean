/- Slices: capacity, cuts, nothing appended, zeros appended, cleared. -/
import Derived.Test.YtopflbjjbindkaaHpB
import Derived.Laws.OwnMore
set_option linter.unusedVariables false
set_option linter.unusedSimpArgs false
namespace Go.Hp
variable {P : Program} {h : Heap}
theorem m_cap {t e : TypeId} (hu : P.underlying t = some (.slice e)) (ty : TypeId) (c : Array Bool) (a : Option Addr) (n k : Nat) (K : Value → Heap → Prop) :
    OpN P (Go.builtin .cap #[t] ty c #[.slice a n k]) h K = K (.int .i64 k) h :=
  OpN_pure fun w hw => by
    simp only [Go.builtin, Builtin.cap_, Sem.run_bind]
    simp [run_underlying hu, goInt]
theorem m_sliceHi {t e : TypeId} (hu : P.underlying t = some (.slice e)) {sz : Nat} (hs : (P.info? e).map (·.size) = some sz) (a : Option Addr) (n c : Nat) (j : Int) (h0 : 0 ≤ j) (h1 : j ≤ c) (K : Value → Heap → Prop) :
    RunV P (Instr.sliceAt t (.slice a n c) none (some (.int .i64 j)) none) h K = K (.slice a j.toNat c) h :=
  RunV_pure fun w hw => by
    unfold Instr.sliceAt
    simp only [Sem.run_bind, run_underlying hu, Result.andThen_ok, Instr.slice]
    simp [Instr.sliceBounds, Instr.sliceBound, asIntOf, h0, h1, sizeOf_run hs, run_underlying hu]
    intro hc
    cases a with
    | none => rfl
    | some a => simp [Addr.add]
theorem m_sliceLo {t e : TypeId} (hu : P.underlying t = some (.slice e)) {sz : Nat} (hs : (P.info? e).map (·.size) = some sz) (b o n c : Nat) (i : Int) (h0 : 0 ≤ i) (h1 : i ≤ n) (hnc : n ≤ c) (K : Value → Heap → Prop) :
    RunV P (Instr.sliceAt t (.slice (some ⟨b, o, none⟩) n c) (some (.int .i64 i)) none none) h K = K (.slice (some (if c = i.toNat then ⟨b, o, none⟩ else ⟨b, o + i.toNat * sz, none⟩)) (n - i.toNat) (c - i.toNat)) h :=
  RunV_pure fun w hw => by
    unfold Instr.sliceAt
    simp only [Sem.run_bind, run_underlying hu, Result.andThen_ok, Instr.slice]
    simp [Instr.sliceBounds, Instr.sliceBound, asIntOf, h0, h1, sizeOf_run hs, run_underlying hu, addr_add]
    split <;> rfl
theorem o_append_none {t e : TypeId} (hu : P.underlying t = some (.slice e)) {i : TypeInfo} (hi : P.info? e = some i) (ty : TypeId) (cs : Array Bool) {base : Nat} {size : Nat} {v : Value} {n : Nat} {xs : List Value} (ho : Own h base e size v n xs) (K : Value → Heap → Prop) :
    OpN P (Go.builtin .append #[t, t] ty cs #[v, .slice none 0 0]) h K = K v h :=
  OpN_pure fun w hw => by
    subst hw
    simp only [Go.builtin, Sem.run_bind, run_append_owned_none (P := P) (w := w) base t ty e i size hu hi v n xs ho, Result.andThen_ok, Sem.run_pure]
/-- Nothing is appended. -/
theorem o_append_empty {t e : TypeId} (hu : P.underlying t = some (.slice e)) {i : TypeInfo} (hi : P.info? e = some i) (ty : TypeId) (cs : Array Bool) {base : Nat} {size : Nat} {v : Value} {n : Nat} {xs : List Value} (ho : Own h base e size v n xs) (A : Option Addr) (c : Nat) (K : Value → Heap → Prop) :
    OpN P (Go.builtin .append #[t, t] ty cs #[v, .slice A 0 c]) h K = K v h :=
  OpN_pure fun w hw => by
    subst hw
    have hr : (Builtin.append_ #[t, t] ty #[v, .slice A 0 c]).run P w = .ok v w := by
      have hfc : (Builtin.firstCells i.size 0 (.slice A 0 c)).run P w = .ok #[] w := by
        cases A with
        | none => rfl
        | some ad => simp [Builtin.firstCells, loadCells, loadCellsFrom]
      rcases ho.2 with ⟨rfl, rfl⟩ | ⟨g, cap, cur, rfl, _, _, hnc, _⟩
      · simp [Builtin.append_, run_underlying hu, sizeOf, typeInfo, hi, Builtin.lenOf, hfc]
      · simp [Builtin.append_, run_underlying hu, sizeOf, typeInfo, hi, Builtin.lenOf, hfc, hnc, storeCells]
    simp only [Go.builtin, Sem.run_bind, hr, Result.andThen_ok, Sem.run_pure]
/-- Some zeros, behind nothing. -/
theorem o_append_zeros {t u e : TypeId} (hu : P.underlying t = some (.slice e)) {k : IntKind} (hk0 : P.underlying u = some (.int k)) {i : TypeInfo} (hi : P.info? e = some i) {z : Value} (hz : i.zero = some z) (hzs : z.cells.size = 1) (hsz : i.size = 1) (ty : TypeId) (cs : Array Bool) {n : Nat} (h0 : 0 < n) (hb : n * i.bytes ≤ 140737488355328) (h63 : n ≤ 9223372036854775807)
    {K : Value → Heap → Prop} (hk : ∀ cap cur h', n ≤ cap → cap ≤ maxLen → Ext h h' → h'[h.size]? = some (.cells cur e (0, 0)) → cur.size = cap → K (.slice (some ⟨h.size, 0, none⟩) n cap) h') :
    OpN P (Go.builtin .append #[t, u] ty cs #[.slice none 0 0, .int .i64 (n : Int)]) h K := by
  intro w hw
  subst hw
  have hn : n ≠ 0 := by omega
  have hwr : IntKind.i64.wrap (n : Int) = (n : Int) := by rw [IntKind.wrap_i64]; omega
  have h63' : ¬ (9223372036854775807 < (n : Int)) := by omega
  have h48' : ¬ (281474976710656 < Builtin.nextslicecap n 0 * i.bytes) := by rw [nextslicecap_zero h0]; omega
  have h48'' : ¬ (281474976710656 < (n : Int) * (i.bytes : Int)) := by
    have : ((n * i.bytes : Nat) : Int) ≤ 140737488355328 := by omega
    rw [Int.natCast_mul] at this
    omega
  have hneg : ¬ ((n : Int) < 0) := by omega
  have hge := grownCap_ge w n 0 e
  have hle := grownCap_le_maxLen w n 0 e (by simp only [maxLen]; omega)
  refine ⟨.value (.slice (some ⟨w.heap.size, 0, none⟩) n (grownCap w n 0 e)), w.drew.alloc (.cells (Builtin.zeroCells z.cells n ++ Builtin.zeroCells z.cells (grownCap w n 0 e - n)) e), ?_, ⟨rfl, rfl, rfl⟩,
    hk _ (Builtin.zeroCells z.cells n ++ Builtin.zeroCells z.cells (grownCap w n 0 e - n)) _ hge hle ((Ext.refl _).push _) (push_new _ _) ?_⟩
  · simp only [Go.builtin, Sem.run_bind]
    simp [Builtin.append_, run_underlying hu, run_underlying hk0, sizeOf, typeInfo, zeroValue, hi, hz, hsz, asInt, asIntOf, hwr, hneg, h48'', Builtin.lenOf, Builtin.firstCells, hn, h63', h48', Question.forced, newRow, grownCap]
  · simp [size_zeroCells, hzs]
    omega
/-- Cells are cleared. -/
theorem m_clear {t e : TypeId} (hu : P.underlying t = some (.slice e)) {z : Value} (hz : (P.info? e).bind (·.zero) = some z) (hzp : z.cells = #[z]) (hp : plainV z = true) (ty : TypeId) (c : Array Bool) {b o : Nat} {n cap : Nat} {cs : Array Value} {e' : TypeId} (hb : h[b]? = some (.cells cs e' (0, 0))) (hl : o + n ≤ cs.size) (K : Value → Heap → Prop) :
    OpN P (Go.builtin .clear #[t] ty c #[.slice (some ⟨b, o, none⟩) n cap]) h K = K (.tuple #[]) (h.setIfInBounds b (.cells (writeAt cs o (List.replicate n z)) e' (0, 0))) :=
  OpN_of fun w hw => by
    subst hw
    have hst := storeCells_run (P := P) (List.replicate n z) (by intro v hv; rw [List.mem_replicate] at hv; rw [hv.2]; exact hp) o 0 cs w hb (by simp; omega)
    simp only [Nat.add_zero] at hst
    by_cases hn : n = 0
    · subst hn
      simp only [Go.builtin, Builtin.clear_, Sem.run_bind, run_underlying hu]
      simp only [Result.andThen_ok, Sem.run_pure, List.replicate_zero]
      have e1 : writeAt cs o [] = cs := rfl
      rw [e1]
      have e2 : w.heap.setIfInBounds b (.cells cs e' (0, 0)) = w.heap := by
        apply Array.ext_getElem?
        intro k
        rw [Array.getElem?_setIfInBounds]
        split
        · rename_i hk; subst hk; rw [hb]; simp [lt_of_at hb]
        · rfl
      rw [e2]
      simp [run_underlying hu]
    · have ez : (Builtin.zeroCells z.cells n).toList = List.replicate n z := by
        unfold Builtin.zeroCells
        rw [hzp]
        apply List.ext_getElem?
        intro i
        simp only [List.size_toArray, List.length_cons, List.length_nil, Nat.zero_add, Nat.mul_one, Array.toList_map, Array.toList_range, List.getElem?_map, List.getElem?_range', List.getElem?_replicate]
        by_cases hi : i < n
        · simp [hi, Nat.mod_one]
        · simp [hi]
      simp only [Go.builtin, Builtin.clear_, Sem.run_bind]
      cases n with
      | zero => exact absurd rfl hn
      | succ n =>
        simp only [run_underlying hu, Result.andThen_ok, Sem.run_bind, run_zero hz, Sem.run_pure]
        simp [run_underlying hu, run_zero hz, ez, hst]
end Go.Hp
