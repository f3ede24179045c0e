/- Slices that are read; rows that are sorted; lists that rise. -/
import Derived.Test.YtopflbjjbindkaaHpA
import Derived.Lib.SlicesCompact
import Derived.Sort.Grow
set_option linter.unusedVariables false
set_option linter.unusedSimpArgs false
namespace Go.Hp

theorem cellH_ext {h h' : Heap} (x : Ext h h') {b o : Nat} {v : Value} (hc : cellH h b o = some v) : cellH h' b o = some v := ext_cell hc h' x
theorem cellH_lt {h : Heap} {b o : Nat} {v : Value} (hc : cellH h b o = some v) : b < h.size := by
  unfold cellH at hc
  split at hc
  · rename_i hb
    exact lt_of_at hb
  · cases hc
theorem cellH_only {h h' : Heap} {S : List Nat} (x : Only S h h') {b o : Nat} {v : Value} (hc : cellH h b o = some v) (hb : b ∉ S) : cellH h' b o = some v := by
  have := cellH_lt hc
  unfold cellH at hc ⊢
  rw [x.block b this hb]
  exact hc
theorem RowAt.ext {h h' : Heap} {b o : Nat} {cs : List Value} (r : RowAt h b o cs) (x : Ext h h') : RowAt h' b o cs := fun j u hu => cellH_ext x (r j u hu)
theorem SlR.ext {α : Type} {c : Nat} {R : List Value → α → Prop} {h h' : Heap} {v : Value} {l : List α} (s : SlR c R h v l) (x : Ext h h') : SlR c R h' v l := by
  obtain ⟨A, cap, h1, h2, h3⟩ := s
  refine ⟨A, cap, h1, h2, h3.imp id fun ⟨b, o, h4, h5⟩ => ⟨b, o, h4, fun i y hy => ?_⟩⟩
  obtain ⟨cs, q1, q2, q3⟩ := h5 i y hy
  exact ⟨cs, q1, q2, q3.ext x⟩
/-- Also what the elements' own reading hangs on may turn. -/
theorem SlR.mono {α : Type} {c : Nat} {R R' : List Value → α → Prop} {h h' : Heap} {v : Value} {l : List α} (s : SlR c R h v l) (x : Ext h h') (hR : ∀ cs y, y ∈ l → R cs y → R' cs y) : SlR c R' h' v l := by
  obtain ⟨A, cap, h1, h2, h3⟩ := s
  refine ⟨A, cap, h1, h2, h3.imp id fun ⟨b, o, h4, h5⟩ => ⟨b, o, h4, fun i y hy => ?_⟩⟩
  obtain ⟨cs, q1, q2, q3⟩ := h5 i y hy
  exact ⟨cs, q1, hR cs y (List.mem_of_getElem? hy) q2, q3.ext x⟩
theorem SlR.get {α : Type} {c : Nat} {R : List Value → α → Prop} {h : Heap} {v : Value} {l : List α} (s : SlR c R h v l) (h0 : 0 < l.length) : ∃ b o cap, v = .slice (some ⟨b, o, none⟩) l.length cap ∧ ∀ i x, l[i]? = some x → ∃ cs, cs.length = c ∧ R cs x ∧ RowAt h b (o + i * c) cs := by
  obtain ⟨A, cap, h1, h2, h3⟩ := s
  rcases h3 with h3 | ⟨b, o, rfl, h4⟩
  · omega
  · exact ⟨b, o, cap, h1, h4⟩
theorem SlR.len {α : Type} {c : Nat} {R : List Value → α → Prop} {h : Heap} {v : Value} {l : List α} (s : SlR c R h v l) : ∃ A cap, v = .slice A l.length cap := by
  obtain ⟨A, cap, h1, _⟩ := s
  exact ⟨A, cap, h1⟩
theorem SlR.plain {α : Type} {c : Nat} {R : List Value → α → Prop} {h : Heap} {v : Value} {l : List α} (s : SlR c R h v l) : plainV v = true := by
  obtain ⟨A, cap, rfl⟩ := s.len
  rfl
/-- A row of one's own, read. -/
theorem Own.slR {α : Type} {h : Heap} {base : Nat} {e : TypeId} {v : Value} {l : List α} {enc : α → Value} (o : Own h base e 1 v l.length (l.map enc)) : SlR 1 (fun cs x => cs = [enc x]) h v l := by
  rcases o.2 with ⟨rfl, hn⟩ | ⟨g, cap, cur, rfl, hb, hg, h1, h2, h3, h4⟩
  · exact ⟨none, 0, by rw [hn], by omega, .inl rfl⟩
  · refine ⟨_, cap, rfl, h1, .inr ⟨g, 0, rfl, fun i x hx => ⟨[enc x], rfl, rfl, fun j u hu => ?_⟩⟩⟩
    have hj : j = 0 := by
      have := (List.getElem?_eq_some_iff.1 hu).1
      simp at this
      exact this
    subst hj
    simp at hu
    subst hu
    rw [cellH_of hg, Nat.zero_add, Nat.mul_one, Nat.add_zero]
    have hxi : (l.map enc)[i]? = some (enc x) := by simp [hx]
    rw [← h4, List.getElem?_take] at hxi
    split at hxi
    · simpa using hxi
    · cases hxi
/-- A row of cells is loaded. -/
theorem m_loadRow {P : Program} {h : Heap} {t : TypeId} {d : TypeDesc} (hu : P.underlying t = some d) (hd : aggD d = true) {n : Nat} (hs : (P.info? t).map (·.size) = some (n + 1)) {b o : Nat} {xs : List Value} (hl : xs.length = n + 1)
    (hc : RowAt h b o xs) (K : Value → Heap → Prop) : RunV P (Instr.loadAt t (.pointer (some ⟨b, o, none⟩))) h K = K (.agg xs.toArray) h := by
  have h0 := hc 0 (xs[0]'(by omega)) (List.getElem?_eq_getElem (by omega))
  unfold cellH at h0
  split at h0
  · rename_i c e f hb
    have hcs : ∀ j, j < n + 1 → c[o + j]? = some (xs[j]?.getD undef) := fun j hj => by
      have := hc j (xs[j]'(by omega)) (List.getElem?_eq_getElem (by omega))
      rw [cellH_of hb] at this
      rw [this, List.getElem?_eq_getElem (by omega)]
      rfl
    have hsz : o + (n + 1) ≤ c.size := by
      have := hcs n (by omega)
      have := (Array.getElem?_eq_some_iff.1 this).1
      omega
    rw [m_loadAgg hu hd hs hb hsz]
    have e : c.extract o (o + (n + 1)) = xs.toArray := by
      apply Array.ext_getElem?
      intro j
      by_cases hj : j < n + 1
      · rw [Array.getElem?_extract, if_pos (by omega), hcs j hj]
        simp [List.getElem?_eq_getElem (show j < xs.length by omega)]
      · rw [Array.getElem?_eq_none (by simp; omega), Array.getElem?_eq_none (by simp; omega)]
    rw [e]
  · cases h0
theorem q_m_loadRow {P : Program} {C : Heap → Prop} {h0 : Heap} (hC : C h0) {t : TypeId} {d : TypeDesc} (hu : P.underlying t = some d) (hd : aggD d = true) {n : Nat} (hs : (P.info? t).map (·.size) = some (n + 1)) {b o : Nat} {xs : List Value} (hl : xs.length = n + 1)
    (hc : ∀ h', C h' → RowAt h' b o xs) (K : Value → Prop) : QV P C (Instr.loadAt t (.pointer (some ⟨b, o, none⟩))) K = K (.agg xs.toArray) :=
  QV_cls hC fun h' he w hw => by
    have h2 : RunV P (Instr.loadAt t (.pointer (some ⟨b, o, none⟩))) h' (fun v h'' => v = .agg xs.toArray ∧ h'' = h') := by
      rw [m_loadRow hu hd hs hl (hc h' he)]
      exact ⟨rfl, rfl⟩
    have h1 : ∃ c e f, w.heap[b]? = some (.cells c e f) ∧ o + (n + 1) ≤ c.size ∧ c.extract o (o + (n + 1)) = xs.toArray := by
      have hc' := hc h' he
      subst hw
      have h0 := hc' 0 (xs[0]'(by omega)) (List.getElem?_eq_getElem (by omega))
      unfold cellH at h0
      split at h0
      · rename_i c e f hb
        have hcs : ∀ j, j < n + 1 → c[o + j]? = some (xs[j]?.getD undef) := fun j hj => by
          have := hc' j (xs[j]'(by omega)) (List.getElem?_eq_getElem (by omega))
          rw [cellH_of hb] at this
          rw [this, List.getElem?_eq_getElem (by omega)]
          rfl
        have hsz : o + (n + 1) ≤ c.size := by
          have := hcs n (by omega)
          have := (Array.getElem?_eq_some_iff.1 this).1
          omega
        refine ⟨c, e, f, hb, hsz, ?_⟩
        apply Array.ext_getElem?
        intro j
        by_cases hj : j < n + 1
        · rw [Array.getElem?_extract, if_pos (by omega), hcs j hj]
          simp [List.getElem?_eq_getElem (show j < xs.length by omega)]
        · rw [Array.getElem?_eq_none (by simp; omega), Array.getElem?_eq_none (by simp; omega)]
      · cases h0
    obtain ⟨c, e, f, hb, hsz, hx⟩ := h1
    unfold Instr.loadAt loadVar
    simp only [Instr.sureAddr, pure_bind, Sem.run_bind, run_isAgg hu, hd, Result.andThen_ok, if_true, sizeOf_run hs, loadCells_run o (n + 1) w hb hsz, Sem.run_pure, hx]
theorem RowAt.of {h : Heap} {b : Nat} {cs : Array Value} {e : TypeId} {f : Nat × Nat} (hb : h[b]? = some (.cells cs e f)) : RowAt h b 0 cs.toList := fun j u hu => by
  rw [cellH_of hb, Nat.zero_add]
  simpa using hu
theorem keep_of {S T : List Nat} {h h' : Heap} (o : Only S h h') (h1 : ∀ k ∈ T, k < h.size) (h2 : ∀ k ∈ T, k ∉ S) : Keep T h h' := fun k hk => o.block k (h1 k hk) (h2 k hk)
theorem keep_ext {T : List Nat} {h h' : Heap} (e : Ext h h') (hT : ∀ k ∈ T, k < h.size) : Keep T h h' := fun k hk => e.block k (hT k hk)
theorem Keep.trans {T : List Nat} {a b c : Heap} (h : Keep T a b) (k : Keep T b c) : Keep T a c := fun i hi => (k i hi).trans (h i hi)
theorem Only.fresh {a b c : Heap} {S : List Nat} (h1 : Ext a b) (h2 : Only S b c) (hS : ∀ k ∈ S, a.size ≤ k) : Ext a c :=
  ⟨Nat.le_trans h1.size h2.size, fun k hk => (h2.block k (Nat.lt_of_lt_of_le hk h1.size) (fun hm => by have := hS k hm; omega)).trans (h1.block k hk)⟩

theorem setH_at {h : Heap} {b : Nat} {c : Array Value} {e : TypeId} {f : Nat × Nat} (hb : h[b]? = some (.cells c e f)) (o : Nat) (v : Value) : (setH h b o v)[b]? = some (.cells (c.setIfInBounds o v) e f) := by
  rw [setH_of hb]; exact set_same hb _
theorem setH_other {h : Heap} {b c : Nat} {o' : Obj} (hb : h[c]? = some o') (hne : b ≠ c) (o : Nat) (v : Value) : (setH h b o v)[c]? = some o' := by
  unfold setH; rw [Array.getElem?_modify, if_neg hne]; exact hb
theorem setH_only {S : List Nat} {h h' : Heap} (ho : Only S h h') {b : Nat} (hb : b ∈ S ∨ h.size ≤ b) (o : Nat) (v : Value) : Only S h (setH h' b o v) :=
  ho.then (by simp [setH]) fun k hk hS => by
    unfold setH
    rw [Array.getElem?_modify, if_neg]
    rintro rfl
    rcases hb with hb | hb
    · exact hS hb
    · omega
/-! ### A fresh struct's variable -/
theorem agg_store {P : Program} {h : Heap} {t : TypeId} {n : Nat} (hs : (P.info? t).map (·.size) = some n) {zs vs : Array Value} (hz : zs.size = n) (hv : vs.size = n) (hp : ∀ v ∈ vs.toList, plainV v = true) {K : Heap → Prop} (hk : ∀ h', Ext h h' → h'.size = h.size + 1 → h'[h.size]? = some (.cells vs t (0, 0)) → K h') :
    RunU P (Instr.storeAt t (.pointer (some ⟨h.size, 0, none⟩)) (.agg vs)) (h.push (.cells zs t (0, 0))) K := by
  rw [m_storeAgg hs (push_new _ _) hv (by omega) hp]
  have e : writeAt zs 0 vs.toList = vs := by
    apply Array.ext'
    rw [writeAt_toList _ _ _ (by simp; omega)]
    simp
    omega
  rw [e, set_push_new]
  exact hk _ ((Ext.refl h).push _) (by simp) (push_new _ _)

/-! ### Rows that are sorted, by the library -/
theorem onRow {α : Type} [Inhabited α] {enc : α → Value} {w : World} {g n : Nat} {d : Array α} {os : Array Obj} {c : Array Value} {e : TypeId} {f : Nat × Nat} (hg : w.heap[g]? = some (.cells c e f)) :
    (Sort.grow (Sort.putRow enc (Sort.ahead w n) g 0 d) os).heap[g]? = some (.cells (Sort.putCells enc 0 d c) e f) ∧ (∀ k, k < w.heap.size → k ≠ g → (Sort.grow (Sort.putRow enc (Sort.ahead w n) g 0 d) os).heap[k]? = w.heap[k]?) ∧
      w.heap.size ≤ (Sort.grow (Sort.putRow enc (Sort.ahead w n) g 0 d) os).heap.size ∧ Same w (Sort.grow (Sort.putRow enc (Sort.ahead w n) g 0 d) os) := by
  have hsz : (Sort.putRow enc (Sort.ahead w n) g 0 d).heap.size = w.heap.size := by simp [Sort.putRow, Sort.mapBlock, Sort.ahead]
  have hgl := lt_of_at hg
  refine ⟨?_, fun k hk hne => ?_, ?_, ⟨rfl, rfl, rfl⟩⟩
  · show ((Sort.putRow enc (Sort.ahead w n) g 0 d).heap ++ os)[g]? = _
    rw [Array.getElem?_append_left (by omega)]
    simp [Sort.putRow, Sort.mapBlock, Sort.ahead, Array.getElem?_modify, hg, Sort.onCells]
  · show ((Sort.putRow enc (Sort.ahead w n) g 0 d).heap ++ os)[k]? = _
    rw [Array.getElem?_append_left (by omega)]
    simp only [Sort.putRow, Sort.mapBlock, Sort.ahead, Array.getElem?_modify]
    rw [if_neg (fun h => hne h.symm)]
  · show _ ≤ ((Sort.putRow enc (Sort.ahead w n) g 0 d).heap ++ os).size
    rw [Array.size_append]
    omega
theorem putCells_take {α : Type} [Inhabited α] (enc : α → Value) (d : List α) (c : Array Value) (n : Nat) (hn : n ≤ d.length) (hc : d.length ≤ c.size) : (Sort.putCells enc 0 d.toArray c).toList.take n = (d.take n).map enc := by
  apply List.ext_getElem?
  intro i
  rw [List.getElem?_take]
  split
  · rename_i hi
    have hid : i < d.length := by omega
    have hic : i < c.size := by omega
    simp only [Array.getElem?_toList, Sort.putCells, Array.getElem?_mapIdx, List.getElem?_map, List.getElem?_take, if_pos hi]
    rw [Array.getElem?_eq_getElem hic, List.getElem?_eq_getElem hid]
    simp [hid]
  · rename_i hi
    rw [List.getElem?_eq_none]
    simp
    omega
theorem putCells_size {α : Type} [Inhabited α] (enc : α → Value) (d : Array α) (c : Array Value) : (Sort.putCells enc 0 d c).size = c.size := by simp [Sort.putCells]

/-! ### Lists that rise -/
def Rise (l : List Int) : Prop := l.Pairwise (· < ·)
theorem Rise.unique : ∀ {a b : List Int}, Rise a → Rise b → (∀ x, x ∈ a ↔ x ∈ b) → a = b
  | [], [], _, _, _ => rfl
  | [], y :: b, _, _, h => absurd ((h y).2 (by simp)) (by simp)
  | x :: a, [], _, _, h => absurd ((h x).1 (by simp)) (by simp)
  | x :: a, y :: b, ha, hb, h => by
    obtain ⟨a1, a2⟩ := List.pairwise_cons.1 ha
    obtain ⟨b1, b2⟩ := List.pairwise_cons.1 hb
    have hxy : x = y := by
      rcases List.mem_cons.1 ((h x).1 (by simp)) with e | e
      · exact e
      · rcases List.mem_cons.1 ((h y).2 (by simp)) with e' | e'
        · exact e'.symm
        · have := b1 x e; have := a1 y e'; omega
    subst hxy
    congr 1
    refine Rise.unique a2 b2 fun z => ⟨fun hz => ?_, fun hz => ?_⟩
    · rcases List.mem_cons.1 ((h z).1 (by simp [hz])) with e | e
      · have := a1 z hz; omega
      · exact e
    · rcases List.mem_cons.1 ((h z).2 (by simp [hz])) with e | e
      · have := b1 z hz; omega
      · exact e
/-- The numbers below n at which it is so. -/
def idx (n : Nat) (p : Nat → Bool) : List Int := ((List.range n).filter p).map fun (i : Nat) => (i : Int)
theorem mem_idx {n : Nat} {p : Nat → Bool} {x : Int} : x ∈ idx n p ↔ ∃ i, i < n ∧ p i = true ∧ x = (i : Int) := by
  unfold idx
  simp only [List.mem_map, List.mem_filter, List.mem_range]
  constructor
  · rintro ⟨i, ⟨h1, h2⟩, rfl⟩; exact ⟨i, h1, h2, rfl⟩
  · rintro ⟨i, h1, h2, rfl⟩; exact ⟨i, ⟨h1, h2⟩, rfl⟩
theorem rise_idx (n : Nat) (p : Nat → Bool) : Rise (idx n p) := by
  unfold Rise idx
  rw [List.pairwise_map]
  refine List.Pairwise.imp ?_ (List.Pairwise.filter p (List.pairwise_lt_range (n := n)))
  intro a b h
  omega
theorem idx_succ (n : Nat) (p : Nat → Bool) : idx (n + 1) p = idx n p ++ (if p n then [(n : Int)] else []) := by
  unfold idx
  rw [List.range_succ, List.filter_append, List.map_append]
  congr 1
  by_cases h : p n <;> simp [h]
theorem idx_zero (p : Nat → Bool) : idx 0 p = [] := rfl
theorem idx_length (n : Nat) (p : Nat → Bool) : (idx n p).length ≤ n := by
  unfold idx
  rw [List.length_map]
  have := List.length_filter_le p (List.range n)
  simpa using this
theorem idx_congr {n : Nat} {p q : Nat → Bool} (h : ∀ i, i < n → p i = q i) : idx n p = idx n q := by
  unfold idx
  congr 1
  apply List.filter_congr
  intro i hi
  exact h i (by simpa using hi)
theorem rise_eq_idx {n : Nat} {p : Nat → Bool} {l : List Int} (h : Rise l) (hm : ∀ x, x ∈ l ↔ ∃ i, i < n ∧ p i = true ∧ x = (i : Int)) : l = idx n p :=
  h.unique (rise_idx n p) fun x => by rw [hm, mem_idx]
/-- Sorted, and each once. -/
theorem compact_eq_aux (d : Array Int) (hs : ∀ i j, i < j → j < d.size → d[i]! ≤ d[j]!) : ∀ m, m ≤ d.size →
    (Lib.compactUpTo d m).Pairwise (· < ·) ∧ (∀ x, x ∈ Lib.compactUpTo d m ↔ ∃ i, i < m ∧ d[i]! = x)
  | 0, _ => by simp [Lib.compactUpTo]
  | m + 1, hm => by
    obtain ⟨h1, h2⟩ := compact_eq_aux d hs m (by omega)
    rw [Lib.compactUpTo_succ]
    by_cases hk : Lib.keeps d m = true
    · rw [if_pos hk]
      have hk' : m = 0 ∨ d[m]! ≠ d[m - 1]! := by simpa [Lib.keeps] using hk
      constructor
      · rw [List.pairwise_append]
        refine ⟨h1, by simp, fun a ha b hb => ?_⟩
        simp only [List.mem_singleton] at hb
        subst hb
        obtain ⟨i, hi, rfl⟩ := (h2 a).1 ha
        have e1 : d[i]! ≤ d[m - 1]! := by
          by_cases hi' : i = m - 1
          · subst hi'; exact Int.le_refl _
          · exact hs i (m - 1) (by omega) (by omega)
        have e2 := hs (m - 1) m (by omega) (by omega)
        rcases hk' with hk' | hk'
        · omega
        · omega
      · intro x
        simp only [List.mem_append, List.mem_singleton, h2]
        constructor
        · rintro (⟨i, hi, rfl⟩ | rfl)
          · exact ⟨i, by omega, rfl⟩
          · exact ⟨m, by omega, rfl⟩
        · rintro ⟨i, hi, rfl⟩
          by_cases e : i = m
          · subst e; exact .inr rfl
          · exact .inl ⟨i, by omega, rfl⟩
    · rw [if_neg hk]
      have hk' : m ≠ 0 ∧ d[m]! = d[m - 1]! := by simpa [Lib.keeps] using hk
      rw [List.append_nil]
      refine ⟨h1, fun x => ?_⟩
      rw [h2]
      constructor
      · rintro ⟨i, hi, rfl⟩; exact ⟨i, by omega, rfl⟩
      · rintro ⟨i, hi, rfl⟩
        by_cases e : i = m
        · subst e; exact ⟨i - 1, by omega, hk'.2.symm⟩
        · exact ⟨i, by omega, rfl⟩
theorem compact_sorted {l : List Int} (hs : l.Pairwise (· ≤ ·)) : Rise (Lib.compact l) ∧ ∀ x, x ∈ Lib.compact l ↔ x ∈ l := by
  have hget : ∀ i (hi : i < l.length), l.toArray[i]! = l[i] := fun i hi => by simp [hi]
  obtain ⟨h1, h2⟩ := compact_eq_aux l.toArray (fun i j hij hj => by
    have hj' : j < l.length := by simpa using hj
    rw [hget i (by omega), hget j hj']
    exact List.pairwise_iff_getElem.1 hs i j (by omega) hj' hij) l.length (by simp)
  refine ⟨h1, fun x => ?_⟩
  show x ∈ Lib.compactUpTo l.toArray l.length ↔ _
  rw [h2]
  constructor
  · rintro ⟨i, hi, rfl⟩
    rw [hget i hi]
    exact List.getElem_mem hi
  · intro hx
    obtain ⟨i, hi, rfl⟩ := List.getElem_of_mem hx
    exact ⟨i, hi, hget i hi⟩
theorem sorted_merge (l : List Int) : (l.mergeSort fun x y => decide (x ≤ y)).Pairwise (· ≤ ·) ∧ (∀ x, x ∈ (l.mergeSort fun x y => decide (x ≤ y)) ↔ x ∈ l) ∧ (l.mergeSort fun x y => decide (x ≤ y)).length = l.length := by
  refine ⟨?_, fun x => (List.mergeSort_perm l _).mem_iff, (List.mergeSort_perm l _).length_eq⟩
  have := List.pairwise_mergeSort (le := fun x y : Int => decide (x ≤ y)) (by intro a b c h1 h2; simp at h1 h2 ⊢; omega) (by intro a b; simp; omega) l
  refine List.Pairwise.imp ?_ this
  intro a b h
  simpa using h
theorem rise_of_sorted_nodup {l : List Int} (hs : l.Pairwise (· ≤ ·)) (hn : l.Nodup) : Rise l := by
  refine List.Pairwise.imp ?_ (List.Pairwise.and hs hn)
  intro a b ⟨h1, h2⟩
  have : a ≠ b := h2
  omega
end Go.Hp
