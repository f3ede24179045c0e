/- Maps, as lists of keys and values; ranges over them. -/
import Derived.Test.YtopflbjjbindkaaHpL
import Derived.Maps.RangeRun
import Derived.Maps.OwnSet
import Derived.Maps.Range
set_option linter.unusedVariables false
set_option linter.unusedSimpArgs false
namespace Go.Hp
open Go.MapKept Go.Maps Go.ChangeMaps
variable {P : Program} {h : Heap} {κ : Type}

/-- The keys of a type, as a plain type's. -/
structure KeyE (P : Program) (k : TypeId) (enc : κ → Value) (ok : κ → Prop) : Prop where
  keyed : Keyed P k
  key : ∀ x, ok x → ∃ l, keyOf P k (enc x) = some l
  inj : ∀ x y, enc x = enc y → x = y
/-- A map: its keys and values, as they came. -/
structure MapAt (h : Heap) (b : Nat) (enc : κ → Value) (ok : κ → Prop) (m : List (κ × Value)) : Prop where
  obj : ∃ es clock, h[b]? = some (.map es clock) ∧ es.toList.map (fun e => (e.key, e.val)) = m.map (fun p => (enc p.1, p.2)) ∧ (∀ e ∈ es.toList, e.born < clock) ∧ (es.toList.map (·.born)).Nodup
  nodup : (m.map (·.1)).Nodup
  oks : ∀ p ∈ m, ok p.1
theorem MapAt.at {h h' : Heap} {b : Nat} {enc : κ → Value} {ok : κ → Prop} {m : List (κ × Value)} (M : MapAt h b enc ok m) (e : h'[b]? = h[b]?) : MapAt h' b enc ok m := by
  obtain ⟨⟨es, clock, h1, r⟩, h2, h3⟩ := M
  exact ⟨⟨es, clock, e.trans h1, r⟩, h2, h3⟩
theorem MapAt.lt {b : Nat} {enc : κ → Value} {ok : κ → Prop} {m : List (κ × Value)} (M : MapAt h b enc ok m) : b < h.size := by
  obtain ⟨⟨es, clock, h1, r⟩, h2, h3⟩ := M
  exact lt_of_at h1
theorem MapAt.ext {h h' : Heap} {b : Nat} {enc : κ → Value} {ok : κ → Prop} {m : List (κ × Value)} (M : MapAt h b enc ok m) (x : Ext h h') : MapAt h' b enc ok m := M.at (x.block b M.lt)
theorem MapAt.only {h h' : Heap} {b : Nat} {enc : κ → Value} {ok : κ → Prop} {m : List (κ × Value)} (M : MapAt h b enc ok m) {S : List Nat} (x : Only S h h') (hb : b ∉ S) : MapAt h' b enc ok m := M.at (x.block b M.lt hb)
theorem m_makeMap (t : TypeId) (K : Value → Heap → Prop) : RunV P (Instr.makeMap t none) h K = K (.map (some h.size)) (h.push (.map #[] 0)) :=
  RunV_of fun w hw => by
    subst hw
    unfold Instr.makeMap
    simp [newObj, Sem.run]
theorem MapAt.new (h : Heap) (enc : κ → Value) (ok : κ → Prop) : MapAt (h.push (.map #[] 0)) h.size enc ok [] :=
  ⟨⟨#[], 0, push_new _ _, rfl, by simp, by simp⟩, by simp, by simp⟩

variable {k e t : TypeId} {enc : κ → Value} {ok : κ → Prop}
section
variable [DecidableEq κ]
theorem find_entry (E : KeyE P k enc ok) {es : Array MapEntry} {m : List (κ × Value)} (hm : es.toList.map (fun e => (e.key, e.val)) = m.map (fun p => (enc p.1, p.2))) (hnd : (m.map (·.1)).Nodup) (hok : ∀ p ∈ m, ok p.1) (x : κ) (hx : ok x) (w : World) :
    ((Instr.findKey k (enc x) es.toList).run P w = .ok none w ∧ m.lookup x = none) ∨
    ∃ j v, (Instr.findKey k (enc x) es.toList).run P w = .ok (some (j, v)) w ∧ m.lookup x = some v ∧ (∃ e, es[j]? = some e ∧ e.key = enc x) ∧ (m.map (·.1))[j]? = some x := by
  have hkeys : ∀ e ∈ es.toList, ∃ l, keyOf P k e.key = some l := by
    intro e he
    have h1 : (e.key, e.val) ∈ es.toList.map (fun e => (e.key, e.val)) := List.mem_map.2 ⟨e, he, rfl⟩
    rw [hm] at h1
    obtain ⟨p, hp, hpe⟩ := List.mem_map.1 h1
    simp only [Prod.mk.injEq] at hpe
    rw [← hpe.1]
    exact E.key _ (hok p hp)
  have hlook : ∀ {j : Nat} {p : κ × Value} (l : List (κ × Value)), (l.map (·.1)).Nodup → l[j]? = some p → l.lookup p.1 = some p.2 := by
    intro j p l
    induction l generalizing j with
    | nil => intro _ h; simp at h
    | cons q l ih =>
      intro hn hj
      obtain ⟨q1, q2⟩ := q
      cases j with
      | zero => simp at hj; subst hj; simp [List.lookup]
      | succ j =>
        simp only [List.getElem?_cons_succ] at hj
        simp only [List.map_cons, List.nodup_cons] at hn
        have hne : p.1 ≠ q1 := by
          rintro rfl
          exact hn.1 (List.mem_map.2 ⟨p, List.mem_of_getElem? hj, rfl⟩)
        rw [List.lookup_cons, show (p.1 == q1) = false by simpa using hne]
        exact ih hn.2 hj
  obtain ⟨l, hl⟩ := E.key x hx
  rcases E.keyed.find w hl es.toList hkeys with ⟨h1, h2⟩ | ⟨j, e0, h1, h2, h3⟩
  · refine .inl ⟨h1, ?_⟩
    rw [List.lookup_eq_none_iff]
    intro p hp
    have h4 : (enc p.1, p.2) ∈ m.map (fun p => (enc p.1, p.2)) := List.mem_map.2 ⟨p, hp, rfl⟩
    rw [← hm] at h4
    obtain ⟨e, he, hee⟩ := List.mem_map.1 h4
    simp only [Prod.mk.injEq] at hee
    have := h2 e he
    simp only [bne_iff_ne, ne_eq]
    rintro rfl
    exact this hee.1
  · have h4 := congrArg (fun l => l[j]?) hm
    simp only [List.getElem?_map, h2, Option.map_some] at h4
    cases hp : m[j]? with
    | none => rw [hp] at h4; cases h4
    | some p =>
      rw [hp] at h4
      simp only [Option.map_some, Option.some.injEq, Prod.mk.injEq] at h4
      have hpx : p.1 = x := E.inj _ _ (h4.1.symm.trans h3)
      refine .inr ⟨j, e0.val, h1, ?_, ⟨e0, by simpa using h2, h3⟩, ?_⟩
      · rw [h4.2, ← hpx]
        exact hlook m hnd hp
      · simp [hp, hpx]
theorem m_lookup (E : KeyE P k enc ok) (ht : P.underlying t = some (.map k e)) {z : Value} (hz : (P.info? e).bind (·.zero) = some z) {b : Nat} {m : List (κ × Value)} (M : MapAt h b enc ok m) (x : κ) (hx : ok x) (c : Bool) (K : Value → Heap → Prop) :
    RunV P (Instr.lookup t (.map (some b)) (enc x) c) h K = K (bif c then .tuple #[(m.lookup x).getD z, .bool (m.lookup x).isSome] else (m.lookup x).getD z) h :=
  RunV_pure fun w hw => by
    subst hw
    obtain ⟨⟨es, clock, hb, hm, _, _⟩, hnd, hok⟩ := M
    obtain ⟨l, hl⟩ := E.key x hx
    have hck := fun em => E.keyed.check w em hl
    unfold Instr.lookup
    simp only [Sem.run_bind, run_underlying ht, Result.andThen_ok, MapKept.run_getObj_map hb, Sem.run_pure, hck]
    rcases find_entry E hm hnd hok x hx w with ⟨h1, h2⟩ | ⟨j, v, h1, h2, _⟩
    · simp only [h1, Result.andThen_ok, Sem.run_bind, run_zero hz, Sem.run_pure, h2]
      cases c <;> rfl
    · simp only [h1, Result.andThen_ok, Sem.run_pure, h2]
      cases c <;> rfl
/-- What a map is when a key is given a value. -/
def putM (m : List (κ × Value)) (x : κ) (v : Value) : List (κ × Value) :=
  if x ∈ m.map (·.1) then m.map (fun p => if p.1 = x then (x, v) else p) else m ++ [(x, v)]
theorem putM_lookup (m : List (κ × Value)) (x : κ) (v : Value) (y : κ) : (putM m x v).lookup y = if y = x then some v else m.lookup y := by
  unfold putM
  split
  · rename_i hx
    induction m with
    | nil => simp at hx
    | cons p m ih =>
      obtain ⟨p1, p2⟩ := p
      by_cases hpx : p1 = x
      · subst hpx
        simp only [List.map_cons, if_true, List.lookup_cons]
        by_cases hy : y = p1
        · subst hy; simp
        · rw [if_neg hy]
          have : (y == p1) = false := by simpa using hy
          rw [this]
          by_cases hm : p1 ∈ m.map (·.1)
          · rw [ih hm, if_neg hy]
          · have e : m.map (fun p => if p.1 = p1 then (p1, v) else p) = m := by
              conv => rhs; rw [← List.map_id m]
              apply List.map_congr_left
              intro q hq
              rw [if_neg]
              · rfl
              · rintro rfl; exact hm (List.mem_map.2 ⟨q, hq, rfl⟩)
            rw [e]
      · simp only [List.map_cons, List.mem_cons] at hx
        have hm : x ∈ m.map (·.1) := by rcases hx with rfl | hx; exact absurd rfl hpx; exact hx
        simp only [List.map_cons, if_neg hpx, List.lookup_cons]
        by_cases hy : y = p1
        · subst hy
          simp [hpx]
        · have : (y == p1) = false := by simpa using hy
          rw [this, ih hm]
  · rename_i hx
    rw [List.lookup_append]
    by_cases hy : y = x
    · subst hy
      have : m.lookup y = none := by
        rw [List.lookup_eq_none_iff]
        intro p hp
        simp only [bne_iff_ne, ne_eq]
        rintro rfl
        exact hx (List.mem_map.2 ⟨p, hp, rfl⟩)
      rw [this]; simp
    · rw [if_neg hy]
      have : (y == x) = false := by simpa using hy
      simp [List.lookup_cons, this]
theorem putM_keys (m : List (κ × Value)) (x : κ) (v : Value) : (putM m x v).map (·.1) = if x ∈ m.map (·.1) then m.map (·.1) else m.map (·.1) ++ [x] := by
  unfold putM
  split
  · rw [List.map_map]
    apply List.map_congr_left
    intro p hp
    simp only [Function.comp]
    split
    · rename_i h; exact h.symm
    · rfl
  · simp
theorem mem_putM {m : List (κ × Value)} {x : κ} {v : Value} {y : κ} : y ∈ (putM m x v).map (·.1) ↔ y = x ∨ y ∈ m.map (·.1) := by
  rw [putM_keys]
  split
  · rename_i h
    constructor
    · exact .inr
    · rintro (rfl | h')
      · exact h
      · exact h'
  · simp only [List.mem_append, List.mem_singleton]
    exact or_comm
theorem m_update (E : KeyE P k enc ok) (ht : P.underlying t = some (.map k e)) {b : Nat} {m : List (κ × Value)} (M : MapAt h b enc ok m) (x : κ) (hx : ok x) (v : Value) {K : Heap → Prop}
    (hk : ∀ h', MapAt h' b enc ok (putM m x v) → Only [b] h h' → K h') : RunU P (Instr.mapUpdate t (.map (some b)) (enc x) v) h K := by
  intro w hw
  subst hw
  obtain ⟨⟨es, clock, hb, hm, hbn, hnb⟩, hnd, hok⟩ := M
  obtain ⟨l, hl⟩ := E.key x hx
  have hck := fun em => E.keyed.check w em hl
  have hon : ∀ o : Obj, Only [b] w.heap (w.heap.setIfInBounds b o) := fun o => Only.set (Only.refl _ _) (.inl (by simp)) _
  rcases find_entry E hm hnd hok x hx w with ⟨h1, h2⟩ | ⟨j, v0, h1, h2, ⟨e0, he0, hek⟩, hjx⟩
  · have hnx : x ∉ m.map (·.1) := by
      intro hmem
      obtain ⟨p, hp, rfl⟩ := List.mem_map.1 hmem
      have := List.lookup_eq_none_iff.1 h2 p hp
      simp at this
    refine ⟨{ w with heap := w.heap.setIfInBounds b (.map (es.push { key := enc x, val := v, born := clock }) (clock + 1)) }, ?_, ⟨rfl, rfl, rfl⟩, hk _ ⟨⟨_, _, set_same hb _, ?_, ?_, ?_⟩, ?_, ?_⟩ (hon _)⟩
    · unfold Instr.mapUpdate
      simp only [Sem.run_bind, run_underlying ht, Result.andThen_ok, MapKept.run_getObj_map hb, hck, h1, MapKept.run_setObj_map _ hb]
    · rw [putM, if_neg hnx]
      simp [hm]
    · intro e he
      simp only [Array.toList_push, List.mem_append, List.mem_singleton] at he
      rcases he with he | rfl
      · have := hbn e he; omega
      · simp
    · simp only [Array.toList_push, List.map_append, List.map_cons, List.map_nil]
      rw [List.nodup_append]
      refine ⟨hnb, by simp, ?_⟩
      intro a ha b' hb' 
      simp only [List.mem_singleton] at hb'
      obtain ⟨e, he, rfl⟩ := List.mem_map.1 ha
      have := hbn e he
      omega
    · rw [putM_keys, if_neg hnx, List.nodup_append]
      exact ⟨hnd, by simp, fun a ha b' hb' => by simp at hb'; rintro rfl; subst hb'; exact hnx ha⟩
    · intro p hp
      rw [putM, if_neg hnx] at hp
      simp only [List.mem_append, List.mem_singleton] at hp
      rcases hp with hp | rfl
      · exact hok p hp
      · exact hx
  · have hmx : x ∈ m.map (·.1) := List.mem_of_getElem? hjx
    have hes : es.modify j (fun e => { e with key := enc x, val := v }) = es.modify j (fun e => { e with key := enc x, val := v }) := rfl
    refine ⟨{ w with heap := w.heap.setIfInBounds b (.map (es.modify j (fun e => { e with key := enc x, val := v })) clock) }, ?_, ⟨rfl, rfl, rfl⟩, hk _ ⟨⟨_, _, set_same hb _, ?_, ?_, ?_⟩, ?_, ?_⟩ (hon _)⟩
    · unfold Instr.mapUpdate
      have hst := E.keyed.stays w hl
      simp only [Sem.run_bind, run_underlying ht, Result.andThen_ok, MapKept.run_getObj_map hb, hck, h1, he0, Option.map_some, Option.getD_some, hek, hst, MapKept.run_setObj_map _ hb]
    · rw [putM, if_pos hmx]
      apply List.ext_getElem?
      intro i
      have hmi := congrArg (fun l => l[i]?) hm
      simp only [List.getElem?_map] at hmi ⊢
      simp only [Array.getElem?_toList, Array.getElem?_modify] at hmi ⊢
      by_cases hij : j = i
      · subst hij
        rw [if_pos rfl, he0]
        cases hp : m[j]? with
        | none => rw [he0, hp] at hmi; cases hmi
        | some p =>
          have : p.1 = x := by simpa [hp] using hjx
          simp [this]
      · rw [if_neg hij]
        cases hp : m[i]? with
        | none => rw [hp] at hmi; simpa using hmi
        | some p =>
          have hpx : p.1 ≠ x := by
            intro hpe
            have hix : (m.map (·.1))[i]? = some x := by simp [hp, hpe]
            exact hij ((List.getElem?_inj (by simpa using (List.getElem?_eq_some_iff.1 hjx).1) hnd).1 (hjx.trans hix.symm))
          rw [hp] at hmi
          simpa [hpx] using hmi
    · intro e he
      rw [Array.toList_modify] at he
      obtain ⟨i, hi⟩ := List.getElem?_of_mem he
      rw [List.getElem?_modify] at hi
      cases hp : es.toList[i]? with
      | none => rw [hp] at hi; cases hi
      | some q =>
        rw [hp] at hi
        have hq := hbn q (List.mem_of_getElem? hp)
        by_cases hji : j = i
        · have hi' : some ({ q with key := enc x, val := v } : MapEntry) = some e := by
            rw [← hi]
            show _ = some (if j = i then _ else _)
            rw [if_pos hji]
          injection hi' with hi'
          subst hi'
          exact hq
        · have hi' : some q = some e := by
            rw [← hi]
            show _ = some (if j = i then _ else _)
            rw [if_neg hji]
          injection hi' with hi'
          subst hi'
          exact hq
    · have e1 : (es.modify j (fun e => { e with key := enc x, val := v })).toList.map (·.born) = es.toList.map (·.born) := by
        apply List.ext_getElem?
        intro i
        simp only [List.getElem?_map, Array.getElem?_toList, Array.getElem?_modify]
        split <;> cases es[i]? <;> rfl
      rw [e1]
      exact hnb
    · rw [putM_keys, if_pos hmx]
      exact hnd
    · intro p hp
      rw [putM, if_pos hmx] at hp
      obtain ⟨q, hq, rfl⟩ := List.mem_map.1 hp
      split
      · exact hx
      · exact hok q hq
end
theorem m_mapLen (ht : P.underlying t = some (.map k e)) (ty : TypeId) (cs : Array Bool) {b : Nat} {m : List (κ × Value)} (M : MapAt h b enc ok m) (K : Value → Heap → Prop) :
    OpN P (Go.builtin .len #[t] ty cs #[.map (some b)]) h K = K (.int .i64 (m.length : Int)) h :=
  OpN_pure fun w hw => by
    subst hw
    obtain ⟨⟨es, clock, hb, hm, _, _⟩, _, _⟩ := M
    have hl := congrArg List.length hm
    simp only [List.length_map] at hl
    have hl' : es.size = m.length := by simpa using hl
    simp only [Go.builtin, Builtin.len_, Sem.run_bind]
    simp [run_underlying ht, MapKept.run_getObj_map hb, goInt, hl']

/-! ### A range over a map -/
/-- An iterator: what it has not met. -/
structure IterAt (h : Heap) (r b : Nat) (enc : κ → Value) (left : List (κ × Value)) : Prop where
  obj : ∃ es clock seen, h[b]? = some (.map es clock) ∧ h[r]? = some (.mapIter (some b) clock seen clock) ∧ (∀ e ∈ es.toList, e.born < clock) ∧ (es.toList.map (·.born)).Nodup ∧
    (leftOf es seen).toList.map (fun e => (e.key, e.val)) = left.map (fun p => (enc p.1, p.2))
theorem IterAt.only {h h' : Heap} {r b : Nat} {left : List (κ × Value)} (I : IterAt h r b enc left) {S : List Nat} (x : Only S h h') (hb : b ∉ S) (hr : r ∉ S) : IterAt h' r b enc left := by
  obtain ⟨es, clock, seen, h1, h2, h3⟩ := I.obj
  exact ⟨es, clock, seen, x.at h1 hb, x.at h2 hr, h3⟩
theorem IterAt.lt {r b : Nat} {left : List (κ × Value)} (I : IterAt h r b enc left) : r < h.size ∧ b < h.size ∧ r ≠ b := by
  obtain ⟨es, clock, seen, h1, h2, h3⟩ := I.obj
  refine ⟨lt_of_at h2, lt_of_at h1, ?_⟩
  rintro rfl
  rw [h1] at h2
  cases h2
theorem m_range (ht : P.underlying t = some (.map k e)) {b : Nat} {m : List (κ × Value)} (M : MapAt h b enc ok m) {K : Value → Heap → Prop} (hk : ∀ h', IterAt h' h.size b enc m → Ext h h' → h'.size = h.size + 1 → K (.pointer (some ⟨h.size, 0, none⟩)) h') :
    RunV P (Instr.range t (.map (some b))) h K := by
  intro w hw
  subst hw
  obtain ⟨⟨es, clock, hb, hm, hbn, hnb⟩, hnd, hok⟩ := M
  refine ⟨_, { w with heap := w.heap.push (.mapIter (some b) clock #[] clock) }, ?_, ⟨rfl, rfl, rfl⟩, hk _ ⟨es, clock, #[], push_old hb _, push_new _ _, hbn, hnb, ?_⟩ ((Ext.refl _).push _) (by simp)⟩
  · unfold Instr.range
    simp only [Sem.run_bind, run_underlying ht, Result.andThen_ok, MapKept.run_getObj_map hb, Sem.run_pure]
    simp [newObj, Sem.run]
  · have : leftOf es #[] = es := by simp [leftOf]
    rw [this, hm]
theorem m_next {r b : Nat} {left : List (κ × Value)} (I : IterAt h r b enc left) (ty : TypeId) {K : Value → Heap → Prop}
    (hend : left = [] → K (.tuple #[.bool false]) h)
    (hk : ∀ p l1 l2 h', left = l1 ++ p :: l2 → IterAt h' r b enc (l1 ++ l2) → Only [r] h h' → (∀ K : Value → Heap → Prop, RunV P (Instr.entry (.pointer (some ⟨r, 0, none⟩))) h' K = K (.tuple #[enc p.1, p.2]) h') → K (.tuple #[.bool true, enc p.1, p.2]) h') :
    RunV P (Instr.next (.pointer (some ⟨r, 0, none⟩)) false ty) h K := by
  intro w hw
  subst hw
  obtain ⟨es, clock, seen, hb, hr, hbn, hnb, hl⟩ := I.obj
  have hne := I.lt.2.2
  rcases run_next_at (P := P) w ty r b clock clock seen es clock hr hb hbn (Nat.le_refl _) with ⟨h0, hrun⟩ | ⟨e, he, w1, hw1, hrun⟩
  · refine ⟨_, w, hrun, Same.refl w, hend ?_⟩
    have := congrArg List.length hl
    simp only [List.length_map, Array.length_toList] at this
    exact List.length_eq_zero_iff.1 (by omega)
  · obtain ⟨i, hi⟩ := List.getElem?_of_mem he
    have hil : i < (leftOf es seen).toList.length := (List.getElem?_eq_some_iff.1 hi).1
    have hli := congrArg (fun l => l[i]?) hl
    simp only [List.getElem?_map, hi, Option.map_some] at hli
    cases hp : left[i]? with
    | none => rw [hp] at hli; cases hli
    | some p =>
      rw [hp] at hli
      simp only [Option.map_some, Option.some.injEq, Prod.mk.injEq] at hli
      have hpi := (List.getElem?_eq_some_iff.1 hp).1
      have hsplit : left = left.take i ++ p :: left.drop (i + 1) := by
        have := List.take_append_drop i left
        rw [List.drop_eq_getElem_cons hpi] at this
        rw [(List.getElem?_eq_some_iff.1 hp).2] at this
        exact this.symm
      have hw1' : w1.heap = w.heap ∧ Same w w1 := by
        rcases hw1 with rfl | rfl
        · exact ⟨rfl, Same.refl _⟩
        · exact ⟨rfl, rfl, rfl, rfl⟩
      have hem : e ∈ es.toList := by
        simp only [leftOf, Array.toList_filter, List.mem_filter] at he
        exact he.1
      have hb' : (setBlock w1 r (.mapIter (some b) clock (seen.push e.born) clock)).heap[b]? = some (.map es clock) := by
        show (w1.heap.setIfInBounds r _)[b]? = _
        rw [hw1'.1]
        exact set_other hb hne _
      have hr' : (setBlock w1 r (.mapIter (some b) clock (seen.push e.born) clock)).heap[r]? = some (.mapIter (some b) clock (seen.push e.born) clock) := by
        show (w1.heap.setIfInBounds r _)[r]? = _
        rw [hw1'.1]
        exact set_same hr _
      rw [hli.1, hli.2] at hrun
      refine ⟨_, _, hrun, ⟨hw1'.2.os, hw1'.2.tape, hw1'.2.output⟩, hk p _ _ _ hsplit ⟨es, clock, seen.push e.born, hb', hr', hbn, hnb, ?_⟩ ?_ ?_⟩
      · have e1 : (leftOf es (seen.push e.born)).toList = (leftOf es seen).toList.filter (fun x => x.born ≠ e.born) := by
          simp only [leftOf, Array.toList_filter, List.filter_filter]
          apply List.filter_congr
          intro x hx
          simp [Array.contains_push]
          exact Bool.and_comm _ _
        have e2 : ∀ (l : List MapEntry) (i : Nat), (l.map (·.born)).Nodup → l[i]? = some e → l.filter (fun x => x.born ≠ e.born) = l.take i ++ l.drop (i + 1) := by
          intro l
          induction l with
          | nil => intro i _ h; simp at h
          | cons a l ih =>
            intro i hn h
            simp only [List.map_cons, List.nodup_cons] at hn
            cases i with
            | zero =>
              simp at h
              subst h
              simp only [List.filter_cons, ne_eq, not_true, decide_false, Bool.false_eq_true, if_false, List.take_zero, List.nil_append, List.drop_succ_cons, List.drop_zero]
              apply List.filter_eq_self.2
              intro x hx
              simp only [decide_eq_true_eq]
              intro hxe
              exact hn.1 (hxe ▸ List.mem_map.2 ⟨x, hx, rfl⟩)
            | succ i =>
              simp only [List.getElem?_cons_succ] at h
              have hae : a.born ≠ e.born := by
                intro hxe
                exact hn.1 (hxe ▸ List.mem_map.2 ⟨e, List.mem_of_getElem? h, rfl⟩)
              rw [List.filter_cons, if_pos (by simpa using hae), ih i hn.2 h]
              simp
        have hsub : ((leftOf es seen).toList.map (·.born)).Nodup := by
          refine List.Nodup.sublist ?_ hnb
          simp only [leftOf, Array.toList_filter]
          exact List.Sublist.map _ List.filter_sublist
        rw [e1, e2 _ i hsub hi, List.map_append, List.map_append, List.map_take, List.map_drop, hl, List.map_take, List.map_drop]
      · show Only [r] w.heap (w1.heap.setIfInBounds r _)
        rw [hw1'.1]
        exact Only.set (Only.refl _ _) (.inl (by simp)) _
      · intro K'
        refine RunV_pure fun w2 hw2 => ?_
        rw [← hli.1, ← hli.2]
        exact run_entry_at w2 r b clock seen es clock e (by rw [hw2]; exact hr') (by rw [hw2]; exact hb') hem hnb
/-- How many are to come, off the heap. -/
def leftN (h : Heap) (b r : Nat) : Nat := match h[b]?, h[r]? with
  | some (.map es _), some (.mapIter _ _ seen _) => (leftOf es seen).size
  | _, _ => 0
theorem IterAt.leftN_eq {r b : Nat} {left : List (κ × Value)} (I : IterAt h r b enc left) : leftN h b r = left.length := by
  obtain ⟨es, clock, seen, hb, hr, _, _, hl⟩ := I.obj
  unfold leftN
  rw [hb, hr]
  have := congrArg List.length hl
  simpa using this
end Go.Hp
