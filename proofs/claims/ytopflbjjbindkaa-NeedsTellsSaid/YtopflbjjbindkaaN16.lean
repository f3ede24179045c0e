/- The reference's Table: each point to which one leads, by Warshall's way. -/
import Derived.Test.YtopflbjjbindkaaN14
set_option linter.unusedVariables false
set_option linter.unusedSimpArgs false
namespace Go.Proofs.Ytopflbjjbindkaa
open Go.Hp Go.RowKit

/-! ### The plain law -/
def Wk (E : Nat → Nat → Bool) : Nat → Nat → Nat → Bool
  | 0 => E
  | k + 1 => fun i j => Wk E k i j || (Wk E k i k && Wk E k k j)
theorem Wk_step {E : Nat → Nat → Bool} {k i j : Nat} (h : Wk E k i j = true) : Wk E (k + 1) i j = true := by
  show (_ || _) = true
  rw [h]
  rfl
theorem Wk_mono {E : Nat → Nat → Bool} {i j : Nat} : ∀ {k m : Nat}, k ≤ m → Wk E k i j = true → Wk E m i j = true := by
  intro k m h h1
  induction m with
  | zero => rw [show k = 0 by omega] at h1; exact h1
  | succ m ih =>
    by_cases hk : k = m + 1
    · rw [hk] at h1; exact h1
    · exact Wk_step (ih (by omega))
theorem Wk_succ {E : Nat → Nat → Bool} {k i j : Nat} : Wk E (k + 1) i j = true ↔ Wk E k i j = true ∨ (Wk E k i k = true ∧ Wk E k k j = true) := by
  show (_ || (_ && _)) = true ↔ _
  rw [Bool.or_eq_true, Bool.and_eq_true]
theorem Wk_col (E : Nat → Nat → Bool) (k i : Nat) : Wk E (k + 1) i k = Wk E k i k := by
  show (_ || (_ && _)) = _
  cases Wk E k i k <;> simp
theorem Wk_row (E : Nat → Nat → Bool) (k j : Nat) : Wk E (k + 1) k j = Wk E k k j := by
  show (_ || (_ && _)) = _
  cases Wk E k k j <;> simp
theorem Wk_trans {E : Nat → Nat → Bool} : ∀ (k : Nat) {m i j : Nat}, m < k → Wk E k i m = true → Wk E k m j = true → Wk E k i j = true
  | k + 1, m, i, j, hm, h1, h2 => by
    by_cases hmk : m = k
    · subst hmk
      rw [Wk_col] at h1
      rw [Wk_row] at h2
      exact Wk_succ.2 (.inr ⟨h1, h2⟩)
    · have hm' : m < k := by omega
      rcases Wk_succ.1 h1 with a | ⟨a, b⟩ <;> rcases Wk_succ.1 h2 with c | ⟨c, d⟩
      · exact Wk_step (Wk_trans k hm' a c)
      · exact Wk_succ.2 (.inr ⟨Wk_trans k hm' a c, d⟩)
      · exact Wk_succ.2 (.inr ⟨a, Wk_trans k hm' b c⟩)
      · exact Wk_succ.2 (.inr ⟨a, d⟩)
def wayB (nn : List (List Int)) (i j : Nat) : Bool := (waysL nn i).contains (j : Int)
theorem wayB_iff {nn : List (List Int)} {i j : Nat} : wayB nn i j = true ↔ Way nn i j := by
  unfold wayB Way
  simp
theorem lead_trans {nn : List (List Int)} {a b c : Nat} (h1 : Lead nn a b) (h2 : Lead nn b c) : Lead nn a c := by
  induction h2 with
  | one h => exact .step h1 h
  | step _ h ih => exact .step ih h
theorem Wk_lead {nn : List (List Int)} : ∀ (k : Nat) {i j : Nat}, Wk (wayB nn) k i j = true → Lead nn i j
  | 0, i, j, h => .one (wayB_iff.1 h)
  | k + 1, i, j, h => by
    rcases Wk_succ.1 h with a | ⟨a, b⟩
    · exact Wk_lead k a
    · exact lead_trans (Wk_lead k a) (Wk_lead k b)
theorem lead_Wk {nn : List (List Int)} {i j : Nat} (h : Lead nn i j) : Wk (wayB nn) nn.length i j = true := by
  induction h with
  | one h => exact Wk_mono (Nat.zero_le _) (wayB_iff.2 h)
  | step hl h ih =>
    rename_i m j
    obtain ⟨m', h1, h2⟩ : ∃ m' : Nat, m' < nn.length ∧ (m : Int) = m' := by
      cases hl with
      | one h => exact mem_ways h
      | step _ h => exact mem_ways h
    exact Wk_trans _ (by omega) ih (Wk_mono (Nat.zero_le _) (wayB_iff.2 h))

/-! ### Tables -/
def rowB (n : Nat) (p : Nat → Bool) : List Bool := (List.range n).map p
theorem rowB_get {n : Nat} {p : Nat → Bool} {j : Nat} (h : j < n) : (rowB n p)[j]? = some (p j) := by
  unfold rowB
  rw [List.getElem?_map, List.getElem?_range h]
  rfl
theorem rowB_congr {n : Nat} {p q : Nat → Bool} (h : ∀ j, j < n → p j = q j) : rowB n p = rowB n q :=
  List.map_congr_left fun j hj => h j (by simpa using hj)
theorem rowB_length (n : Nat) (p : Nat → Bool) : (rowB n p).length = n := by simp [rowB]
theorem rowB_set {n : Nat} {p : Nat → Bool} {j : Nat} (b : Bool) : (rowB n p).set j b = rowB n (fun x => if x = j then b else p x) := by
  apply List.ext_getElem?
  intro x
  by_cases hx : x < n
  · rw [rowB_get hx]
    by_cases hxj : x = j
    · subst hxj
      rw [List.getElem?_set_self (by rw [rowB_length]; exact hx), if_pos rfl]
    · rw [List.getElem?_set_ne (by omega), rowB_get hx, if_neg hxj]
  · rw [List.getElem?_eq_none (by simp [rowB]; omega), List.getElem?_eq_none (by simp [rowB]; omega)]
def upd2 (M : Nat → Nat → Bool) (i j : Nat) (b : Bool) : Nat → Nat → Bool := fun x y => if x = i then (if y = j then b else M x y) else M x y
def slB (n : Nat) (r : Nat) : Value := .slice (some ⟨r, 0, none⟩) n n
structure TabAt (h : Heap) (B : Nat) (v : Value) (n m : Nat) (M : Nat → Nat → Bool) : Prop where
  ex : ∃ rs : List Nat, Own h B 76 1 v m (rs.map (slB n)) ∧ rs.length = m ∧ rs.Nodup ∧ (∀ r ∈ rs, B ≤ r ∧ r ∉ blk v) ∧ ∀ (i r : Nat), rs[i]? = some r → h[r]? = some (.cells (bools (rowB n (M i))) 4 (0, 0))
theorem TabAt.ext {h h' : Heap} {B : Nat} {v : Value} {n m : Nat} {M : Nat → Nat → Bool} (T : TabAt h B v n m M) (x : Ext h h') : TabAt h' B v n m M := by
  obtain ⟨rs, h1, h2, h3, h4, h5⟩ := T.ex
  exact ⟨rs, h1.ext x, h2, h3, h4, fun i r hr => x.at (h5 i r hr)⟩
theorem TabAt.low {h : Heap} {B B' : Nat} {v : Value} {n m : Nat} {M : Nat → Nat → Bool} (T : TabAt h B v n m M) (hb : B' ≤ B) : TabAt h B' v n m M := by
  obtain ⟨rs, h1, h2, h3, h4, h5⟩ := T.ex
  exact ⟨rs, h1.low hb, h2, h3, fun r hr => ⟨Nat.le_trans hb (h4 r hr).1, (h4 r hr).2⟩, h5⟩
theorem TabAt.congr {h : Heap} {B : Nat} {v : Value} {n m : Nat} {M M' : Nat → Nat → Bool} (T : TabAt h B v n m M) (hm : ∀ i j, i < m → j < n → M i j = M' i j) : TabAt h B v n m M' := by
  obtain ⟨rs, h1, h2, h3, h4, h5⟩ := T.ex
  refine ⟨rs, h1, h2, h3, h4, fun i r hr => ?_⟩
  have hi : i < m := by rw [← h2]; exact (List.getElem?_eq_some_iff.1 hr).1
  rw [← rowB_congr fun j hj => hm i j hi hj]
  exact h5 i r hr
theorem TabAt.len {h : Heap} {B : Nat} {v : Value} {n m : Nat} {M : Nat → Nat → Bool} (T : TabAt h B v n m M) : ∃ A c, v = .slice A m c := by
  obtain ⟨rs, h1, _⟩ := T.ex
  exact h1.len
/-- A row. -/
theorem TabAt.row {h : Heap} {B : Nat} {v : Value} {n m : Nat} {M : Nat → Nat → Bool} (T : TabAt h B v n m M) {i : Nat} (hi : i < m) :
    ∃ g cap r, v = .slice (some ⟨g, 0, none⟩) m cap ∧ cellH h g i = some (.slice (some ⟨r, 0, none⟩) n n) ∧ B ≤ r ∧ r ≠ g ∧ B ≤ g ∧ (∀ j, j < n → cellH h r j = some (.bool (M i j)) ∧ okW h r j = true) ∧ ∀ j b, j < n → TabAt (setH h r j (.bool b)) B v n m (upd2 M i j b) := by
  obtain ⟨rs, h1, h2, h3, h4, h5⟩ := T.ex
  rcases h1.2 with ⟨_, h0⟩ | ⟨g, cap, cur, hv, hb, hg, h6, h7, h8, h9⟩
  · omega
  obtain ⟨r, hr⟩ : ∃ r, rs[i]? = some r := ⟨_, List.getElem?_eq_getElem (by omega)⟩
  have hrm := List.mem_of_getElem? hr
  have hbv : blk v = [g] := by rw [hv]; simp [blk, Value.ownBlock]
  have hrg : r ≠ g := by have := (h4 r hrm).2; rw [hbv] at this; simpa using this
  have p := h5 i r hr
  refine ⟨g, cap, r, hv, ?_, (h4 r hrm).1, hrg, hb, fun j hj => ⟨?_, okW_of p (by rw [bools_size, rowB_length]; exact hj)⟩, fun j b hj => ?_⟩
  · rw [cellH_of hg, ← Array.getElem?_toList]
    have := congrArg (fun z => z[i]?) h9
    simp only [List.getElem?_take_of_lt (show i < m * 1 by omega)] at this
    rw [this, List.getElem?_map, hr]
    rfl
  · rw [cellH_of p, bools_get, rowB_get hj]
    rfl
  · have o : Only [r] h (setH h r j (.bool b)) := setH_only (Only.refl _ _) (.inl (by simp)) _ _
    refine ⟨rs, h1.only o (by rw [hbv]; simp; exact fun e => hrg e.symm), h2, h3, h4, fun x y hy => ?_⟩
    by_cases hxi : x = i
    · subst hxi
      rw [hr] at hy
      injection hy with hy
      subst hy
      have := setH_at p j (.bool b)
      rw [bools_set, rowB_set] at this
      have e : rowB n (fun z => if z = j then b else M x z) = rowB n (upd2 M x j b x) := rowB_congr fun z _ => by unfold upd2; rw [if_pos rfl]
      rw [this, e]
    · have hyr : y ≠ r := by
        rintro rfl
        have e1 := List.getElem?_eq_some_iff.1 hy
        have e2 := List.getElem?_eq_some_iff.1 hr
        exact hxi ((List.getElem_inj h3).1 (e1.2.trans e2.2.symm))
      have e : rowB n (upd2 M i j b x) = rowB n (M x) := rowB_congr fun z _ => by unfold upd2; rw [if_neg hxi]
      rw [e]
      exact o.at (h5 x y hy) (by simpa using hyr)
theorem info76 : (Try.prog.info? 76).map (fun i => (i.zero, i.size, i.bytes)) = some (some (.slice none 0 0), 1, 24) := by kernel_rfl
theorem tab0 {h : Heap} {base : Nat} (hb : base ≤ h.size) (n : Nat) (M : Nat → Nat → Bool) : TabAt (h.push (.cells #[] 76 (0, 0))) base (.slice (some ⟨h.size, 0, none⟩) 0 0) n 0 M :=
  ⟨[], ⟨rfl, .inr ⟨h.size, 0, _, rfl, hb, push_new _ _, Nat.le_refl _, Nat.zero_le _, rfl, rfl⟩⟩, rfl, List.nodup_nil, fun r hr => by simp at hr, fun i r hr => by simp at hr⟩
/-- A row more. -/
theorem tab_push {h0 h h1 : Heap} {v : Value} {n m r : Nat} {M : Nat → Nat → Bool} (T : TabAt h h0.size v n m M) (hx : Ext h h1) (hr : r = h.size) (p : h1[r]? = some (.cells (bools (rowB n (M m))) 4 (0, 0))) (hm : m ≤ 1000000) (x : Ext h0 h) {K : Value → Heap → Prop}
    (hk : ∀ h' v', TabAt h' h0.size v' n (m + 1) M → Ext h0 h' → K v' h') :
    OpN Try.prog (Go.builtin .append #[74, 74] 74 #[false, false] #[v, .slice (some ⟨h1.size, 0, none⟩) 1 1]) (h1.push (.cells #[.slice (some ⟨r, 0, none⟩) n n] 76 (0, 0))) K := by
  obtain ⟨rs, o1, h2, h3, h4, h5⟩ := T.ex
  have x7 := hx.trans ((Ext.refl h1).push (.cells #[.slice (some ⟨r, 0, none⟩) n n] 76 (0, 0)))
  have z := x.size
  have zr := lt_of_at p
  have zh := hx.size
  refine o_append Try.underlying74 (z := .slice none 0 0) (size := 1) (bytes := 24) (e := 76) info76 rfl (by omega) _ _ (o1.ext x7) (m := 1) (news := [.slice (some ⟨r, 0, none⟩) n n]) rfl
    (fun i u hi => by rw [Nat.zero_add, cellH_push_new]; simpa using hi) (fun u hu => by simp only [List.mem_singleton] at hu; subst hu; rfl) (by omega) (by omega) (by simp; omega) ?_
  intro v8 h8 own8 o8 _ hb8
  have hrv : ∀ k ∈ blk v, k < h.size := fun k hk => (o1.ge k hk).2
  have hlt : ∀ y ∈ rs, y < h.size := fun y hy => by
    obtain ⟨i, hi⟩ := List.mem_iff_getElem?.1 hy
    exact lt_of_at (h5 i y hi)
  refine hk h8 v8 ⟨rs ++ [r], ?_, by simp [h2], ?_, fun y hy => ?_, fun i y hy => ?_⟩ (Only.fresh (x.trans x7) o8 (fun k hk => (o1.ge k hk).1))
  · rw [List.map_append]
    exact own8
  · rw [List.nodup_append]
    refine ⟨h3, by simp, fun a ha b hb => ?_⟩
    simp only [List.mem_singleton] at hb
    have := hlt a ha
    omega
  · have hyb : h0.size ≤ y ∧ y ∉ blk v ∧ y < h1.size := by
      rcases List.mem_append.1 hy with hy | hy
      · exact ⟨(h4 y hy).1, (h4 y hy).2, by have := hlt y hy; omega⟩
      · simp only [List.mem_singleton] at hy
        refine ⟨by omega, fun hm => ?_, by omega⟩
        have := hrv y hm
        omega
    refine ⟨hyb.1, fun hm => ?_⟩
    rcases hb8 y hm with hm | hm
    · exact hyb.2.1 hm
    · simp at hm
      omega
  · by_cases hi : i < m
    · rw [List.getElem?_append_left (by omega)] at hy
      have := x7.at (h5 i y hy)
      exact o8.at this (h4 y (List.mem_of_getElem? hy)).2
    · have hie : i = m := by
        have := (List.getElem?_eq_some_iff.1 hy).1
        simp at this
        omega
      subst hie
      rw [List.getElem?_append_right (by omega), h2] at hy
      simp at hy
      subst hy
      refine o8.at (((Ext.refl h1).push _).at p) fun hm => ?_
      have := hrv _ hm
      omega
end Go.Proofs.Ytopflbjjbindkaa
