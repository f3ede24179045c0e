/- JournalParts: what a round keeps. -/
import Derived.Test.YtoefeflmcggbkaaP1
set_option linter.unusedVariables false
set_option linter.unusedSimpArgs false
namespace Go.Proofs.Ytoefeflmcggbkaa
open Go.Hp Go.RowKit

structure Tri (F M : Nat → Nat) : Prop where
  f : ∀ k, k < 3 → 1 ≤ M k ∧ F k + M k ≤ 60
  d : ∀ k k', k < 3 → k' < 3 → k ≠ k' → F k + M k ≤ F k' ∨ F k' + M k' ≤ F k
def arr3 (f : Nat → Value) (e : TypeId) : Obj := .cells #[f 0, f 1, f 2] e (0, 0)
theorem arr3_cell {h : Heap} {c : Nat} {f : Nat → Value} {e : TypeId} (ho : h[c]? = some (arr3 f e)) {k : Nat} (hk : k < 3) : cellH h c k = some (f k) := by
  unfold arr3 at ho
  rw [cellH_of ho]
  match k, hk with
  | 0, _ => rfl
  | 1, _ => rfl
  | 2, _ => rfl
theorem arr3_ok {h : Heap} {c : Nat} {f : Nat → Value} {e : TypeId} (ho : h[c]? = some (arr3 f e)) {k : Nat} (hk : k < 3) : okW h c k = true := okW_of ho (by simpa using hk)
theorem arr3_set {h : Heap} {c : Nat} {f f' : Nat → Value} {e : TypeId} (ho : h[c]? = some (arr3 f e)) {k : Nat} (hk : k < 3) {v : Value} (h1 : f' k = v) (h2 : ∀ i, i ≠ k → f' i = f i) : (setH h c k v)[c]? = some (arr3 f' e) := by
  unfold arr3 at ho ⊢
  rw [setH_at ho, ← h1]
  match k, hk with
  | 0, _ => simp [h2]
  | 1, _ => simp [h2]
  | 2, _ => simp [h2]
def ptrs (m : Nat) (jb : Nat → Nat) (k : Nat) : Value := if k < m then .pointer (some ⟨jb k, 0, none⟩) else .pointer none
def upN {α : Type} (f : Nat → α) (k : Nat) (v : α) : Nat → α := fun i => if i = k then v else f i
theorem upN_same {α : Type} (f : Nat → α) (k : Nat) (v : α) : upN f k v k = v := by simp [upN]
theorem upN_other {α : Type} (f : Nat → α) {k i : Nat} (v : α) (h : i ≠ k) : upN f k v i = f i := by simp [upN, h]
def recol (col : Nat → Nat) (n c : Nat) : Nat → Nat := fun x => if n ≤ x then c else col x
theorem recol_old {col : Nat → Nat} {n c x : Nat} (h : x < n) : recol col n c x = col x := by unfold recol; rw [if_neg (by omega)]
theorem recol_new {col : Nat → Nat} {n c x : Nat} (h : n ≤ x) : recol col n c x = c := by unfold recol; rw [if_pos h]

structure JS (h0 h : Heap) (col : Nat → Nat) (b g c15 c16 c17 c18 : Nat) (F M : Nat → Nat) (s : Sto) (m : Nat) (jb : Nat → Nat) (vj wv : Nat → Value) (j : Nat → Jr) (L : Nat → List (List UInt8)) : Prop where
  ext : Ext h0 h
  hs : StoreAt h b g s
  calm : Calm s
  sn : s.n = 60
  o15 : h[c15]? = some (arr3 (fun k => .int .i64 (F k : Int)) 55)
  o16 : h[c16]? = some (arr3 (fun k => .int .i64 (M k : Int)) 55)
  o17 : h[c17]? = some (arr3 (ptrs m jb) 56)
  o18 : h[c18]? = some (arr3 wv 57)
  pi : ∀ k, k < 3 → PartIs s (j k) ∧ (j k).f = F k ∧ (j k).n = M k
  js : ∀ k, k < m → JAt h (jb k) b (j k) (vj k)
  ws : ∀ k, k < 3 → Own h 0 9 1 (wv k) (L k).length (strs (L k))
  old : ∀ x, x < h0.size → col x = 9
  cb : ∀ x ∈ [b, g], col x = 0
  cc : ∀ x ∈ [c15, c16], col x = 1
  c7 : col c17 = 10
  c8 : col c18 = 11
  cj : ∀ k, k < m → ∀ x ∈ jb k :: blk (vj k), col x = 12 + k
  cw : ∀ k, k < 3 → ∀ x ∈ blk (wv k), col x = 5 + k
variable {h0 h : Heap} {col : Nat → Nat} {b g c15 c16 c17 c18 : Nat} {F M : Nat → Nat} {s : Sto} {m : Nat} {jb : Nat → Nat} {vj wv : Nat → Value} {j : Nat → Jr} {L : Nat → List (List UInt8)}
theorem JS.lt (J : JS h0 h col b g c15 c16 c17 c18 F M s m jb vj wv j L) : (∀ x ∈ [b, g], x < h.size) ∧ (∀ x ∈ [c15, c16], x < h.size) ∧ c17 < h.size ∧ c18 < h.size ∧ (∀ k, k < m → ∀ x ∈ jb k :: blk (vj k), x < h.size) ∧ ∀ k, k < 3 → ∀ x ∈ blk (wv k), x < h.size := by
  refine ⟨?_, ?_, lt_of_at J.o17, lt_of_at J.o18, ?_, ?_⟩
  · intro x hx
    simp at hx
    rcases hx with rfl | rfl
    · exact J.hs.hd.elim fun _ hw => lt_of_at hw
    · exact lt_of_at J.hs.row
  · intro x hx
    simp at hx
    rcases hx with rfl | rfl
    · exact lt_of_at J.o15
    · exact lt_of_at J.o16
  · intro k hk x hx
    simp only [List.mem_cons] at hx
    rcases hx with rfl | hx
    · exact lt_of_at (J.js k hk).hd
    · exact ((J.js k hk).own.ge x hx).2
  · intro k hk x hx
    exact ((J.ws k hk).ge x hx).2
theorem JS.ext' (J : JS h0 h col b g c15 c16 c17 c18 F M s m jb vj wv j L) {h' : Heap} (e : Ext h h') : JS h0 h' col b g c15 c16 c17 c18 F M s m jb vj wv j L :=
  ⟨J.ext.trans e, J.hs.ext e, J.calm, J.sn, e.at J.o15, e.at J.o16, e.at J.o17, e.at J.o18, J.pi, fun k hk => (J.js k hk).ext e, fun k hk => (J.ws k hk).ext e, J.old, J.cb, J.cc, J.c7, J.c8, J.cj, J.cw⟩
/-- All of one colour may turn. -/
theorem JS.ext0 (J : JS h0 h col b g c15 c16 c17 c18 F M s m jb vj wv j L) {h' : Heap} {S : List Nat} (o : Only S h h') (hS : ∀ x ∈ S, col x ≠ 9) : Ext h0 h' :=
  ext_only_new J.ext o fun x hx => by
    rcases Nat.lt_or_ge x h0.size with h1 | h1
    · exact absurd (J.old x h1) (hS x hx)
    · exact h1
theorem JS.recol (J : JS h0 h col b g c15 c16 c17 c18 F M s m jb vj wv j L) (c : Nat) : JS h0 h (recol col h.size c) b g c15 c16 c17 c18 F M s m jb vj wv j L := by
  obtain ⟨z1, z2, z3, z4, z5, z6⟩ := J.lt
  exact ⟨J.ext, J.hs, J.calm, J.sn, J.o15, J.o16, J.o17, J.o18, J.pi, J.js, J.ws, fun x hx => by rw [recol_old (by have := J.ext.size; omega)]; exact J.old x hx, fun x hx => by rw [recol_old (z1 x hx)]; exact J.cb x hx, fun x hx => by rw [recol_old (z2 x hx)]; exact J.cc x hx,
    by rw [recol_old z3]; exact J.c7, by rw [recol_old z4]; exact J.c8, fun k hk x hx => by rw [recol_old (z5 k hk x hx)]; exact J.cj k hk x hx, fun k hk x hx => by rw [recol_old (z6 k hk x hx)]; exact J.cw k hk x hx⟩
/-- The store's two blocks turn. -/
theorem JS.store (J : JS h0 h col b g c15 c16 c17 c18 F M s m jb vj wv j L) {h' : Heap} {s' : Sto} (o : Only [b, g] h h') (hs : StoreAt h' b g s') (hc : Calm s') (hn : s'.n = s.n) (hp : ∀ j, PartIs s j → PartIs s' j) : JS h0 h' col b g c15 c16 c17 c18 F M s' m jb vj wv j L := by
  have hno : ∀ x, col x ≠ 0 → x ∉ [b, g] := fun x hx hm => hx (J.cb x hm)
  refine ⟨J.ext0 o fun x hx => by rw [J.cb x hx]; omega, hs, hc, hn.trans J.sn, o.at J.o15 (hno _ (by rw [J.cc c15 (by simp)]; omega)), o.at J.o16 (hno _ (by rw [J.cc c16 (by simp)]; omega)), o.at J.o17 (hno _ (by rw [J.c7]; omega)), o.at J.o18 (hno _ (by rw [J.c8]; omega)),
    fun k hk => ⟨hp _ (J.pi k hk).1, (J.pi k hk).2⟩, fun k hk => (J.js k hk).dis o fun x hx => hno x (by rw [J.cj k hk x hx]; omega), fun k hk => (J.ws k hk).only o fun x hx => hno x (by rw [J.cw k hk x hx]; omega), J.old, J.cb, J.cc, J.c7, J.c8, J.cj, J.cw⟩
/-- A journal more. -/
theorem JS.more (J : JS h0 h col b g c15 c16 c17 c18 F M s m jb vj wv j L) (hm : m < 3) {jn : Nat} {v : Value} (hj : JAt h jn b (j m) v) (hn : ∀ x ∈ jn :: blk v, col x = 12 + m) :
    JS h0 (setH h c17 m (.pointer (some ⟨jn, 0, none⟩))) col b g c15 c16 c17 c18 F M s (m + 1) (upN jb m jn) (upN vj m v) wv j L := by
  have o : Only [c17] h (setH h c17 m (.pointer (some ⟨jn, 0, none⟩))) := setH_only (Only.refl _ _) (.inl (by simp)) _ _
  have hno : ∀ x, col x ≠ 10 → x ∉ [c17] := fun x hx hm => hx (by simp at hm; rw [hm]; exact J.c7)
  refine ⟨J.ext0 o fun x hx => by simp at hx; rw [hx, J.c7]; omega, J.hs.dis o fun x hx => hno x (by rw [J.cb x hx]; omega), J.calm, J.sn, o.at J.o15 (hno _ (by rw [J.cc c15 (by simp)]; omega)), o.at J.o16 (hno _ (by rw [J.cc c16 (by simp)]; omega)), arr3_set J.o17 hm ?_ ?_, o.at J.o18 (hno _ (by rw [J.c8]; omega)),
    J.pi, fun k hk => ?_, fun k hk => (J.ws k hk).only o fun x hx => hno x (by rw [J.cw k hk x hx]; omega), J.old, J.cb, J.cc, J.c7, J.c8, fun k hk => ?_, J.cw⟩
  · unfold ptrs
    rw [if_pos (by omega), upN_same]
  · intro i hi
    unfold ptrs
    rw [upN_other _ _ hi]
    by_cases h1 : i < m
    · rw [if_pos h1, if_pos (by omega)]
    · rw [if_neg h1, if_neg (by omega)]
  · by_cases hk' : k = m
    · subst hk'
      rw [upN_same, upN_same]
      exact hj.dis o fun x hx => hno x (by rw [hn x hx]; omega)
    · rw [upN_other _ _ hk', upN_other _ _ hk']
      exact (J.js k (by omega)).dis o fun x hx => hno x (by rw [J.cj k (by omega) x hx]; omega)
  · by_cases hk' : k = m
    · subst hk'
      rw [upN_same, upN_same]
      exact hn
    · rw [upN_other _ _ hk', upN_other _ _ hk']
      exact J.cj k (by omega)
/-- A record is appended to one journal. -/
theorem JS.app (T : Tri F M) (J : JS h0 h col b g c15 c16 c17 c18 F M s 3 jb vj wv j L) {k : Nat} (hk : k < 3) (r : List UInt8) {h' : Heap} {v' : Value} (hs : StoreAt h' b g (appendP s (j k) r).2.1) (hj : JAt h' (jb k) b (appendP s (j k) r).2.2 v')
    (o : Only (b :: g :: jb k :: blk (vj k)) h h') (hb : ∀ x ∈ blk v', x ∈ blk (vj k) ∨ h.size ≤ x) :
    JS h0 h' (Go.Proofs.Ytoefeflmcggbkaa.recol col h.size (12 + k)) b g c15 c16 c17 c18 F M (appendP s (j k) r).2.1 3 jb (upN vj k v') wv (upN j k (appendP s (j k) r).2.2) L := by
  obtain ⟨p0, p1, p2⟩ := J.pi k hk
  obtain ⟨a1, a2, a3, a4, a5⟩ := appendP_parts J.hs.ok J.calm p0 r
  obtain ⟨f1, f2⟩ := appendP_f s (j k) r
  have hfr : ∀ x ∈ b :: g :: jb k :: blk (vj k), col x = 0 ∨ col x = 12 + k := fun x hx => by
    simp only [List.mem_cons] at hx
    rcases hx with rfl | rfl | hx
    · exact .inl (J.cb _ (by simp))
    · exact .inl (J.cb _ (by simp))
    · exact .inr (J.cj k hk x (by simpa using hx))
  have J' := J.recol (12 + k)
  have hno : ∀ x, col x ≠ 0 → col x ≠ 12 + k → x ∉ b :: g :: jb k :: blk (vj k) := fun x h1 h2 hm => by rcases hfr x hm with e | e; exact h1 e; exact h2 e
  refine ⟨J.ext0 o fun x hx => by rcases hfr x hx with e | e <;> omega, hs, a3, by rw [appendP_n]; exact J.sn, o.at J.o15 (hno _ (by rw [J.cc c15 (by simp)]; omega) (by rw [J.cc c15 (by simp)]; omega)), o.at J.o16 (hno _ (by rw [J.cc c16 (by simp)]; omega) (by rw [J.cc c16 (by simp)]; omega)), o.at J.o17 (hno _ (by rw [J.c7]; omega) (by rw [J.c7]; omega)), o.at J.o18 (hno _ (by rw [J.c8]; omega) (by rw [J.c8]; omega)),
    fun i hi => ?_, fun i hi => ?_, fun i hi => (J.ws i hi).only o fun x hx => hno x (by rw [J.cw i hi x hx]; omega) (by rw [J.cw i hi x hx]; omega), J'.old, J'.cb, J'.cc, J'.c7, J'.c8, fun i hi => ?_, J'.cw⟩
  · by_cases e : i = k
    · subst e
      rw [upN_same]
      exact ⟨a4, f1.trans p1, f2.trans p2⟩
    · rw [upN_other _ _ e]
      obtain ⟨q0, q1, q2⟩ := J.pi i hi
      refine ⟨a5 _ q0 ?_, q1, q2⟩
      rw [q1, q2, p1, p2]
      exact T.d i k hi hk e
  · by_cases e : i = k
    · subst e
      rw [upN_same, upN_same]
      exact hj
    · rw [upN_other _ _ e, upN_other _ _ e]
      exact (J.js i hi).dis o fun x hx => hno x (by rw [J.cj i hi x hx]; omega) (by rw [J.cj i hi x hx]; omega)
  · by_cases e : i = k
    · subst e
      rw [upN_same]
      intro x hx
      simp only [List.mem_cons] at hx
      rcases hx with rfl | hx
      · exact J'.cj i hi _ (by simp)
      · rcases hb x hx with h1 | h1
        · exact J'.cj i hi x (by simp [h1])
        · exact recol_new h1
    · rw [upN_other _ _ e]
      exact J'.cj i hi
/-- A record more is wanted. -/
theorem JS.want (J : JS h0 h col b g c15 c16 c17 c18 F M s m jb vj wv j L) {k : Nat} (hk : k < 3) {h1 h2 : Heap} {v' : Value} {l' : List (List UInt8)} (e1 : Ext h h1) (o : Only (blk (wv k)) h1 h2) (own : Own h2 0 9 1 v' l'.length (strs l')) (hb : ∀ x ∈ blk v', x ∈ blk (wv k) ∨ h.size ≤ x) :
    JS h0 (setH h2 c18 k v') (Go.Proofs.Ytoefeflmcggbkaa.recol col h.size (5 + k)) b g c15 c16 c17 c18 F M s m jb vj (upN wv k v') j (upN L k l') := by
  have J1 := (J.recol (5 + k)).ext' e1
  have hno : ∀ x, Go.Proofs.Ytoefeflmcggbkaa.recol col h.size (5 + k) x ≠ 5 + k → x ∉ blk (wv k) := fun x hx hm => hx (J1.cw k hk x hm)
  have o3 : Only [c18] h2 (setH h2 c18 k v') := setH_only (Only.refl _ _) (.inl (by simp)) _ _
  have o2 := (o.mono (T := c18 :: blk (wv k)) (by simp; intro a ha; exact .inr ha)).trans (o3.mono (T := c18 :: blk (wv k)) (by simp))
  have hno2 : ∀ x, Go.Proofs.Ytoefeflmcggbkaa.recol col h.size (5 + k) x ≠ 5 + k → Go.Proofs.Ytoefeflmcggbkaa.recol col h.size (5 + k) x ≠ 11 → x ∉ c18 :: blk (wv k) := fun x hx hy hm => by
    simp only [List.mem_cons] at hm
    rcases hm with rfl | hm
    · exact hy J1.c8
    · exact hno x hx hm
  have hnew : ∀ x ∈ blk v', Go.Proofs.Ytoefeflmcggbkaa.recol col h.size (5 + k) x = 5 + k := fun x hx => by
    rcases hb x hx with h' | h'
    · exact J1.cw k hk x h'
    · exact recol_new h'
  refine ⟨J1.ext0 o2 ?_, J1.hs.dis o2 fun x hx => hno2 x (by rw [J1.cb x hx]; omega) (by rw [J1.cb x hx]; omega), J1.calm, J1.sn, o2.at J1.o15 (hno2 _ (by rw [J1.cc c15 (by simp)]; omega) (by rw [J1.cc c15 (by simp)]; omega)), o2.at J1.o16 (hno2 _ (by rw [J1.cc c16 (by simp)]; omega) (by rw [J1.cc c16 (by simp)]; omega)), o2.at J1.o17 (hno2 _ (by rw [J1.c7]; omega) (by rw [J1.c7]; omega)),
    arr3_set (o.at J1.o18 (hno _ (by rw [J1.c8]; omega))) hk (upN_same _ _ _) (fun i hi => upN_other _ _ hi), J1.pi, fun i hi => (J1.js i hi).dis o2 fun x hx => hno2 x (by rw [J1.cj i hi x hx]; omega) (by rw [J1.cj i hi x hx]; omega), fun i hi => ?_, J1.old, J1.cb, J1.cc, J1.c7, J1.c8, J1.cj, fun i hi => ?_⟩
  · intro x hx
    simp only [List.mem_cons] at hx
    rcases hx with rfl | hx
    · rw [J1.c8]; omega
    · rw [J1.cw k hk x hx]; omega
  · by_cases e : i = k
    · subst e
      rw [upN_same, upN_same]
      exact own.only o3 fun x hx hm => by
        simp at hm
        have h5 := hnew x hx
        have h6 := J1.c8
        rw [hm] at h5
        omega
    · rw [upN_other _ _ e, upN_other _ _ e]
      exact (J1.ws i hi).only o2 fun x hx => hno2 x (by rw [J1.cw i hi x hx]; omega) (by rw [J1.cw i hi x hx]; omega)
  · by_cases e : i = k
    · subst e
      rw [upN_same]
      exact hnew
    · rw [upN_other _ _ e]
      exact J1.cw i hi
end Go.Proofs.Ytoefeflmcggbkaa
