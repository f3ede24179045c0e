/- The plain law of parts: frames one behind the other, zeros behind. -/
import Derived.Test.YtoefeflmcggbkaaJ18
set_option linter.unusedVariables false
set_option linter.unusedSimpArgs false
namespace Go.Proofs.Ytoefeflmcggbkaa
open Go.Hp Go.RowKit

def flatF (l : List (List UInt8)) : List UInt8 := (l.map frameL).flatten
theorem flatF_cons (r : List UInt8) (l : List (List UInt8)) : flatF (r :: l) = frameL r ++ flatF l := rfl
theorem flatF_snoc (r : List UInt8) (l : List (List UInt8)) : flatF (l ++ [r]) = flatF l ++ frameL r := by simp [flatF]
theorem frameE_zero {r : List UInt8} (h : frameE r = 0) : 1 ≤ r.length ∧ r.length ≤ 400 := by
  unfold frameE at h
  split at h
  · omega
  · omega
theorem laid2 (n : Nat) (hn : n ≤ 400) : laidL (BitVec.ofNat 32 n) 2 = [UInt8.ofNat (n / 256), UInt8.ofNat (n % 256)] := by
  have e1 : (BitVec.ofNat 32 n >>> (8 * (2 - 1 - 0))).toNat = n / 256 := by
    simp [BitVec.toNat_ushiftRight, Nat.shiftRight_eq_div_pow]
    rw [Nat.mod_eq_of_lt (by omega)]
  have e2 : (BitVec.ofNat 32 n >>> (8 * (2 - 1 - 1))).toNat = n := by
    simp
    omega
  simp only [laidL, show List.range 2 = [0, 1] from rfl, List.map_cons, List.map_nil, e1, e2]
  congr 2
  apply UInt8.toNat.inj
  simp
theorem lenL_frame {r : List UInt8} (hr : r.length ≤ 400) (t : List UInt8) : lenL (frameL r ++ t) = r.length := by
  unfold lenL frameL
  rw [laid2 _ hr]
  simp only [List.append_assoc, List.cons_append, List.nil_append, List.getD_cons_succ, List.getD_cons_zero]
  simp
  omega
theorem oneL_frame {r : List UInt8} (h : frameE r = 0) (t : List UInt8) : oneL (frameL r ++ t) = some r := by
  obtain ⟨h1, h2⟩ := frameE_zero h
  have hl := lenL_frame h2 t
  have hlen : (frameL r ++ t).length = r.length + 8 + t.length := by rw [List.length_append, frameL_length]
  have hd : ((frameL r ++ t).drop 7).take r.length = r := by
    unfold frameL
    rw [laid2 _ h2]
    have h4 := laidL_length (sumL r) 4
    obtain ⟨a, b, c, d, e⟩ : ∃ a b c d, laidL (sumL r) 4 = [a, b, c, d] := by
      match laidL (sumL r) 4, h4 with
      | [a, b, c, d], _ => exact ⟨a, b, c, d, rfl⟩
    rw [e]
    simp
  rw [oneL_eq, hl, hd, hlen]
  rw [if_pos]
  refine ⟨by omega, h1, h2, by omega, ?_⟩
  rw [show 8 + r.length = (frameL r).length by rw [frameL_length]; omega]
  simp
theorem oneL_zeros (m : Nat) : oneL (List.replicate m 0) = none := by
  unfold oneL
  rw [if_pos]
  by_cases h : m < 9
  · left; simpa using h
  · right
    rw [List.getD_eq_getElem?_getD, List.getElem?_replicate, if_pos (by omega)]
    decide
theorem scan_flat : ∀ (l : List (List UInt8)) (m : Nat), (∀ r ∈ l, frameE r = 0) → scanL (flatF l ++ List.replicate m 0) = (l, (flatF l).length) := by
  intro l
  induction l with
  | nil =>
    intro m _
    simp only [flatF, List.map_nil, List.flatten_nil, List.nil_append, List.length_nil]
    exact scanL_none (oneL_zeros m)
  | cons r l ih =>
    intro m h
    have h1 := oneL_frame (h r (by simp)) (flatF l ++ List.replicate m 0)
    rw [flatF_cons, List.append_assoc, scanL_some h1]
    have e : (frameL r ++ (flatF l ++ List.replicate m 0)).drop (r.length + 8) = flatF l ++ List.replicate m 0 := by
      rw [← frameL_length r]
      simp
    rw [e, ih m fun x hx => h x (by simp [hx]), List.length_append, frameL_length]
    simp only [Prod.mk.injEq, true_and]
    omega

/-! ### Blocks put -/
/-- The store is up, and no fuse burns. -/
def Calm (s : Sto) : Prop := s.fuse = -1 ∧ s.down = false
theorem calm_write {s : Sto} (hs : s.ok) (hc : Calm s) {i : Nat} (hi : i < s.n) {d : List UInt8} (hd : d.length = 32) :
    writeS s (i : Int) d = (0, { s with bs := blit s.bs (32 * i) d }) := by
  obtain ⟨h1, h2⟩ := hc
  have hm : mayS s (i : Int) = 0 := by
    unfold mayS
    rw [if_neg (by rw [h2]; simp), if_neg (by omega)]
  unfold writeS
  rw [if_neg (by rw [hm]; simp), if_neg (by omega), if_neg (by rw [h1]; omega), h1]
  cases s
  simp only [Prod.mk.injEq, true_and] at h1 ⊢
  congr 1
structure Put (s s' : Sto) (pf i k : Nat) (all : List UInt8) : Prop where
  ok : s'.ok
  calm : Calm s'
  n : s'.n = s.n
  blk : ∀ m, m < s.n → blkL s'.bs m = if pf + i ≤ m ∧ m < pf + i + k then blkL all (m - pf) else blkL s.bs m
theorem put_calm {pf nb : Nat} {was all : List UInt8} (must : Bool) (hall : all.length = 32 * nb) : ∀ (k i : Nat) (s : Sto), s.ok → Calm s → pf + nb ≤ s.n → i + k ≤ nb → (must = false → ∀ m, i ≤ m → m < i + k → blkL s.bs (pf + m) = blkL was m) →
    (putN pf was all must k i s).1 = 0 ∧ Put s (putN pf was all must k i s).2 pf i k all := by
  intro k
  induction k with
  | zero =>
    intro i s hs hc hn hi hw
    refine ⟨rfl, hs, hc, rfl, fun m hm => ?_⟩
    rw [if_neg (by omega)]
    rfl
  | succ k ih =>
    intro i s hs hc hn hi hw
    have hbl : (blkL all i).length = 32 := blkL_length (by omega)
    have hcw := calm_write hs hc (i := pf + i) (by omega) hbl
    simp only [putN]
    rw [hcw]
    simp only [if_true]
    split
    · rename_i h
      obtain ⟨hm, heq⟩ := h
      obtain ⟨h1, h2, h3, h4, h5⟩ := ih (i + 1) s hs hc hn (by omega) (fun hf m h1 h2 => hw hf m (by omega) (by omega))
      refine ⟨h1, h2, h3, h4, fun m hmn => ?_⟩
      rw [h5 m hmn]
      by_cases e : m = pf + i
      · subst e
        rw [if_neg (by omega), if_pos (by omega), Nat.add_sub_cancel_left, heq]
        exact hw hm i (Nat.le_refl _) (by omega)
      · by_cases e2 : pf + (i + 1) ≤ m ∧ m < pf + (i + 1) + k
        · rw [if_pos e2, if_pos (by omega)]
        · rw [if_neg e2, if_neg (by omega)]
    · have hok1 : Sto.ok { s with bs := blit s.bs (32 * (pf + i)) (blkL all i) } := by
        have := writeS_ok hs ((pf + i : Nat) : Int) (blkL all i)
        rw [hcw] at this
        exact this
      have hl := hs.1
      have hne : ∀ m, m ≠ pf + i → blkL (blit s.bs (32 * (pf + i)) (blkL all i)) m = blkL s.bs m := fun m hm => blk_blit_ne (by omega) (by omega) hm
      obtain ⟨h1, h2, h3, h4, h5⟩ := ih (i + 1) { s with bs := blit s.bs (32 * (pf + i)) (blkL all i) } hok1 hc hn (by omega) (fun hf m h1 h2 => by
        rw [← hw hf m (by omega) (by omega)]
        exact hne _ (by omega))
      refine ⟨h1, h2, h3, h4, fun m hmn => ?_⟩
      rw [h5 m hmn]
      by_cases e : m = pf + i
      · subst e
        rw [if_neg (by omega), if_pos (by omega), Nat.add_sub_cancel_left]
        show blkL (blit s.bs (32 * (pf + i)) (blkL all i)) (pf + i) = _
        rw [blk_blit_eq (by omega) (by omega), hbl]
        have : (blkL s.bs (pf + i)).length = 32 := blkL_length (by omega)
        rw [List.drop_of_length_le (by omega), List.append_nil]
      · by_cases e2 : pf + (i + 1) ≤ m ∧ m < pf + (i + 1) + k
        · rw [if_pos e2, if_pos (by omega)]
        · rw [if_neg e2, if_neg (by omega)]
          exact hne m e
theorem drop_past {a b : List UInt8} {k : Nat} (h : a.length ≤ k) : (a ++ b).drop k = b.drop (k - a.length) := by rw [List.drop_append, List.drop_of_length_le h, List.nil_append]
/-- Lists of blocks are their blocks. -/
theorem blk_ext {a b : List UInt8} {n : Nat} (ha : a.length = 32 * n) (hb : b.length = 32 * n) (h : ∀ i, i < n → blkL a i = blkL b i) : a = b := by
  apply List.ext_getElem?
  intro p
  by_cases hp : p < 32 * n
  · have := congrArg (fun l => l[p % 32]?) (h (p / 32) (by omega))
    simp only [blkL, List.getElem?_take, if_pos (Nat.mod_lt p (by omega : 0 < 32)), List.getElem?_drop] at this
    rwa [show 32 * (p / 32) + p % 32 = p by omega] at this
  · rw [List.getElem?_eq_none (by omega), List.getElem?_eq_none (by omega)]
theorem partL_of_blk {s s' : Sto} (hs : s.ok) (hs' : s'.ok) {f n : Nat} (h1 : f + n ≤ s.n) (h2 : s'.n = s.n) (h : ∀ m, f ≤ m → m < f + n → blkL s'.bs m = blkL s.bs m) : partL s' f n = partL s f n := by
  refine blk_ext (partL_length hs' (by omega)) (partL_length hs h1) fun i hi => ?_
  rw [part_blk hi, part_blk hi]
  exact h _ (by omega) (by omega)
structure PartIs (s : Sto) (j : Jr) : Prop where
  fits : j.f + j.n ≤ s.n
  part : partL s j.f j.n = flatF j.l ++ List.replicate (32 * j.n - j.e) 0
  e : j.e = (flatF j.l).length
  en : j.e ≤ 32 * j.n
  fr : ∀ r ∈ j.l, frameE r = 0
  down : j.down = false
theorem PartIs.scan {s : Sto} {j : Jr} (p : PartIs s j) : scanL (partL s j.f j.n) = (j.l, j.e) := by
  rw [p.part, scan_flat _ _ p.fr, p.e]
theorem PartIs.jr {s : Sto} {j : Jr} (p : PartIs s j) : jr0 s j.f j.n = j := by
  unfold jr0
  rw [p.scan]
  cases j
  simp only [Jr.mk.injEq, true_and]
  exact p.down.symm
/-- What is opened stays. -/
theorem PartIs.open {s : Sto} (hs : s.ok) (hc : Calm s) {j : Jr} (p : PartIs s j) : (openP s j.f j.n).1 = 0 ∧ Put s (openP s j.f j.n).2 j.f 0 0 [] := by
  unfold openP
  rw [p.scan]
  have hl := partL_length hs p.fits
  have hcl : clearL (partL s j.f j.n) j.e = partL s j.f j.n := by
    unfold clearL
    rw [hl]
    rw [p.part, p.e, List.take_left]
  simp only
  rw [hcl]
  obtain ⟨h1, h2, h3, h4, h5⟩ := put_calm (pf := j.f) (nb := j.n) (was := partL s j.f j.n) (all := partL s j.f j.n) false hl (j.n - j.e / 32) (j.e / 32) s hs hc p.fits (by have := p.en; omega) (fun _ m h1 h2 => (part_blk (by have := p.en; omega)).symm)
  refine ⟨h1, h2, h3, h4, fun m hm => ?_⟩
  rw [h5 m hm]
  split
  · rw [part_blk (by have := p.en; omega), if_neg (by omega)]
    congr 1
    omega
  · rw [if_neg (by omega)]
theorem PartIs.put {s s' : Sto} (hs : s.ok) {j : Jr} (p : PartIs s j) {pf i k : Nat} {all : List UInt8} (h : Put s s' pf i k all) (hd : ∀ m, j.f ≤ m → m < j.f + j.n → ¬ (pf + i ≤ m ∧ m < pf + i + k)) : PartIs s' j := by
  refine ⟨by rw [h.n]; exact p.fits, ?_, p.e, p.en, p.fr, p.down⟩
  rw [partL_of_blk hs h.ok p.fits h.n fun m h1 h2 => ?_]
  · exact p.part
  · rw [h.blk m (by have := p.fits; omega), if_neg (hd m h1 h2)]
theorem appendP_parts {s : Sto} (hs : s.ok) (hc : Calm s) {j : Jr} (p : PartIs s j) (r : List UInt8) :
    ((appendP s j r).1 = 0 ∧ (appendP s j r).2.2.l = j.l ++ [r] ∨ ((appendP s j r).1 = 3 ∨ (appendP s j r).1 = 14) ∧ (appendP s j r).2.2.l = j.l) ∧ (appendP s j r).2.1.ok ∧ Calm (appendP s j r).2.1 ∧ PartIs (appendP s j r).2.1 (appendP s j r).2.2 ∧
      ∀ j' : Jr, PartIs s j' → (j'.f + j'.n ≤ j.f ∨ j.f + j.n ≤ j'.f) → PartIs (appendP s j r).2.1 j' := by
  unfold appendP
  split
  · rename_i h
    refine ⟨.inr ⟨.inl ?_, rfl⟩, hs, hc, p, fun _ h _ => h⟩
    show frameE r = 3
    unfold frameE at h ⊢
    split
    · rfl
    · rename_i h2; rw [if_neg h2] at h; exact absurd rfl h
  split
  · exact ⟨.inr ⟨.inr rfl, rfl⟩, hs, hc, p, fun _ h _ => h⟩
  rename_i h1 h2
  rw [if_neg (by rw [p.down]; simp)]
  have hr : frameE r = 0 := by omega
  have hfl : j.e + (frameL r).length ≤ 32 * j.n := by omega
  have hl := partL_length hs p.fits
  have hall := appAll_eq hs p.fits hfl
  have htake : (partL s j.f j.n).take j.e = flatF j.l := by rw [p.part, p.e, List.take_left]
  rw [htake] at hall
  have hallL : (appAll s j r).length = 32 * j.n := by
    rw [hall]
    simp only [List.length_append, List.length_replicate]
    have := p.e
    omega
  obtain ⟨q1, q2⟩ := put_calm (pf := j.f) (nb := j.n) (was := partL s j.f j.n) (all := appAll s j r) true hallL ((j.e + (frameL r).length + 31) / 32 - j.e / 32) (j.e / 32) s hs hc p.fits (by omega) (fun h => by cases h)
  have q1' : (appPut s j r).1 = 0 := q1
  have q2' : Put s (appPut s j r).2 j.f (j.e / 32) ((j.e + (frameL r).length + 31) / 32 - j.e / 32) (appAll s j r) := q2
  rw [if_neg (by omega)]
  refine ⟨.inl ⟨rfl, rfl⟩, q2'.ok, q2'.calm, ⟨by show j.f + j.n ≤ _; rw [q2'.n]; exact p.fits, ?_, ?_, hfl, ?_, p.down⟩, fun j' p' hd => p'.put hs q2' fun m h3 h4 => by omega⟩
  · show partL (appPut s j r).2 j.f j.n = flatF (j.l ++ [r]) ++ List.replicate (32 * j.n - (j.e + (frameL r).length)) 0
    rw [flatF_snoc, List.append_assoc, ← hall]
    refine blk_ext (partL_length q2'.ok (by rw [q2'.n]; exact p.fits)) hallL fun i hi => ?_
    rw [part_blk hi, q2'.blk _ (by have := p.fits; omega)]
    split
    · rw [Nat.add_sub_cancel_left]
    · rename_i hout
      rw [← part_blk hi (s := s), p.part, hall]
      unfold blkL
      have he := p.e
      by_cases hb : i < j.e / 32
      · rw [List.drop_append_of_le_length (by omega), List.drop_append_of_le_length (by omega), List.take_append_of_le_length (by rw [List.length_drop]; omega), List.take_append_of_le_length (by rw [List.length_drop]; omega)]
      · have hge : (j.e + (frameL r).length + 31) / 32 ≤ i := by omega
        have ea : flatF j.l ++ (frameL r ++ List.replicate (32 * j.n - (j.e + (frameL r).length)) (0 : UInt8)) = (flatF j.l ++ frameL r) ++ List.replicate (32 * j.n - (j.e + (frameL r).length)) 0 := by rw [List.append_assoc]
        rw [ea, drop_past (by omega), drop_past (by rw [List.length_append]; omega), List.drop_replicate, List.drop_replicate, List.take_replicate, List.take_replicate]
        congr 1
        rw [List.length_append]
        omega
  · show j.e + (frameL r).length = (flatF (j.l ++ [r])).length
    rw [flatF_snoc, List.length_append, p.e]
  · intro x hx
    simp only [List.mem_append, List.mem_singleton] at hx
    rcases hx with hx | rfl
    · exact p.fr x hx
    · exact hr
theorem part_new {f n : Nat} (h : f + n ≤ 60) : PartIs (newS 60) ⟨f, n, [], 0, false⟩ := by
  refine ⟨h, ?_, rfl, by simp, by simp, rfl⟩
  show partL (newS 60) f n = [] ++ List.replicate (32 * n - 0) 0
  simp only [partL, newS, List.drop_replicate, List.take_replicate, List.nil_append]
  congr 1
  omega
end Go.Proofs.Ytoefeflmcggbkaa
