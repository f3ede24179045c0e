/- JournalParts: for every way to part the store and every list of records and targets the law returns true, and its arguments read afterwards as before. No condition. -/
import Derived.Test.YtoefeflmcggbkaaRows
import Derived.Test.YtoefeflmcggbkaaP3
import Derived.Test.YtoefeflmcggbkaaHpA
set_option linter.unusedVariables false
set_option linter.unusedSimpArgs false
namespace Go.Proofs.Ytoefeflmcggbkaa
open Go.Hp Go.ChangeShapes Go.WideShapes Go.ChangeAt Go.RowKit

theorem own : ownKnob Try.prog.godebug = none := by kernel_rfl
theorem laidOut : laidOutB Try.prog = true := by kernel_rfl
theorem argS_of {α : Type} {h : Heap} {v : Value} {l : List α} {c : Nat} {R : List Value → α → Prop} {V : α → Nat → Value} (d : α) (hl : SlR c R h v l) (hlen : l.length ≤ 140737488355328) (hR : ∀ cs x, cs.length = c → R cs x → ∀ j, j < c → cs[j]? = some (V x j)) :
    ArgS h v l.length c (fun i j => V (l.getD i d) j) := by
  obtain ⟨A, cap, e, hlc, h⟩ := hl
  refine ⟨A, cap, e, hlen, fun h0 => ?_⟩
  rcases h with h | ⟨b, o, rfl, h⟩
  · omega
  · refine ⟨b, o, rfl, fun i hi j hj => ?_⟩
    obtain ⟨cs, hcs, hx, hr⟩ := h i l[i] (List.getElem?_eq_getElem hi)
    have hg : l.getD i d = l[i] := by simp [List.getD_eq_getElem?_getD, hi]
    show cellH _ b (o + i * c + j) = some (V (l.getD i d) j)
    rw [hg]
    exact hr j _ (hR cs _ hcs hx j hj)
set_option maxRecDepth 100000 in
theorem parts_lifted (os : Os) (started : os.Started) (H : Type) (enc : TypeId × Value → H) :
    ReturnsInHanded {} Try.checked os 4 .any (Rows.journalPartsSpec.pre6 enc Try.prog Try.f4 Rows.journalPartsRow.domain false) (Rows.journalPartsSpec.post enc Try.prog Try.f4 false true false false) := by
  refine returnsInHanded_of_change_sized (C := Try.checked) own started (by kernel_rfl) Try.func4
    (ChangeSpec.witness6 (enc := enc) (C := Try.checked) false ⟨#[], #[.int .u8 0, .int .u8 0, .slice none 0 0, .slice none 0 0], []⟩ 8 (by kernel_rfl) (by kernel_rfl) (by kernel_rfl) (by kernel_rfl)) ?_
  intro W base args ds gs before hval0 hW hcnd hsz0 _
  have hsz : (DataW.weightsEach Try.prog (Try.f4.params.toList ++ Rows.journalPartsSpec.plain.varTypes Try.prog) (ds ++ gs)).all (· ≤ reachBytes) = true := hsz0
  have hval : ∀ (j : Nat) t v, Try.f4.params[j]? = some t → args[j]? = some v → Value.okWide Try.prog W .any base t v := hval0
  have hW' := hW
  obtain ⟨p, q, hA0, hV, rfl, hfz, hnd⟩ := hW
  have hA : DataW.TrodAll enc Try.prog W 0 (fun _ => true) true Try.f4.params.toList args.toList ds p := hA0
  have hA1 := hA
  rw [Try.params4] at hA hval hsz
  obtain ⟨v0, vs0, d0, ds0, p0, q0, hargs, rfl, rfl, h0, r0⟩ := trodAll_cons hA
  obtain ⟨v1, vs1, d1, ds1, p1, q1, rfl, rfl, rfl, h1, r1⟩ := trodAll_cons r0
  obtain ⟨v2, vs2, d2, ds2, p2, q2, rfl, rfl, rfl, h2, r2⟩ := trodAll_cons r1
  obtain ⟨v3, vs3, d3, ds3, p3, q3, rfl, rfl, rfl, h3, r3⟩ := trodAll_cons r2
  obtain ⟨rfl, rfl, rfl⟩ := trodAll_nil r3
  obtain rfl : args = #[v0, v1, v2, v3] := by cases args; simp_all
  obtain ⟨rfl, rfl⟩ := trodVars_none hV
  have k0 := Rd.of hsz (j := 0) rfl rfl h0
  have k1 := Rd.of hsz (j := 1) rfl rfl h1
  have k2 := Rd.of hsz (j := 2) rfl rfl h2
  have k3 := Rd.of hsz (j := 3) rfl rfl h3
  obtain ⟨a, rfl⟩ : ∃ n, v0 = .int .u8 n := by
    obtain ⟨a, rfl, _⟩ := open_int Try.underlying5 (hval 0 5 v0 rfl rfl) h0
    exact ⟨a, rfl⟩
  obtain ⟨b, rfl⟩ : ∃ n, v1 = .int .u8 n := by
    obtain ⟨a, rfl, _⟩ := open_int Try.underlying5 (hval 1 5 v1 rfl rfl) h1
    exact ⟨a, rfl⟩
  obtain ⟨a2, len2, cap2, rfl⟩ := okWide_slice Try.underlying32 (hval 2 32 v2 rfl rfl)
  obtain ⟨a3, len3, cap3, rfl⟩ := okWide_slice Try.underlying54 (hval 3 54 v3 rfl rfl)
  obtain ⟨a', ha⟩ := k0.u8 Try.underlying5
  obtain ⟨b', hb⟩ := k1.u8 Try.underlying5
  have haa : a = (a'.toNat : Int) := by simpa [Value.cells] using ha
  have hbb : b = (b'.toNat : Int) := by simpa [Value.cells] using hb
  subst haa hbb
  obtain ⟨l, hl, hlw⟩ := Rd.slR (α := List UInt8) (R := fun cs x => cs = [str x] ∧ x.length ≤ reachBytes) Try.underlying32 (c := 1) (by kernel_rfl) (by omega) (fun cs h => h.string Try.underlying9) (show Rd enc Try.prog W 32 [_] from k2)
  obtain ⟨t, ht, htw⟩ := Rd.slR (α := UInt8) (R := fun cs x => cs = [byteV x]) Try.underlying54 (c := 1) (by kernel_rfl) (by omega) (fun cs h => h.u8 Try.underlying5) (show Rd enc Try.prog W 54 [_] from k3)
  have hb9 : Try.prog.bytesOf 9 = 16 := by kernel_rfl
  have hb5 : Try.prog.bytesOf 5 = 1 := by kernel_rfl
  rw [hb9] at hlw
  rw [hb5] at htw
  have hll : l.length ≤ 140737488355328 := by simp only [reachBytes] at hlw; omega
  have htl : t.length ≤ 140737488355328 := by simp only [reachBytes] at htw; omega
  have S2 : ArgS W.heap (.slice a2 len2 cap2) l.length 1 (fun i j => str (l.getD i [])) := argS_of (V := fun x _ => str x) [] hl hll (fun cs x _ h j hj => by
    obtain ⟨rfl, _⟩ := h
    have : j = 0 := by omega
    subst this
    rfl)
  have S3 : ArgS W.heap (.slice a3 len3 cap3) t.length 1 (fun i j => byteV (t.getD i 0)) := argS_of (V := fun x _ => byteV x) 0 ht htl (fun cs x _ h j hj => by
    subst h
    have : j = 0 := by omega
    subst this
    rfl)
  have hok : ∀ i, (l.getD i []).length ≤ 140737488355328 := by
    intro i
    by_cases hi : i < l.length
    · obtain ⟨A, cap, e, hlc, h⟩ := hl
      rcases h with h | ⟨b, o, rfl, h⟩
      · omega
      · obtain ⟨cs, _, ⟨rfl, hx⟩, hr⟩ := h i l[i] (List.getElem?_eq_getElem hi)
        have hg : l.getD i [] = l[i] := by simp [List.getD_eq_getElem?_getD, hi]
        rw [hg]
        simp only [reachBytes] at hx
        omega
    · have hg : l.getD i [] = [] := by simp [List.getD_eq_getElem?_getD, hi]
      rw [hg]
      simp
  have hc := parts_spec a' b' S2 hok S3 (K := fun v h' => v = .bool true ∧ Ext W.heap h') (fun h' x => ⟨rfl, x⟩)
  refine (calls_of (R4 _) hc rfl).mono ?_
  rintro e W' ⟨v, rfl, hs, rfl, hx⟩
  have bel := below_of hs hx
  exact ⟨_, rfl, _, _, _, [], _, [], hW', trodAll_mk1 (shut_bool Try.underlying4 _), law_args laidOut bel (of_decide_eq_true (by kernel_rfl)) hA1, rfl, bel.frame _, fun h => by cases h⟩
theorem JournalParts_holds : Rows.JournalPartsSaid :=
  OpenClaim.holds_of_wide 4 Try.f4 rfl rfl rfl rfl rfl rfl rfl ⟨rfl, rfl, rfl, rfl, rfl⟩ rfl rfl rfl rfl rfl (by kernel_rfl) Try.func4 (by kernel_rfl)
    (of_decide_eq_true (by kernel_rfl)) (by unfold Func.isWrapper; first | (rw [if_pos (by decide +kernel)]; kernel_rfl) | (rw [if_neg (by decide +kernel)]; exact ⟨rfl, rfl⟩))
    (fun os started H enc _ => parts_lifted os started H enc)
#print axioms JournalParts_holds
end Go.Proofs.Ytoefeflmcggbkaa
