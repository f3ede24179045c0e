/- Words of 32 bits, bytes, and strings made of bytes: rules. -/
import Derived.Test.YtopflbjjbindkaaHpL
import Derived.Lib.ConvBytes
set_option linter.unusedVariables false
set_option linter.unusedSimpArgs false
namespace Go.Hp
variable {P : Program} {h : Heap}
theorem u32_lit (n : Int) (h0 : 0 ≤ n) (h1 : n < 4294967296) : Value.int .u32 n = u32 (BitVec.ofNat 32 n.toNat) := by
  unfold u32
  simp only [BitVec.toNat_ofNat]
  congr 1
  omega
theorem u32_inj {a b : BitVec 32} : ((a.toNat : Int) = (b.toNat : Int)) ↔ a = b := by
  constructor
  · intro e; exact BitVec.eq_of_toNat_eq (by omega)
  · rintro rfl; rfl
theorem toNat_lt32 (a : BitVec 32) : (a.toNat : Int) < 4294967296 := by have := a.isLt; omega
theorem ofInt_toNat (a : BitVec 32) : BitVec.ofInt 32 (a.toNat : Int) = a := by
  apply BitVec.eq_of_toNat_eq
  simp only [BitVec.toNat_ofInt]
  have := a.isLt
  omega
theorem run_bits32 (op : BinOp) (t : TypeId) (x y : Operand) (a b r : BitVec 32) (w : World) (hr : (Op.intBits op .u32 (a.toNat : Int) (b.toNat : Int)).run P w = .ok (.int .u32 (IntKind.u32.wrap (r.toNat : Int))) w)
    (hop : op = .and ∨ op = .or ∨ op = .xor) : (binS op t x y (u32 a) (u32 b)).run P w = .ok (u32 r) w := by
  have e : IntKind.u32.wrap (r.toNat : Int) = (r.toNat : Int) := by rw [IntKind.wrap_u32]; have := toNat_lt32 r; omega
  unfold u32
  rw [binS_int]
  rcases hop with rfl | rfl | rfl <;> (simp only [binOp, ne_eq, not_true, if_false]; rw [hr, e])
theorem b32_xor (t : TypeId) (x y : Operand) (a b : BitVec 32) (K : Value → Heap → Prop) : RunV P (binS .xor t x y (u32 a) (u32 b)) h K = K (u32 (a ^^^ b)) h :=
  RunV_pure fun w _ => run_bits32 .xor t x y a b _ w (by
    show Sem.run P (pure (Value.int .u32 (IntKind.u32.wrap ((BitVec.ofInt 32 (a.toNat : Int) ^^^ BitVec.ofInt 32 (b.toNat : Int)).toNat : Int)))) w = _
    rw [ofInt_toNat, ofInt_toNat]; rfl) (by simp)
theorem b32_and (t : TypeId) (x y : Operand) (a b : BitVec 32) (K : Value → Heap → Prop) : RunV P (binS .and t x y (u32 a) (u32 b)) h K = K (u32 (a &&& b)) h :=
  RunV_pure fun w _ => run_bits32 .and t x y a b _ w (by
    show Sem.run P (pure (Value.int .u32 (IntKind.u32.wrap ((BitVec.ofInt 32 (a.toNat : Int) &&& BitVec.ofInt 32 (b.toNat : Int)).toNat : Int)))) w = _
    rw [ofInt_toNat, ofInt_toNat]; rfl) (by simp)
theorem u32_not (a : BitVec 32) (K : Value → Heap → Prop) : RunV P (Op.unary .xor (u32 a)) h K = K (u32 (~~~a)) h :=
  RunV_pure fun w _ => by
    have e : IntKind.u32.wrap ((~~~a).toNat : Int) = ((~~~a).toNat : Int) := by rw [IntKind.wrap_u32]; have := toNat_lt32 (~~~a); omega
    show Sem.run P (pure (Value.int .u32 (IntKind.u32.wrap ((BitVec.ofInt 32 (4294967295 : Int) ^^^ BitVec.ofInt 32 (a.toNat : Int)).toNat : Int)))) w = _
    rw [ofInt_toNat, show BitVec.ofInt 32 (4294967295 : Int) = BitVec.allOnes 32 from by decide, BitVec.allOnes_xor, e]
    rfl
theorem wrap32_ofInt (n : Int) : Value.int .u32 (IntKind.u32.wrap n) = u32 (BitVec.ofInt 32 n) := by
  unfold u32
  rw [IntKind.wrap_u32, BitVec.toNat_ofInt]
  congr 1
  omega
theorem b32_mul (t : TypeId) (x y : Operand) (a b : BitVec 32) (K : Value → Heap → Prop) : RunV P (binS .mul t x y (u32 a) (u32 b)) h K = K (u32 (a * b)) h :=
  RunV_pure fun w _ => by
    unfold u32; rw [binS_int]; simp only [binOp, Op.intArith, ne_eq, not_true, if_false, Sem.run_pure]
    rw [wrap32_ofInt]
    congr 2
theorem b32_sub (t : TypeId) (x y : Operand) (a b : BitVec 32) (K : Value → Heap → Prop) : RunV P (binS .sub t x y (u32 a) (u32 b)) h K = K (u32 (a - b)) h :=
  RunV_pure fun w _ => by
    unfold u32; rw [binS_int]; simp only [binOp, Op.intArith, ne_eq, not_true, if_false, Sem.run_pure]
    rw [wrap32_ofInt]
    congr 2
    apply BitVec.eq_of_toNat_eq
    rw [BitVec.toNat_ofInt, BitVec.toNat_sub]
    have := a.isLt
    have := b.isLt
    omega
theorem b32_shr (t : TypeId) (x y : Operand) (a : BitVec 32) (k : IntKind) (n : Int) (h0 : 0 ≤ n) (K : Value → Heap → Prop) : RunV P (binS .shr t x y (u32 a) (.int k n)) h K = K (u32 (a >>> n.toNat)) h :=
  RunV_pure fun w _ => by
    unfold u32; rw [binS_int]
    simp only [binOp, Op.shift, if_neg (show ¬ n < 0 by omega), Sem.run_pure]
    congr 2
    have hb : IntKind.u32.bits = 32 := rfl
    rw [hb]
    have e : (a >>> n.toNat).toNat = a.toNat / 2 ^ n.toNat := by simp [Nat.shiftRight_eq_div_pow]
    rw [e]
    have h2 : Int.fdiv (a.toNat : Int) (2 ^ (min n.toNat 32)) = ((a.toNat / 2 ^ (min n.toNat 32) : Nat) : Int) := by
      rw [Int.fdiv_eq_ediv_of_nonneg _ (by exact_mod_cast Nat.zero_le _)]
      push_cast
      rfl
    rw [h2]
    rcases Nat.le_total n.toNat 32 with hle | hle
    · rw [Nat.min_eq_left hle]
    · rw [Nat.min_eq_right hle, Nat.div_eq_of_lt a.isLt, Nat.div_eq_of_lt]
      exact Nat.lt_of_lt_of_le a.isLt (Nat.pow_le_pow_right (by decide) hle)
theorem b32_rem (t : TypeId) (x y : Operand) (a b : BitVec 32) (hb : b.toNat ≠ 0) (K : Value → Heap → Prop) : RunV P (binS .rem t x y (u32 a) (u32 b)) h K = K (u32 (a % b)) h :=
  RunV_pure fun w _ => by
    unfold u32; rw [binS_int]; simp only [binOp, Op.intDiv, ne_eq, not_true, if_false, if_neg (show ¬ (b.toNat : Int) = 0 by omega), Sem.run_pure]
    congr 2
theorem b32_quo (t : TypeId) (x y : Operand) (a b : BitVec 32) (hb : b.toNat ≠ 0) (K : Value → Heap → Prop) : RunV P (binS .quo t x y (u32 a) (u32 b)) h K = K (u32 (a / b)) h :=
  RunV_pure fun w _ => by
    unfold u32; rw [binS_int]; simp only [binOp, Op.intDiv, ne_eq, not_true, if_false, if_neg (show ¬ (b.toNat : Int) = 0 by omega), Sem.run_pure]
    congr 2
    rw [BitVec.toNat_udiv, IntKind.wrap_u32]
    have e : Int.tdiv (a.toNat : Int) (b.toNat : Int) = ((a.toNat / b.toNat : Nat) : Int) := rfl
    rw [e]
    have h1 := a.isLt
    have h2 : a.toNat / b.toNat ≤ a.toNat := Nat.div_le_self _ _
    generalize a.toNat / b.toNat = q at *
    omega
theorem b32_eql (t : TypeId) (x y : Operand) (a b : BitVec 32) (K : Value → Heap → Prop) : RunV P (binS .eql t x y (u32 a) (u32 b)) h K = K (.bool (decide (a = b))) h :=
  (b_eql t x y .u32 _ _ K).trans (by congr 2; exact decide_eq_decide.2 u32_inj)

theorem conv_int {s d : TypeId} {ds : TypeDesc} {k : IntKind} (hs : P.underlying s = some ds) (hd : P.underlying d = some (.int k)) (l : IntKind) (n : Int) (K : Value → Heap → Prop) :
    RunV P (convert s d (.int l n)) h K = K (.int k (k.wrap n)) h :=
  RunV_pure fun w _ => by
    unfold convert
    simp only [Sem.run_bind, run_underlying hs, run_underlying hd, Result.andThen_ok]
    cases ds <;> simp [Conv.intToInt]
theorem q_conv_int {C : Heap → Prop} {h0 : Heap} (hC : C h0) {s d : TypeId} {ds : TypeDesc} {k : IntKind} (hs : P.underlying s = some ds) (hd : P.underlying d = some (.int k)) (l : IntKind) (n : Int) (K : Value → Prop) :
    QV P C (convert s d (.int l n)) K = K (.int k (k.wrap n)) :=
  QV_cls hC fun _ _ w _ => by
    unfold convert
    simp only [Sem.run_bind, run_underlying hs, run_underlying hd, Result.andThen_ok]
    cases ds <;> simp [Conv.intToInt]
theorem wrap_u8_32 (a : BitVec 32) : Value.int .u8 (IntKind.u8.wrap (a.toNat : Int)) = byteV (UInt8.ofNat a.toNat) := by
  unfold byteV
  rw [IntKind.wrap_u8]
  simp
theorem wrap_u8_nat (n : Nat) : Value.int .u8 (IntKind.u8.wrap (n : Int)) = byteV (UInt8.ofNat n) := by
  unfold byteV
  rw [IntKind.wrap_u8]
  simp
theorem wrap_u32_8 (c : UInt8) : Value.int .u32 (IntKind.u32.wrap (c.toNat : Int)) = u32 (BitVec.ofNat 32 c.toNat) := by
  unfold u32
  rw [IntKind.wrap_u32]
  simp
  have := c.toNat_lt
  omega

/-- A string's bytes, in a row of one's own. -/
theorem m_bytes {s d e : TypeId} {u : TypeDesc} (hs : P.underlying s = some u) (hd : P.underlying d = some (.slice e)) (he : P.underlying e = some (.int .u8)) (l : List UInt8) {K : Value → Heap → Prop}
    (hk : ∀ cap (pad : List Value) fr, K (.slice (some ⟨h.size, 0, none⟩) l.length cap) (h.push (.cells (l.map byteV ++ pad).toArray e fr))) : RunV P (convert s d (str l)) h K := by
  intro w hw
  subst hw
  have hr := Lib.run_convert_string_bytes (P := P) w s d e ⟨l.toArray⟩ hs hd he
  have hsz : (ByteArray.mk l.toArray).size = l.length := rfl
  rw [hsz] at hr
  refine ⟨_, _, hr, ⟨rfl, rfl, rfl⟩, ?_⟩
  have hh : (Lib.bytesWorld w e ⟨l.toArray⟩).heap = w.heap.push (.cells (l.map byteV ++ List.replicate (grownCap w l.length 0 e - l.length) (Value.int .u8 0)).toArray e ((Lib.bytesCells w e ⟨l.toArray⟩).size, (Lib.bytesCells w e ⟨l.toArray⟩).size + 1)) := by
    apply Array.ext_getElem?
    intro j
    rcases Nat.lt_trichotomy j w.heap.size with hj | hj | hj
    · rw [Lib.bytesWorld_at_old w e _ j hj, Array.getElem?_push, if_neg (by omega)]
    · subst hj
      rw [Lib.bytesWorld_at_new]
      simp only [Array.getElem?_push, if_true]
      congr 2
      apply Array.ext'
      simp [Lib.bytesCells, byteV, ByteArray.size]
    · rw [Array.getElem?_eq_none (by rw [Lib.bytesWorld_size]; omega), Array.getElem?_eq_none (by simp; omega)]
  rw [hh]
  exact hk _ _ _
/-- The string of a row of bytes. -/
theorem m_string {s d e : TypeId} (hs : P.underlying s = some (.slice e)) (hd : P.underlying d = some .string) (he : P.underlying e = some (.int .u8)) {b o : Nat} (l : List UInt8) {len : Nat} (hlen : l.length = len) (cap : Nat)
    (hc : ∀ i c, l[i]? = some c → cellH h b (o + i) = some (byteV c)) (K : Value → Heap → Prop) : RunV P (convert s d (.slice (some ⟨b, o, none⟩) len cap)) h K = K (str l) h :=
  RunV_pure fun w hw => by
    subst hw
    have := run_convert_bytes_arg (P := P) w s e hs he b o len cap (l.map fun c => (c.toNat : Int)) (by simpa using hlen) (fun i hi => by
      obtain ⟨c, hc'⟩ : ∃ c, l[i]? = some c := ⟨_, List.getElem?_eq_getElem (by omega)⟩
      rw [cell_world, hc i c hc']
      simp [List.getD_eq_getElem?_getD, hc', byteV]) d hd
    rw [this]
    congr 2
    have e : ∀ l : List UInt8, (l.map fun c => (c.toNat : Int)).map (fun n => UInt8.ofNat n.toNat) = l := by
      intro l
      induction l with
      | nil => rfl
      | cons c l ih => simp only [List.map_cons, ih]; simp
    rw [strOfNums, e]
theorem run_shl64 (t : TypeId) (x y : Operand) (a : Int) (k : IntKind) (n : Int) (h0 : 0 ≤ n) (h1 : n ≤ 64) (ha : 0 ≤ a) (h2 : a * 2 ^ n.toNat ≤ 9223372036854775807) (w : World) :
    (binS .shl t x y (.int .i64 a) (.int k n)).run P w = .ok (.int .i64 (a * 2 ^ n.toNat)) w := by
  rw [binS_int]
  simp only [binOp, Op.shift, if_neg (show ¬ n < 0 by omega), Sem.run_pure]
  have hb : IntKind.i64.bits = 64 := rfl
  rw [hb, Nat.min_eq_left (by omega)]
  congr 2
  rw [IntKind.wrap_i64]
  have h3 : 0 ≤ a * 2 ^ n.toNat := Int.mul_nonneg ha (by exact_mod_cast Nat.zero_le _)
  generalize a * 2 ^ n.toNat = q at *
  omega
theorem b_shl (t : TypeId) (x y : Operand) (a : Int) (k : IntKind) (n : Int) (h0 : 0 ≤ n) (h1 : n ≤ 64) (ha : 0 ≤ a) (h2 : a * 2 ^ n.toNat ≤ 9223372036854775807) (K : Value → Heap → Prop) :
    RunV P (binS .shl t x y (.int .i64 a) (.int k n)) h K = K (.int .i64 (a * 2 ^ n.toNat)) h := RunV_pure fun w _ => run_shl64 t x y a k n h0 h1 ha h2 w
theorem q_b_shl {C : Heap → Prop} {h0 : Heap} (hC : C h0) (t : TypeId) (x y : Operand) (a : Int) (k : IntKind) (n : Int) (h0 : 0 ≤ n) (h1 : n ≤ 64) (ha : 0 ≤ a) (h2 : a * 2 ^ n.toNat ≤ 9223372036854775807) (K : Value → Prop) :
    QV P C (binS .shl t x y (.int .i64 a) (.int k n)) K = K (.int .i64 (a * 2 ^ n.toNat)) := QV_cls hC fun _ _ w _ => run_shl64 t x y a k n h0 h1 ha h2 w
theorem q_shl8 {C : Heap → Prop} {h0 : Heap} (hC : C h0) (t : TypeId) (x y : Operand) (a : Nat) (k : IntKind) (ha : a < 65536) (K : Value → Prop) : QV P C (binS .shl t x y (.int .i64 (a : Int)) (.int k 8)) K = K (.int .i64 ((a * 256 : Nat) : Int)) := by
  have e : (a : Int) * 2 ^ (8 : Int).toNat = ((a * 256 : Nat) : Int) := by
    show (a : Int) * 256 = _
    omega
  rw [q_b_shl hC t x y (a : Int) k 8 (by omega) (by omega) (by omega) (by rw [e]; omega), e]
theorem run_or64 (t : TypeId) (x y : Operand) (a b : Nat) (ha : a < 9223372036854775808) (hb : b < 9223372036854775808) (w : World) :
    (binS .or t x y (.int .i64 (a : Int)) (.int .i64 (b : Int))).run P w = .ok (.int .i64 ((a ||| b : Nat) : Int)) w := by
  rw [binS_int]
  simp only [binOp, ne_eq, not_true, if_false]
  show Sem.run P (pure (Value.int .i64 (IntKind.i64.wrap ((BitVec.ofInt 64 (a : Int) ||| BitVec.ofInt 64 (b : Int)).toNat : Int)))) w = _
  have e1 : ∀ a : Nat, BitVec.ofInt 64 (a : Int) = BitVec.ofNat 64 a := fun a => rfl
  rw [e1, e1, BitVec.toNat_or, BitVec.toNat_ofNat, BitVec.toNat_ofNat, Nat.mod_eq_of_lt (by omega), Nat.mod_eq_of_lt (by omega), Sem.run_pure]
  have h3 : a ||| b < 2 ^ 63 := Nat.or_lt_two_pow ha hb
  congr 2
  rw [IntKind.wrap_i64]
  omega
theorem b_or (t : TypeId) (x y : Operand) (a b : Nat) (ha : a < 9223372036854775808) (hb : b < 9223372036854775808) (K : Value → Heap → Prop) :
    RunV P (binS .or t x y (.int .i64 (a : Int)) (.int .i64 (b : Int))) h K = K (.int .i64 ((a ||| b : Nat) : Int)) h := RunV_pure fun w _ => run_or64 t x y a b ha hb w
theorem q_b_or {C : Heap → Prop} {h0 : Heap} (hC : C h0) (t : TypeId) (x y : Operand) (a b : Nat) (ha : a < 9223372036854775808) (hb : b < 9223372036854775808) (K : Value → Prop) :
    QV P C (binS .or t x y (.int .i64 (a : Int)) (.int .i64 (b : Int))) K = K (.int .i64 ((a ||| b : Nat) : Int)) := QV_cls hC fun _ _ w _ => run_or64 t x y a b ha hb w
theorem or_byte (a : Nat) (b : UInt8) : (a * 256 ||| b.toNat) = 256 * a + b.toNat := by
  have := Nat.shiftLeft_add_eq_or_of_lt (i := 8) b.toNat_lt a
  rw [Nat.shiftLeft_eq, show 2 ^ 8 = 256 from rfl] at this
  omega
end Go.Hp
