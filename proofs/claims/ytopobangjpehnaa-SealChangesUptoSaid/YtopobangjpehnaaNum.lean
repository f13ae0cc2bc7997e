/- What the printed functions of package cipher come to, in the words of the cipher on lists of bits. -/
import Derived.Test.YtopobangjpehnaaPrA
import Derived.Test.YtopobangjpehnaaDesLaws
set_option linter.unusedVariables false
set_option linter.unusedSimpArgs false
namespace Go.Proofs.Ytopobangjpehnaa.Num
open Go.RowKit Go.Proofs.YtopobangjpehnaaW.PrintWords Go.Proofs.YtopobangjpehnaaW.PrintMore Pr Des

/-! ### Whole numbers -/
theorem wrap_u64 (n : Int) : IntKind.u64.wrap n = n % 18446744073709551616 := by simp [IntKind.wrap, IntKind.bits, IntKind.signed]
theorem wrap_u32 (n : Int) : IntKind.u32.wrap n = n % 4294967296 := by simp [IntKind.wrap, IntKind.bits, IntKind.signed]
theorem u64_id {n : Nat} (h : n < 2 ^ 64) : IntKind.u64.wrap (n : Int) = n := by rw [wrap_u64]; omega
theorem u32_id {n : Nat} (h : n < 2 ^ 32) : IntKind.u32.wrap (n : Int) = n := by rw [wrap_u32]; omega

theorem w64_id {x : Int} (h0 : -4611686018427387904 ≤ x) (h1 : x ≤ 4611686018427387904) : wrap64 x = x := by unfold wrap64; omega
theorem and_u64 (a b : Nat) (ha : a < 2 ^ 64) (hb : b < 2 ^ 64) : Go.bits .and .u64 (a : Int) (b : Int) = ((a &&& b : Nat) : Int) := by
  have h : a &&& b < 2 ^ 64 := Nat.and_lt_two_pow _ hb
  show IntKind.u64.wrap (((BitVec.ofInt 64 (a : Int) &&& BitVec.ofInt 64 (b : Int) : BitVec 64).toNat : Nat) : Int) = _
  rw [BitVec.toNat_and, BitVec.ofInt_natCast, BitVec.ofInt_natCast, BitVec.toNat_ofNat, BitVec.toNat_ofNat, Nat.mod_eq_of_lt ha, Nat.mod_eq_of_lt hb]
  exact u64_id h
theorem or_u64 (a b : Nat) (ha : a < 2 ^ 64) (hb : b < 2 ^ 64) : Go.bits .or .u64 (a : Int) (b : Int) = ((a ||| b : Nat) : Int) := by
  have h : a ||| b < 2 ^ 64 := Nat.or_lt_two_pow ha hb
  show IntKind.u64.wrap (((BitVec.ofInt 64 (a : Int) ||| BitVec.ofInt 64 (b : Int) : BitVec 64).toNat : Nat) : Int) = _
  rw [BitVec.toNat_or, BitVec.ofInt_natCast, BitVec.ofInt_natCast, BitVec.toNat_ofNat, BitVec.toNat_ofNat, Nat.mod_eq_of_lt ha, Nat.mod_eq_of_lt hb]
  exact u64_id h
theorem xor_u64 (a b : Nat) (ha : a < 2 ^ 64) (hb : b < 2 ^ 64) : Go.bits .xor .u64 (a : Int) (b : Int) = ((a ^^^ b : Nat) : Int) := by
  have h : a ^^^ b < 2 ^ 64 := Nat.xor_lt_two_pow ha hb
  show IntKind.u64.wrap (((BitVec.ofInt 64 (a : Int) ^^^ BitVec.ofInt 64 (b : Int) : BitVec 64).toNat : Nat) : Int) = _
  rw [BitVec.toNat_xor, BitVec.ofInt_natCast, BitVec.ofInt_natCast, BitVec.toNat_ofNat, BitVec.toNat_ofNat, Nat.mod_eq_of_lt ha, Nat.mod_eq_of_lt hb]
  exact u64_id h
theorem or_u32 (a b : Nat) (ha : a < 2 ^ 32) (hb : b < 2 ^ 32) : Go.bits .or .u32 (a : Int) (b : Int) = ((a ||| b : Nat) : Int) := by
  have h : a ||| b < 2 ^ 32 := Nat.or_lt_two_pow ha hb
  show IntKind.u32.wrap (((BitVec.ofInt 32 (a : Int) ||| BitVec.ofInt 32 (b : Int) : BitVec 32).toNat : Nat) : Int) = _
  rw [BitVec.toNat_or, BitVec.ofInt_natCast, BitVec.ofInt_natCast, BitVec.toNat_ofNat, BitVec.toNat_ofNat, Nat.mod_eq_of_lt ha, Nat.mod_eq_of_lt hb]
  exact u32_id h
theorem xor_u32 (a b : Nat) (ha : a < 2 ^ 32) (hb : b < 2 ^ 32) : Go.bits .xor .u32 (a : Int) (b : Int) = ((a ^^^ b : Nat) : Int) := by
  have h : a ^^^ b < 2 ^ 32 := Nat.xor_lt_two_pow ha hb
  show IntKind.u32.wrap (((BitVec.ofInt 32 (a : Int) ^^^ BitVec.ofInt 32 (b : Int) : BitVec 32).toNat : Nat) : Int) = _
  rw [BitVec.toNat_xor, BitVec.ofInt_natCast, BitVec.ofInt_natCast, BitVec.toNat_ofNat, BitVec.toNat_ofNat, Nat.mod_eq_of_lt ha, Nat.mod_eq_of_lt hb]
  exact u32_id h
theorem shr_u64 (n s : Nat) (hs : s ≤ 64) : shr .u64 (n : Int) (s : Int) = ((n >>> s : Nat) : Int) := by
  unfold shr
  rw [show min (s : Int).toNat IntKind.u64.bits = s by simp [IntKind.bits]; omega, Nat.shiftRight_eq_div_pow]
  simp
theorem join (a b i : Nat) (hb : b < 2 ^ i) : (a * 2 ^ i) ||| b = a * 2 ^ i + b := by
  rw [Nat.mul_comm, ← Nat.two_pow_add_eq_or_of_lt hb a]

/-! ### take -/
def ns (T : List Nat) : List Int := T.map fun (t : Nat) => (t : Int)
theorem ns_length (T : List Nat) : (ns T).length = T.length := by simp [ns]

theorem take_go (T : List Nat) (w n : Nat) (hT : ∀ t ∈ T, 1 ≤ t ∧ t ≤ w) (hw : w ≤ 64) (hn : n < 2 ^ 64) (hl : T.length ≤ 64) :
    ∀ d i k, i + d = T.length → d < k → cipher_take.l0 k (n : Int) (w : Int) (num (sel (T.take i) (bitsN w n)) : Nat) (ns T) (T.length : Nat) (i : Nat) = some ((num (sel T (bitsN w n)) : Nat) : Int) := by
  intro d
  induction d with
  | zero =>
    intro i k hi hk
    obtain ⟨k, rfl⟩ : ∃ m, k = m + 1 := ⟨k - 1, by omega⟩
    rw [cipher_take.l0, if_neg (by omega), List.take_of_length_le (by omega)]
  | succ d ih =>
    intro i k hi hk
    obtain ⟨k, rfl⟩ : ∃ m, k = m + 1 := ⟨k - 1, by omega⟩
    have hlt : i < T.length := by omega
    have hmem := hT T[i] (List.getElem_mem hlt)
    have c1 : ((i : Nat) : Int) < (T.length : Nat) := by omega
    have c2 : (0 : Int) ≤ ((i : Nat) : Int) := by omega
    have c3 : ((i : Nat) : Int) < ((ns T).length : Nat) := by rw [ns_length]; omega
    have c4 : (0 : Int) ≤ ((w - T[i] : Nat) : Int) := by omega
    have w1 : wrap64 ((T[i] : Nat) : Int) = (T[i] : Nat) := w64_id (by omega) (by omega)
    have w2 : wrap64 ((w : Int) - ((T[i] : Nat) : Int)) = ((w - T[i] : Nat) : Int) := by rw [w64_id (by omega) (by omega)]; omega
    have w3 : wrap64 ((i : Int) + 1) = ((i + 1 : Nat) : Int) := by rw [w64_id (by omega) (by omega)]; omega
    have hrd : rd (ns T) (i : Int) = (T[i] : Int) := by simp [rd, ns, List.getD_eq_getElem?_getD, hlt]
    rw [cipher_take.l0, if_pos c1, if_pos c2, if_pos c3, hrd, w1, w2, if_pos c4, w3]
    clear w1 w2 w3 hrd c1 c2 c3 c4
    have hlen : (sel (T.take i) (bitsN w n)).length = i := by rw [sel_length]; simp; omega
    have hlt2 := num_lt (sel (T.take i) (bitsN w n))
    rw [hlen] at hlt2
    have hp : (2 : Nat) ^ i ≤ 2 ^ 63 := Nat.pow_le_pow_right (by decide) (by omega)
    have hbit : n >>> (w - T[i]) &&& 1 = (n.testBit (w - T[i])).toNat := by
      rw [Nat.and_one_is_mod, Nat.shiftRight_eq_div_pow, Nat.testBit_eq_decide_div_mod_eq]
      rcases Nat.mod_two_eq_zero_or_one (n / 2 ^ (w - T[i])) with h | h <;> simp [h]
    have hsn : sel (T.take (i + 1)) (bitsN w n) = sel (T.take i) (bitsN w n) ++ [n.testBit (w - T[i])] := by
      rw [List.take_succ_eq_append_getElem hlt]
      simp only [sel, List.map_append, List.map_cons, List.map_nil]
      rw [bitsN_getD w n (T[i] - 1) (by omega)]
      congr 3; omega
    have hsum : Go.bits .or .u64 (IntKind.u64.wrap (((num (sel (T.take i) (bitsN w n)) : Nat) : Int) * 2)) (Go.bits .and .u64 (shr .u64 (n : Int) ((w - T[i] : Nat) : Int)) 1) = ((num (sel (T.take (i + 1)) (bitsN w n)) : Nat) : Int) := by
      rw [show (((num (sel (T.take i) (bitsN w n)) : Nat) : Int) * 2) = ((num (sel (T.take i) (bitsN w n)) * 2 : Nat) : Int) by simp, u64_id (by omega), shr_u64 _ _ (by omega)]
      have hs1 : n >>> (w - T[i]) < 2 ^ 64 := Nat.lt_of_le_of_lt (by rw [Nat.shiftRight_eq_div_pow]; exact Nat.div_le_self _ _) hn
      rw [show (1 : Int) = ((1 : Nat) : Int) from rfl, and_u64 _ _ hs1 (by decide), hbit, or_u64 _ _ (by omega) (by cases n.testBit (w - T[i]) <;> simp)]
      rw [hsn, num_append]
      have := join (num (sel (T.take i) (bitsN w n))) ((n.testBit (w - T[i])).toNat) 1 (by cases n.testBit (w - T[i]) <;> simp)
      simp only [Nat.pow_one] at this
      rw [this]
      cases n.testBit (w - T[i]) <;> simp [num]
    rw [hsum]
    exact ih (i + 1) k (by omega) (by omega)

theorem take_eval (T : List Nat) (w n k : Nat) (hT : ∀ t ∈ T, 1 ≤ t ∧ t ≤ w) (hw : w ≤ 64) (hn : n < 2 ^ 64) (hl : T.length ≤ 64) (hk : T.length < k) :
    cipher_take.f k (ns T) (n : Int) (w : Int) = some ((num (sel T (bitsN w n)) : Nat) : Int) := by
  have := take_go T w n hT hw hn hl T.length 0 k (by omega) hk
  unfold cipher_take.f
  rw [ns_length]
  exact this

theorem first_eval : cipher_first.f = some (ns tK1) := rfl
theorem second_eval : cipher_second.f = some (ns tK2) := rfl
theorem enter_eval : cipher_enter.f = some (ns tIn) := rfl
theorem leave_eval : cipher_leave.f = some (ns tOut) := rfl
theorem spread_eval : cipher_spread.f = some (ns tP) := rfl

/-! ### number, bytes -/
def bitsB (l : List UInt8) : List Bool := l.flatMap fun b => bitsN 8 b.toNat
theorem bitsB_length (l : List UInt8) : (bitsB l).length = 8 * l.length := by
  induction l with
  | nil => rfl
  | cons b l ih => simp only [bitsB, List.flatMap_cons, List.length_append, bitsN_length, List.length_cons] at ih ⊢; omega
theorem bitsB_append (a b : List UInt8) : bitsB (a ++ b) = bitsB a ++ bitsB b := by simp [bitsB]

theorem number_go (s : ByteArray) (hs : 8 ≤ s.size) : ∀ d i k, i + d = 8 → d < k →
    cipher_number.l0 k s ((num (bitsB (s.data.toList.take i)) : Nat) : Int) (i : Nat) = some ((num (bitsB (s.data.toList.take 8)) : Nat) : Int) := by
  intro d
  induction d with
  | zero =>
    intro i k hi hk
    obtain ⟨k, rfl⟩ : ∃ m, k = m + 1 := ⟨k - 1, by omega⟩
    obtain rfl : i = 8 := by omega
    rw [cipher_number.l0, if_neg (by omega)]
  | succ d ih =>
    intro i k hi hk
    obtain ⟨k, rfl⟩ : ∃ m, k = m + 1 := ⟨k - 1, by omega⟩
    have w3 : wrap64 ((i : Int) + 1) = ((i + 1 : Nat) : Int) := by rw [w64_id (by omega) (by omega)]; omega
    rw [cipher_number.l0, if_pos (by omega), if_pos (by omega), if_pos (by omega), w3]
    have hlt : i < s.data.toList.length := by rw [Array.length_toList]; show i < s.size; omega
    have hbt : bt s (i : Int) = ((s.data.toList[i].toNat : Nat) : Int) := by
      unfold bt
      rw [dif_pos (by simp; omega)]
      rfl
    have hb := (s.data.toList[i]).toNat_lt
    have hsn : bitsB (s.data.toList.take (i + 1)) = bitsB (s.data.toList.take i) ++ bitsN 8 (s.data.toList[i]).toNat := by
      rw [List.take_succ_eq_append_getElem hlt, bitsB_append]; simp [bitsB]
    have hlen : (bitsB (s.data.toList.take i)).length = 8 * i := by rw [bitsB_length, List.length_take]; omega
    have hl := num_lt (bitsB (s.data.toList.take i))
    rw [hlen] at hl
    have hp : (2 : Nat) ^ (8 * i) ≤ 2 ^ 56 := Nat.pow_le_pow_right (by decide) (by omega)
    have hsum : Go.bits .or .u64 (IntKind.u64.wrap (((num (bitsB (s.data.toList.take i)) : Nat) : Int) * 256)) (IntKind.u64.wrap (bt s (i : Int))) = ((num (bitsB (s.data.toList.take (i + 1))) : Nat) : Int) := by
      rw [hbt, u64_id (by omega), show (((num (bitsB (s.data.toList.take i)) : Nat) : Int) * 256) = ((num (bitsB (s.data.toList.take i)) * 256 : Nat) : Int) by simp, u64_id (by omega), or_u64 _ _ (by omega) (by omega)]
      rw [hsn, num_append, num_bitsN, bitsN_length]
      have := join (num (bitsB (s.data.toList.take i))) (s.data.toList[i]).toNat 8 (by omega)
      rw [show (2 : Nat) ^ 8 = 256 from rfl] at this ⊢
      rw [this]
      have : (s.data.toList[i]).toNat % 256 = (s.data.toList[i]).toNat := by omega
      rw [this]
    rw [hsum]
    exact ih (i + 1) k (by omega) (by omega)
theorem number_eval (s : ByteArray) (hs : 8 ≤ s.size) (k : Nat) (hk : 8 < k) : cipher_number.f k s = some ((num (bitsB (s.data.toList.take 8)) : Nat) : Int) :=
  number_go s hs 8 0 k rfl hk

/-- The eight bytes of a number, the highest first. -/
def bytes8 (n : Nat) : List UInt8 := [UInt8.ofNat (n >>> 56), UInt8.ofNat (n >>> 48), UInt8.ofNat (n >>> 40), UInt8.ofNat (n >>> 32), UInt8.ofNat (n >>> 24), UInt8.ofNat (n >>> 16), UInt8.ofNat (n >>> 8), UInt8.ofNat (n >>> 0)]
def ints (l : List UInt8) : List Int := l.map fun b => (b.toNat : Int)
theorem bytes_step (k : Nat) (l : List Int) (n s : Int) (hs : 0 ≤ s) (hl : l.length < 140737488355328) :
    cipher_bytes.l0 (k + 1) l n s = cipher_bytes.l0 k (l ++ [shr .u64 n s % 256]) n (wrap64 (s - 8)) := by
  rw [cipher_bytes.l0, if_pos hs, if_pos hs, if_pos hl]
theorem byte_at (n s : Nat) (h : s ≤ 64) : shr .u64 (n : Int) (s : Int) % 256 = ((UInt8.ofNat (n >>> s)).toNat : Int) := by
  rw [shr_u64 n s h]
  simp
theorem bytes_eval (l : List Int) (n k : Nat) (hl : l.length + 8 < 140737488355328) (hk : 8 < k) :
    cipher_bytes.f k l (n : Int) = some (l ++ ints (bytes8 n)) := by
  obtain ⟨k, rfl⟩ : ∃ m, k = m + 9 := ⟨k - 9, by omega⟩
  have step : ∀ (k : Nat) (xs : List Int) (s : Nat) (t : Int), s ≤ 64 → xs.length ≤ 7 → wrap64 ((s : Int) - 8) = t →
      cipher_bytes.l0 (k + 1) (l ++ xs) n (s : Int) = cipher_bytes.l0 k (l ++ (xs ++ [((UInt8.ofNat (n >>> s)).toNat : Int)])) n t := by
    intro k xs s t hs hx ht
    rw [bytes_step _ _ _ _ (by omega) (by rw [List.length_append]; omega), byte_at n s hs, ht, List.append_assoc]
  have e0 : cipher_bytes.f (k + 9) l (n : Int) = cipher_bytes.l0 (k + 8 + 1) (l ++ []) n ((56 : Nat) : Int) := by rw [List.append_nil]; rfl
  rw [e0, step (k + 8) _ 56 ((48 : Nat) : Int) (by omega) (by simp) (by rw [w64_id (by omega) (by omega)]; omega)]
  rw [step (k + 7) _ 48 ((40 : Nat) : Int) (by omega) (by simp) (by rw [w64_id (by omega) (by omega)]; omega)]
  rw [step (k + 6) _ 40 ((32 : Nat) : Int) (by omega) (by simp) (by rw [w64_id (by omega) (by omega)]; omega)]
  rw [step (k + 5) _ 32 ((24 : Nat) : Int) (by omega) (by simp) (by rw [w64_id (by omega) (by omega)]; omega)]
  rw [step (k + 4) _ 24 ((16 : Nat) : Int) (by omega) (by simp) (by rw [w64_id (by omega) (by omega)]; omega)]
  rw [step (k + 3) _ 16 ((8 : Nat) : Int) (by omega) (by simp) (by rw [w64_id (by omega) (by omega)]; omega)]
  rw [step (k + 2) _ 8 ((0 : Nat) : Int) (by omega) (by simp) (by rw [w64_id (by omega) (by omega)]; omega)]
  rw [step (k + 1) _ 0 (-8) (by omega) (by simp) (by rw [w64_id (by omega) (by omega)]; omega)]
  rw [cipher_bytes.l0, if_neg (by decide)]
  rfl
end Go.Proofs.Ytopobangjpehnaa.Num
