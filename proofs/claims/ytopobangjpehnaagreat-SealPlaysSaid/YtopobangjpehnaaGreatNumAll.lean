/- Lists of bits as numbers; blocks of memory; cipher.scheduled: the round keys. -/
import Derived.Test.YtopobangjpehnaaGreatPrA
import Derived.Test.YtopobangjpehnaaGreatDesAll
set_option linter.unusedVariables false
set_option linter.unusedSimpArgs false
namespace Go.Proofs.YtopobangjpehnaaGreat.Num
open Go.RowKit Go.Proofs.YtopobangjpehnaaGreatW.PrintWords Go.Proofs.YtopobangjpehnaaGreatW.PrintMore Pr Des

/-! ### Whole numbers -/
theorem wrap_u64 (n : Int) : IntKind.u64.wrap n = n % 18446744073709551616 := by simp [IntKind.wrap, IntKind.bits, IntKind.signed]
theorem wrap_u32 (n : Int) : IntKind.u32.wrap n = n % 4294967296 := by simp [IntKind.wrap, IntKind.bits, IntKind.signed]
theorem u64_id {n : Nat} (h : n < 2 ^ 64) : IntKind.u64.wrap (n : Int) = n := by rw [wrap_u64]; omega
theorem u32_id {n : Nat} (h : n < 2 ^ 32) : IntKind.u32.wrap (n : Int) = n := by rw [wrap_u32]; omega

theorem w64_id {x : Int} (h0 : -4611686018427387904 ≤ x) (h1 : x ≤ 4611686018427387904) : wrap64 x = x := by unfold wrap64; omega
theorem and_u64 (a b : Nat) (ha : a < 2 ^ 64) (hb : b < 2 ^ 64) : Go.bits .and .u64 (a : Int) (b : Int) = ((a &&& b : Nat) : Int) := by
  have h : a &&& b < 2 ^ 64 := Nat.and_lt_two_pow _ hb
  show IntKind.u64.wrap (((BitVec.ofInt 64 (a : Int) &&& BitVec.ofInt 64 (b : Int) : BitVec 64).toNat : Nat) : Int) = _
  rw [BitVec.toNat_and, BitVec.ofInt_natCast, BitVec.ofInt_natCast, BitVec.toNat_ofNat, BitVec.toNat_ofNat, Nat.mod_eq_of_lt ha, Nat.mod_eq_of_lt hb]
  exact u64_id h
theorem or_u64 (a b : Nat) (ha : a < 2 ^ 64) (hb : b < 2 ^ 64) : Go.bits .or .u64 (a : Int) (b : Int) = ((a ||| b : Nat) : Int) := by
  have h : a ||| b < 2 ^ 64 := Nat.or_lt_two_pow ha hb
  show IntKind.u64.wrap (((BitVec.ofInt 64 (a : Int) ||| BitVec.ofInt 64 (b : Int) : BitVec 64).toNat : Nat) : Int) = _
  rw [BitVec.toNat_or, BitVec.ofInt_natCast, BitVec.ofInt_natCast, BitVec.toNat_ofNat, BitVec.toNat_ofNat, Nat.mod_eq_of_lt ha, Nat.mod_eq_of_lt hb]
  exact u64_id h
theorem xor_u64 (a b : Nat) (ha : a < 2 ^ 64) (hb : b < 2 ^ 64) : Go.bits .xor .u64 (a : Int) (b : Int) = ((a ^^^ b : Nat) : Int) := by
  have h : a ^^^ b < 2 ^ 64 := Nat.xor_lt_two_pow ha hb
  show IntKind.u64.wrap (((BitVec.ofInt 64 (a : Int) ^^^ BitVec.ofInt 64 (b : Int) : BitVec 64).toNat : Nat) : Int) = _
  rw [BitVec.toNat_xor, BitVec.ofInt_natCast, BitVec.ofInt_natCast, BitVec.toNat_ofNat, BitVec.toNat_ofNat, Nat.mod_eq_of_lt ha, Nat.mod_eq_of_lt hb]
  exact u64_id h
theorem or_u32 (a b : Nat) (ha : a < 2 ^ 32) (hb : b < 2 ^ 32) : Go.bits .or .u32 (a : Int) (b : Int) = ((a ||| b : Nat) : Int) := by
  have h : a ||| b < 2 ^ 32 := Nat.or_lt_two_pow ha hb
  show IntKind.u32.wrap (((BitVec.ofInt 32 (a : Int) ||| BitVec.ofInt 32 (b : Int) : BitVec 32).toNat : Nat) : Int) = _
  rw [BitVec.toNat_or, BitVec.ofInt_natCast, BitVec.ofInt_natCast, BitVec.toNat_ofNat, BitVec.toNat_ofNat, Nat.mod_eq_of_lt ha, Nat.mod_eq_of_lt hb]
  exact u32_id h
theorem xor_u32 (a b : Nat) (ha : a < 2 ^ 32) (hb : b < 2 ^ 32) : Go.bits .xor .u32 (a : Int) (b : Int) = ((a ^^^ b : Nat) : Int) := by
  have h : a ^^^ b < 2 ^ 32 := Nat.xor_lt_two_pow ha hb
  show IntKind.u32.wrap (((BitVec.ofInt 32 (a : Int) ^^^ BitVec.ofInt 32 (b : Int) : BitVec 32).toNat : Nat) : Int) = _
  rw [BitVec.toNat_xor, BitVec.ofInt_natCast, BitVec.ofInt_natCast, BitVec.toNat_ofNat, BitVec.toNat_ofNat, Nat.mod_eq_of_lt ha, Nat.mod_eq_of_lt hb]
  exact u32_id h
theorem shr_u64 (n s : Nat) (hs : s ≤ 64) : shr .u64 (n : Int) (s : Int) = ((n >>> s : Nat) : Int) := by
  unfold shr
  rw [show min (s : Int).toNat IntKind.u64.bits = s by simp [IntKind.bits]; omega, Nat.shiftRight_eq_div_pow]
  simp
theorem join (a b i : Nat) (hb : b < 2 ^ i) : (a * 2 ^ i) ||| b = a * 2 ^ i + b := by
  rw [Nat.mul_comm, ← Nat.two_pow_add_eq_or_of_lt hb a]

/-! ### take -/
def ns (T : List Nat) : List Int := T.map fun (t : Nat) => (t : Int)
theorem ns_length (T : List Nat) : (ns T).length = T.length := by simp [ns]

theorem take_go (T : List Nat) (w n : Nat) (hT : ∀ t ∈ T, 1 ≤ t ∧ t ≤ w) (hw : w ≤ 64) (hn : n < 2 ^ 64) (hl : T.length ≤ 64) :
    ∀ d i k, i + d = T.length → d < k → cipher_take.l0 k (n : Int) (w : Int) (num (sel (T.take i) (bitsN w n)) : Nat) (ns T) (T.length : Nat) (i : Nat) = some ((num (sel T (bitsN w n)) : Nat) : Int) := by
  intro d
  induction d with
  | zero =>
    intro i k hi hk
    obtain ⟨k, rfl⟩ : ∃ m, k = m + 1 := ⟨k - 1, by omega⟩
    rw [cipher_take.l0, if_neg (by omega), List.take_of_length_le (by omega)]
  | succ d ih =>
    intro i k hi hk
    obtain ⟨k, rfl⟩ : ∃ m, k = m + 1 := ⟨k - 1, by omega⟩
    have hlt : i < T.length := by omega
    have hmem := hT T[i] (List.getElem_mem hlt)
    have c1 : ((i : Nat) : Int) < (T.length : Nat) := by omega
    have c2 : (0 : Int) ≤ ((i : Nat) : Int) := by omega
    have c3 : ((i : Nat) : Int) < ((ns T).length : Nat) := by rw [ns_length]; omega
    have c4 : (0 : Int) ≤ ((w - T[i] : Nat) : Int) := by omega
    have w1 : wrap64 ((T[i] : Nat) : Int) = (T[i] : Nat) := w64_id (by omega) (by omega)
    have w2 : wrap64 ((w : Int) - ((T[i] : Nat) : Int)) = ((w - T[i] : Nat) : Int) := by rw [w64_id (by omega) (by omega)]; omega
    have w3 : wrap64 ((i : Int) + 1) = ((i + 1 : Nat) : Int) := by rw [w64_id (by omega) (by omega)]; omega
    have hrd : rd (ns T) (i : Int) = (T[i] : Int) := by simp [rd, ns, List.getD_eq_getElem?_getD, hlt]
    rw [cipher_take.l0, if_pos c1, if_pos c2, if_pos c3, hrd, w1, w2, if_pos c4, w3]
    clear w1 w2 w3 hrd c1 c2 c3 c4
    have hlen : (sel (T.take i) (bitsN w n)).length = i := by rw [sel_length]; simp; omega
    have hlt2 := num_lt (sel (T.take i) (bitsN w n))
    rw [hlen] at hlt2
    have hp : (2 : Nat) ^ i ≤ 2 ^ 63 := Nat.pow_le_pow_right (by decide) (by omega)
    have hbit : n >>> (w - T[i]) &&& 1 = (n.testBit (w - T[i])).toNat := by
      rw [Nat.and_one_is_mod, Nat.shiftRight_eq_div_pow, Nat.testBit_eq_decide_div_mod_eq]
      rcases Nat.mod_two_eq_zero_or_one (n / 2 ^ (w - T[i])) with h | h <;> simp [h]
    have hsn : sel (T.take (i + 1)) (bitsN w n) = sel (T.take i) (bitsN w n) ++ [n.testBit (w - T[i])] := by
      rw [List.take_succ_eq_append_getElem hlt]
      simp only [sel, List.map_append, List.map_cons, List.map_nil]
      rw [bitsN_getD w n (T[i] - 1) (by omega)]
      congr 3; omega
    have hsum : Go.bits .or .u64 (IntKind.u64.wrap (((num (sel (T.take i) (bitsN w n)) : Nat) : Int) * 2)) (Go.bits .and .u64 (shr .u64 (n : Int) ((w - T[i] : Nat) : Int)) 1) = ((num (sel (T.take (i + 1)) (bitsN w n)) : Nat) : Int) := by
      rw [show (((num (sel (T.take i) (bitsN w n)) : Nat) : Int) * 2) = ((num (sel (T.take i) (bitsN w n)) * 2 : Nat) : Int) by simp, u64_id (by omega), shr_u64 _ _ (by omega)]
      have hs1 : n >>> (w - T[i]) < 2 ^ 64 := Nat.lt_of_le_of_lt (by rw [Nat.shiftRight_eq_div_pow]; exact Nat.div_le_self _ _) hn
      rw [show (1 : Int) = ((1 : Nat) : Int) from rfl, and_u64 _ _ hs1 (by decide), hbit, or_u64 _ _ (by omega) (by cases n.testBit (w - T[i]) <;> simp)]
      rw [hsn, num_append]
      have := join (num (sel (T.take i) (bitsN w n))) ((n.testBit (w - T[i])).toNat) 1 (by cases n.testBit (w - T[i]) <;> simp)
      simp only [Nat.pow_one] at this
      rw [this]
      cases n.testBit (w - T[i]) <;> simp [num]
    rw [hsum]
    exact ih (i + 1) k (by omega) (by omega)

theorem take_eval (T : List Nat) (w n k : Nat) (hT : ∀ t ∈ T, 1 ≤ t ∧ t ≤ w) (hw : w ≤ 64) (hn : n < 2 ^ 64) (hl : T.length ≤ 64) (hk : T.length < k) :
    cipher_take.f k (ns T) (n : Int) (w : Int) = some ((num (sel T (bitsN w n)) : Nat) : Int) := by
  have := take_go T w n hT hw hn hl T.length 0 k (by omega) hk
  unfold cipher_take.f
  rw [ns_length]
  exact this

theorem first_eval : cipher_first.f = some (ns tK1) := rfl
theorem second_eval : cipher_second.f = some (ns tK2) := rfl
theorem enter_eval : cipher_enter.f = some (ns tIn) := rfl
theorem leave_eval : cipher_leave.f = some (ns tOut) := rfl
theorem spread_eval : cipher_spread.f = some (ns tP) := rfl

/-! ### number, bytes -/
def bitsB (l : List UInt8) : List Bool := l.flatMap fun b => bitsN 8 b.toNat
theorem bitsB_length (l : List UInt8) : (bitsB l).length = 8 * l.length := by
  induction l with
  | nil => rfl
  | cons b l ih => simp only [bitsB, List.flatMap_cons, List.length_append, bitsN_length, List.length_cons] at ih ⊢; omega
theorem bitsB_append (a b : List UInt8) : bitsB (a ++ b) = bitsB a ++ bitsB b := by simp [bitsB]

theorem number_go (s : ByteArray) (hs : 8 ≤ s.size) : ∀ d i k, i + d = 8 → d < k →
    cipher_number.l0 k s ((num (bitsB (s.data.toList.take i)) : Nat) : Int) (i : Nat) = some ((num (bitsB (s.data.toList.take 8)) : Nat) : Int) := by
  intro d
  induction d with
  | zero =>
    intro i k hi hk
    obtain ⟨k, rfl⟩ : ∃ m, k = m + 1 := ⟨k - 1, by omega⟩
    obtain rfl : i = 8 := by omega
    rw [cipher_number.l0, if_neg (by omega)]
  | succ d ih =>
    intro i k hi hk
    obtain ⟨k, rfl⟩ : ∃ m, k = m + 1 := ⟨k - 1, by omega⟩
    have w3 : wrap64 ((i : Int) + 1) = ((i + 1 : Nat) : Int) := by rw [w64_id (by omega) (by omega)]; omega
    rw [cipher_number.l0, if_pos (by omega), if_pos (by omega), if_pos (by omega), w3]
    have hlt : i < s.data.toList.length := by rw [Array.length_toList]; show i < s.size; omega
    have hbt : bt s (i : Int) = ((s.data.toList[i].toNat : Nat) : Int) := by
      unfold bt
      rw [dif_pos (by simp; omega)]
      rfl
    have hb := (s.data.toList[i]).toNat_lt
    have hsn : bitsB (s.data.toList.take (i + 1)) = bitsB (s.data.toList.take i) ++ bitsN 8 (s.data.toList[i]).toNat := by
      rw [List.take_succ_eq_append_getElem hlt, bitsB_append]; simp [bitsB]
    have hlen : (bitsB (s.data.toList.take i)).length = 8 * i := by rw [bitsB_length, List.length_take]; omega
    have hl := num_lt (bitsB (s.data.toList.take i))
    rw [hlen] at hl
    have hp : (2 : Nat) ^ (8 * i) ≤ 2 ^ 56 := Nat.pow_le_pow_right (by decide) (by omega)
    have hsum : Go.bits .or .u64 (IntKind.u64.wrap (((num (bitsB (s.data.toList.take i)) : Nat) : Int) * 256)) (IntKind.u64.wrap (bt s (i : Int))) = ((num (bitsB (s.data.toList.take (i + 1))) : Nat) : Int) := by
      rw [hbt, u64_id (by omega), show (((num (bitsB (s.data.toList.take i)) : Nat) : Int) * 256) = ((num (bitsB (s.data.toList.take i)) * 256 : Nat) : Int) by simp, u64_id (by omega), or_u64 _ _ (by omega) (by omega)]
      rw [hsn, num_append, num_bitsN, bitsN_length]
      have := join (num (bitsB (s.data.toList.take i))) (s.data.toList[i]).toNat 8 (by omega)
      rw [show (2 : Nat) ^ 8 = 256 from rfl] at this ⊢
      rw [this]
      have : (s.data.toList[i]).toNat % 256 = (s.data.toList[i]).toNat := by omega
      rw [this]
    rw [hsum]
    exact ih (i + 1) k (by omega) (by omega)
theorem number_eval (s : ByteArray) (hs : 8 ≤ s.size) (k : Nat) (hk : 8 < k) : cipher_number.f k s = some ((num (bitsB (s.data.toList.take 8)) : Nat) : Int) :=
  number_go s hs 8 0 k rfl hk

/-- The eight bytes of a number, the highest first. -/
def bytes8 (n : Nat) : List UInt8 := [UInt8.ofNat (n >>> 56), UInt8.ofNat (n >>> 48), UInt8.ofNat (n >>> 40), UInt8.ofNat (n >>> 32), UInt8.ofNat (n >>> 24), UInt8.ofNat (n >>> 16), UInt8.ofNat (n >>> 8), UInt8.ofNat (n >>> 0)]
def ints (l : List UInt8) : List Int := l.map fun b => (b.toNat : Int)
theorem bytes_step (k : Nat) (l : List Int) (n s : Int) (hs : 0 ≤ s) (hl : l.length < 140737488355328) :
    cipher_bytes.l0 (k + 1) l n s = cipher_bytes.l0 k (l ++ [shr .u64 n s % 256]) n (wrap64 (s - 8)) := by
  rw [cipher_bytes.l0, if_pos hs, if_pos hs, if_pos hl]
theorem byte_at (n s : Nat) (h : s ≤ 64) : shr .u64 (n : Int) (s : Int) % 256 = ((UInt8.ofNat (n >>> s)).toNat : Int) := by
  rw [shr_u64 n s h]
  simp
theorem bytes_eval (l : List Int) (n k : Nat) (hl : l.length + 8 < 140737488355328) (hk : 8 < k) :
    cipher_bytes.f k l (n : Int) = some (l ++ ints (bytes8 n)) := by
  obtain ⟨k, rfl⟩ : ∃ m, k = m + 9 := ⟨k - 9, by omega⟩
  have step : ∀ (k : Nat) (xs : List Int) (s : Nat) (t : Int), s ≤ 64 → xs.length ≤ 7 → wrap64 ((s : Int) - 8) = t →
      cipher_bytes.l0 (k + 1) (l ++ xs) n (s : Int) = cipher_bytes.l0 k (l ++ (xs ++ [((UInt8.ofNat (n >>> s)).toNat : Int)])) n t := by
    intro k xs s t hs hx ht
    rw [bytes_step _ _ _ _ (by omega) (by rw [List.length_append]; omega), byte_at n s hs, ht, List.append_assoc]
  have e0 : cipher_bytes.f (k + 9) l (n : Int) = cipher_bytes.l0 (k + 8 + 1) (l ++ []) n ((56 : Nat) : Int) := by rw [List.append_nil]; rfl
  rw [e0, step (k + 8) _ 56 ((48 : Nat) : Int) (by omega) (by simp) (by rw [w64_id (by omega) (by omega)]; omega)]
  rw [step (k + 7) _ 48 ((40 : Nat) : Int) (by omega) (by simp) (by rw [w64_id (by omega) (by omega)]; omega)]
  rw [step (k + 6) _ 40 ((32 : Nat) : Int) (by omega) (by simp) (by rw [w64_id (by omega) (by omega)]; omega)]
  rw [step (k + 5) _ 32 ((24 : Nat) : Int) (by omega) (by simp) (by rw [w64_id (by omega) (by omega)]; omega)]
  rw [step (k + 4) _ 24 ((16 : Nat) : Int) (by omega) (by simp) (by rw [w64_id (by omega) (by omega)]; omega)]
  rw [step (k + 3) _ 16 ((8 : Nat) : Int) (by omega) (by simp) (by rw [w64_id (by omega) (by omega)]; omega)]
  rw [step (k + 2) _ 8 ((0 : Nat) : Int) (by omega) (by simp) (by rw [w64_id (by omega) (by omega)]; omega)]
  rw [step (k + 1) _ 0 (-8) (by omega) (by simp) (by rw [w64_id (by omega) (by omega)]; omega)]
  rw [cipher_bytes.l0, if_neg (by decide)]
  rfl
end Go.Proofs.YtopobangjpehnaaGreat.Num

set_option linter.unusedVariables false
set_option linter.unusedSimpArgs false
namespace Go.Proofs.YtopobangjpehnaaGreat.Num
open Go.RowKit Go.Proofs.YtopobangjpehnaaGreatW.PrintWords Go.Proofs.YtopobangjpehnaaGreatW.PrintMore Pr Des

/-! ### half -/
theorem num_take_drop (n : Nat) (l : List Bool) : num l = num (l.take n) * 2 ^ (l.length - n) + num (l.drop n) := by
  conv => lhs; rw [← List.take_append_drop n l]
  rw [num_append, List.length_drop]
theorem shl_u64 (n s : Nat) (hs : s ≤ 64) (h : n * 2 ^ s < 2 ^ 64) : shl .u64 (n : Int) (s : Int) = ((n * 2 ^ s : Nat) : Int) := by
  unfold shl
  rw [show min (s : Int).toNat IntKind.u64.bits = s by simp [IntKind.bits]; omega]
  rw [show (n : Int) * 2 ^ s = ((n * 2 ^ s : Nat) : Int) by simp]
  exact u64_id h
theorem half_go (n : Nat) (s : Nat) (hn : n < 2 ^ 28) (hb : s = 1 ∨ s = 2) :
    cipher_half.f (n : Int) (s : Int) = some ((num (rot s (bitsN 28 n)) : Nat) : Int) := by
  have hw : wrap64 (28 - (s : Int)) = ((28 - s : Nat) : Int) := by rw [w64_id (by omega) (by omega)]; omega
  have h0 : (0 : Int) ≤ (s : Int) := by omega
  have h1 : (0 : Int) ≤ ((28 - s : Nat) : Int) := by omega
  have hL : (bitsN 28 n).length = 28 := bitsN_length _ _
  have hnum : num (bitsN 28 n) = n := by rw [num_bitsN, Nat.mod_eq_of_lt hn]
  have htd := num_take_drop s (bitsN 28 n)
  have ht := num_lt ((bitsN 28 n).take s)
  have hd := num_lt ((bitsN 28 n).drop s)
  rw [hL, hnum] at htd
  rw [List.length_take, hL] at ht
  rw [List.length_drop, hL] at hd
  have hrot : num (rot s (bitsN 28 n)) = num ((bitsN 28 n).drop s) * 2 ^ s + num ((bitsN 28 n).take s) := by
    unfold rot
    rw [num_append, List.length_take, hL]
    rcases hb with rfl | rfl <;> rfl
  rw [hrot]
  generalize num ((bitsN 28 n).take s) = t at *
  generalize num ((bitsN 28 n).drop s) = d at *
  clear hrot hnum hL
  have hs2 : n * 2 ^ s < 2 ^ 64 := by rcases hb with rfl | rfl <;> simp only [Nat.reducePow] <;> omega
  have hq : n >>> (28 - s) = t := by
    rw [Nat.shiftRight_eq_div_pow]
    rcases hb with rfl | rfl <;> simp only [Nat.reduceSub, Nat.reducePow, Nat.min_def] at * <;> omega
  have ht2 : t < 2 ^ s := by rcases hb with rfl | rfl <;> simp only [Nat.reduceSub, Nat.reducePow, Nat.min_def] at * <;> omega
  have ht3 : t < 2 ^ 64 := by rcases hb with rfl | rfl <;> simp only [Nat.reduceSub, Nat.reducePow, Nat.min_def] at * <;> omega
  have hor : n * 2 ^ s ||| t = n * 2 ^ s + t := join n t s ht2
  have hlt : n * 2 ^ s + t < 2 ^ 64 := by rcases hb with rfl | rfl <;> simp only [Nat.reduceSub, Nat.reducePow, Nat.min_def] at * <;> omega
  have hand : (n * 2 ^ s + t) &&& 268435455 = d * 2 ^ s + t := by
    have := Nat.and_two_pow_sub_one_eq_mod (n * 2 ^ s + t) 28
    rw [show (2 : Nat) ^ 28 - 1 = 268435455 from rfl] at this
    rw [this]
    rcases hb with rfl | rfl <;> simp only [Nat.reduceSub, Nat.reducePow, Nat.min_def] at * <;> omega
  unfold cipher_half.f
  rw [if_pos h0, hw, if_pos h1, shl_u64 n s (by omega) hs2, shr_u64 n (28 - s) (by omega), hq, or_u64 _ _ hs2 ht3, hor]
  rw [show (268435455 : Int) = ((268435455 : Nat) : Int) from rfl, and_u64 _ _ hlt (by decide), hand]

/-! ### mixed -/
/-- The rotated half. -/
def rotN (r i : Nat) : Nat := (r * 2 ^ ((4 * i + 31) % 32) % 2 ^ 32) ||| r / 2 ^ (32 - (4 * i + 31) % 32)
theorem rot_count : ∀ i : Fin 8, Go.bits .and .u64 (IntKind.u64.wrap (wrap64 (wrap64 (4 * (((i : Nat)) : Int)) - 1))) 31 = (((4 * (i : Nat) + 31) % 32 : Nat) : Int) := by decide +kernel
theorem rotN_lt (r i : Nat) (hr : r < 2 ^ 32) : rotN r i < 2 ^ 32 :=
  Nat.or_lt_two_pow (Nat.mod_lt _ (by decide)) (Nat.lt_of_le_of_lt (Nat.div_le_self _ _) hr)
theorem rotl_eval (r i : Nat) (hr : r < 2 ^ 32) (hi : i < 8) : bits_RotateLeft32.f (r : Int) (wrap64 (wrap64 (4 * (i : Int)) - 1)) = some ((rotN r i : Nat) : Int) := by
  have hc := rot_count ⟨i, hi⟩
  simp only at hc
  unfold bits_RotateLeft32.f
  rw [hc]
  have hs : (4 * i + 31) % 32 < 32 := Nat.mod_lt _ (by decide)
  unfold rotN
  generalize (4 * i + 31) % 32 = s at *
  have hw : IntKind.u64.wrap (32 - (s : Int)) = ((32 - s : Nat) : Int) := by
    rw [wrap_u64]; omega
  rw [if_pos (by omega), hw, if_pos (by omega)]
  have e1 : shl .u32 (r : Int) (s : Int) = ((r * 2 ^ s % 2 ^ 32 : Nat) : Int) := by
    unfold shl
    rw [show min (s : Int).toNat IntKind.u32.bits = s by simp [IntKind.bits]; omega, wrap_u32]
    simp
  have e2 : shr .u32 (r : Int) ((32 - s : Nat) : Int) = ((r / 2 ^ (32 - s) : Nat) : Int) := by
    unfold shr
    rw [show min ((32 - s : Nat) : Int).toNat IntKind.u32.bits = 32 - s by simp [IntKind.bits]]
    simp
  rw [e1, e2, or_u32 _ _ (Nat.mod_lt _ (by decide)) (Nat.lt_of_le_of_lt (Nat.div_le_self _ _) hr)]

/-- The six bits of the group i. -/
def sixN (r key i : Nat) : Nat := (rotN r i / 2 ^ 26) ^^^ (key >>> (42 - 6 * i) % 2 ^ 6)
theorem bitsN6 (n : Nat) : bitsN 6 n = [n.testBit 5, n.testBit 4, n.testBit 3, n.testBit 2, n.testBit 1, n.testBit 0] := rfl
theorem six_bits (r key i : Nat) (hr : r < 2 ^ 32) (hi : i < 8) :
    bitsN 6 (sixN r key i) = ((xo (sel tWide (bitsN 32 r)) (bitsN 48 key)).drop (6 * i)).take 6 := by
  have hz : ∀ j, 32 ≤ j → r.testBit j = false := fun j hj => Nat.testBit_lt_two_pow (Nat.lt_of_lt_of_le hr (Nat.pow_le_pow_right (by decide) hj))
  have hg : ∀ k, k < 32 → (bitsN 32 r).getD k false = r.testBit (31 - k) := fun k hk => by rw [bitsN_getD _ _ _ hk]
  rw [bitsN6]
  unfold sixN rotN
  have h8 : i = 0 ∨ i = 1 ∨ i = 2 ∨ i = 3 ∨ i = 4 ∨ i = 5 ∨ i = 6 ∨ i = 7 := by omega
  simp only [Nat.testBit_xor, Nat.testBit_div_two_pow, Nat.testBit_mod_two_pow, Nat.testBit_shiftRight, Nat.testBit_or, Nat.testBit_mul_two_pow]
  simp only [sel, tWide, List.map_cons, List.map_nil, hg, Nat.reduceSub, Nat.reduceLT, bitsN, xo, List.zipWith_cons_cons, List.zipWith_nil_left]
  rcases h8 with rfl | rfl | rfl | rfl | rfl | rfl | rfl | rfl <;> simp [hz, hg]

/-- The place in a box, as the program reckons it. -/
def idx (six : Int) : Int := IntKind.u64.wrap ((IntKind.u64.wrap (16 * (Go.bits .or .u64 (Go.bits .and .u64 (six / 16) 2) (Go.bits .and .u64 six 1)))) + (Go.bits .and .u64 (six / 2) 15))
def boxStep (i six : Int) : Option Int := (cipher_box.f i).bind fun t => if 0 ≤ idx six then if idx six < (t.size : Int) then cipher_sixteenth.f (bt t (idx six)) else none else none
theorem box_all : ∀ i : Fin 8, ∀ six : Fin 64, boxStep ((i : Nat) : Int) ((six : Nat) : Int) = some ((((Des.box i).getD (place (bitsN 6 six)) 0 : Nat)) : Int) ∧ (Des.box i).getD (place (bitsN 6 six)) 0 < 16 := by decide +kernel

theorem fbox_snoc (m : Nat) : ∀ (i : Nat) (x : List Bool), fboxFrom (m + 1) i x = fboxFrom m i x ++ sbits (i + m) ((x.drop (6 * m)).take 6) := by
  induction m with
  | zero => intro i x; simp [fboxFrom]
  | succ m ih =>
    intro i x
    rw [fboxFrom, ih, fboxFrom, List.append_assoc, List.drop_drop, show i + 1 + m = i + (m + 1) by omega, show 6 + 6 * m = 6 * (m + 1) by omega]
theorem fbox_length (m : Nat) : ∀ (i : Nat) (x : List Bool), (fboxFrom m i x).length = 4 * m := by
  induction m with
  | zero => intro i x; rfl
  | succ m ih => intro i x; rw [fboxFrom, List.length_append, ih]; simp only [sbits, bitsN_length]; omega

theorem acc_join (acc v : Nat) (ha : acc < 2 ^ 28) (hv : v < 16) : Go.bits .or .u64 (IntKind.u64.wrap (((acc : Nat) : Int) * 16)) ((v : Nat) : Int) = ((acc * 2 ^ 4 + v % 2 ^ 4 : Nat) : Int) := by
  rw [show ((acc : Nat) : Int) * 16 = ((acc * 2 ^ 4 : Nat) : Int) by simp, u64_id (by omega), or_u64 _ _ (by omega) (by omega), join acc v 4 (by omega)]
  congr 2; omega
theorem six_lt (r key i : Nat) (hr : r < 2 ^ 32) : sixN r key i < 2 ^ 6 := by
  have hrot := rotN_lt r i hr
  exact Nat.xor_lt_two_pow (by omega) (Nat.mod_lt _ (by decide))
theorem six_eval (r key i : Nat) (hr : r < 2 ^ 32) (hkey : key < 2 ^ 48) :
    Go.bits .xor .u64 (IntKind.u64.wrap (((rotN r i : Nat) : Int) / 67108864)) (Go.bits .and .u64 (shr .u64 (key : Int) ((42 - 6 * i : Nat) : Int)) 63) = ((sixN r key i : Nat) : Int) := by
  have hrot := rotN_lt r i hr
  have hk1 : key >>> (42 - 6 * i) < 2 ^ 64 := Nat.lt_of_le_of_lt (by rw [Nat.shiftRight_eq_div_pow]; exact Nat.div_le_self _ _) (Nat.lt_of_lt_of_le hkey (by decide))
  have h63 := Nat.and_two_pow_sub_one_eq_mod (key >>> (42 - 6 * i)) 6
  rw [show (2 : Nat) ^ 6 - 1 = 63 from rfl] at h63
  have hm : key >>> (42 - 6 * i) % 2 ^ 6 < 2 ^ 64 := Nat.lt_of_lt_of_le (Nat.mod_lt _ (by decide)) (by decide)
  have hd : rotN r i / 2 ^ 26 < 2 ^ 64 := by omega
  rw [shr_u64 _ _ (by omega), show (63 : Int) = ((63 : Nat) : Int) from rfl, and_u64 _ _ hk1 (by decide)]
  rw [show ((rotN r i : Nat) : Int) / 67108864 = ((rotN r i / 2 ^ 26 : Nat) : Int) by simp, u64_id hd]
  rw [h63, xor_u64 _ _ hd hm]
  rfl
theorem last_go (r key k : Nat) (hk : 32 < k) (x : Int) (hx : x = ((num (fboxFrom 8 0 (xo (sel tWide (bitsN 32 r)) (bitsN 48 key))) : Nat) : Int)) :
    ((cipher_take.f k (ns tP) x 32).bind fun t120 => (some ((t120) % 4294967296))) = some ((num (F (bitsN 32 r) (bitsN 48 key)) : Nat) : Int) := by
  subst hx
  have hF : num (sel tP (fboxFrom 8 0 (xo (sel tWide (bitsN 32 r)) (bitsN 48 key)))) < 2 ^ 32 := by
    have := num_lt (sel tP (fboxFrom 8 0 (xo (sel tWide (bitsN 32 r)) (bitsN 48 key))))
    rwa [sel_length] at this
  unfold F
  have hl := fbox_length 8 0 (xo (sel tWide (bitsN 32 r)) (bitsN 48 key))
  generalize fboxFrom 8 0 (xo (sel tWide (bitsN 32 r)) (bitsN 48 key)) = l at *
  have hn := num_lt l
  have hb := bitsN_num l
  rw [hl] at hn hb
  have ht := take_eval tP 32 (num l) k (by decide) (by decide) (Nat.lt_of_lt_of_le hn (by decide)) (by decide) (by show 32 < k; exact hk)
  rw [show 4 * 8 = 32 from rfl] at hb
  rw [hb] at ht
  rw [show (32 : Int) = ((32 : Nat) : Int) from rfl, ht]
  clear ht hb hn
  simp only [Option.bind_some]
  congr 1
  omega

theorem mixed_go (r key : Nat) (hr : r < 2 ^ 32) (hkey : key < 2 ^ 48) : ∀ d i k, i + d = 8 → d + 33 < k →
    cipher_mixed.l0 k (r : Int) (key : Int) (ns tP) ((num (fboxFrom i 0 (xo (sel tWide (bitsN 32 r)) (bitsN 48 key))) : Nat) : Int) (i : Nat) =
      some ((num (F (bitsN 32 r) (bitsN 48 key)) : Nat) : Int) := by
  intro d
  induction d with
  | zero =>
    intro i k hi hk
    obtain ⟨k, rfl⟩ : ∃ m, k = m + 1 := ⟨k - 1, by omega⟩
    obtain rfl : i = 8 := by omega
    rw [cipher_mixed.l0, if_neg (by decide)]
    exact last_go r key k (by omega) _ rfl
  | succ d ih =>
    intro i k hi hk
    obtain ⟨k, rfl⟩ : ∃ m, k = m + 1 := ⟨k - 1, by omega⟩
    have hi8 : i < 8 := by omega
    have c1 : ((i : Nat) : Int) < 8 := by omega
    have c2 : (0 : Int) ≤ ((42 - 6 * i : Nat) : Int) := by omega
    have hp : (2 : Nat) ^ (4 * i) ≤ 2 ^ 28 := Nat.pow_le_pow_right (by decide) (by omega)
    have ih' := ih (i + 1) k (by omega) (by omega)
    have w2 : wrap64 (42 - wrap64 (6 * (i : Int))) = ((42 - 6 * i : Nat) : Int) := by rw [w64_id (x := 6 * (i : Int)) (by omega) (by omega), w64_id (by omega) (by omega)]; omega
    have w3 : wrap64 ((i : Int) + 1) = ((i + 1 : Nat) : Int) := by rw [w64_id (by omega) (by omega)]; omega
    have hsix := six_lt r key i hr
    have esix := six_eval r key i hr hkey
    obtain ⟨hbox, hv⟩ := box_all ⟨i, hi8⟩ ⟨sixN r key i, hsix⟩
    simp only at hbox hv
    have hsb := six_bits r key i hr hi8
    have hsn := fbox_snoc i 0 (xo (sel tWide (bitsN 32 r)) (bitsN 48 key))
    rw [Nat.zero_add, ← hsb] at hsn
    have hl := fbox_length i 0 (xo (sel tWide (bitsN 32 r)) (bitsN 48 key))
    have hn := num_lt (fboxFrom i 0 (xo (sel tWide (bitsN 32 r)) (bitsN 48 key)))
    rw [hl] at hn
    rw [hsn, num_append] at ih'
    unfold sbits at ih'
    rw [num_bitsN, bitsN_length] at ih'
    have hadd := acc_join (num (fboxFrom i 0 (xo (sel tWide (bitsN 32 r)) (bitsN 48 key)))) _ (Nat.lt_of_lt_of_le hn hp) hv
    rw [cipher_mixed.l0, if_pos c1, rotl_eval r i hr hi8, Option.bind_some, w2, if_pos c2, esix, w3]
    have hb2 : boxStep (i : Int) ((sixN r key i : Nat) : Int) = some (((Des.box i).getD (place (bitsN 6 (sixN r key i))) 0 : Nat) : Int) := hbox
    unfold boxStep at hb2
    cases ht : cipher_box.f (i : Int) with
    | none => rw [ht] at hb2; cases hb2
    | some t =>
      rw [ht, Option.bind_some] at hb2
      rw [Option.bind_some]
      by_cases d1 : 0 ≤ idx ((sixN r key i : Nat) : Int)
      · rw [if_pos d1] at hb2
        by_cases d2 : idx ((sixN r key i : Nat) : Int) < (t.size : Int)
        · rw [if_pos d2] at hb2
          unfold idx at d1 d2 hb2
          rw [if_pos d1, if_pos d2, hb2, Option.bind_some, hadd]
          exact ih'
        · rw [if_neg d2] at hb2; cases hb2
      · rw [if_neg d1] at hb2; cases hb2

theorem mixed_eval (r key k : Nat) (hr : r < 2 ^ 32) (hkey : key < 2 ^ 48) (hk : 41 < k) :
    cipher_mixed.f k (r : Int) (key : Int) (ns tP) = some ((num (F (bitsN 32 r) (bitsN 48 key)) : Nat) : Int) :=
  mixed_go r key hr hkey 8 0 k rfl (by omega)
end Go.Proofs.YtopobangjpehnaaGreat.Num

set_option linter.unusedVariables false
set_option linter.unusedSimpArgs false
namespace Go.Proofs.YtopobangjpehnaaGreat.Walk
open Go.RowKit Go.Proofs.YtopobangjpehnaaGreatW.PrintWords Go.Proofs.YtopobangjpehnaaGreatW.PrintLast Go.Proofs.YtopobangjpehnaaGreatW.PrintMore Pr Des Num

/-! ### Blocks -/
def Blk (w : World) (g : Nat) (t : TypeId) (cs : Array Value) : Prop := w.heap[g]? = some (.cells cs t (0, 0))
section
variable {w w' : World} {g : Nat} {t : TypeId} {cs : Array Value}
theorem Blk.lt (h : Blk w g t cs) : g < w.heap.size := by
  rcases Nat.lt_or_ge g w.heap.size with hlt | hge
  · exact hlt
  · unfold Blk at h; rw [Array.getElem?_eq_none hge] at h; cases h
theorem Blk.cell (h : Blk w g t cs) (i : Nat) : w.cell? ⟨g, i, none⟩ = cs[i]? := cell_of_row w g i cs t (0, 0) h
theorem Blk.frozen (h : Blk w g t cs) (i : Nat) : w.frozen? ⟨g, i, none⟩ = false := by
  unfold Blk at h
  simp [World.frozen?, h]
theorem Blk.new (w : World) (t : TypeId) (cs : Array Value) : Blk (w.alloc (.cells cs t)) w.heap.size t cs := heap_alloc_new w _
theorem Blk.drew (h : Blk w g t cs) : Blk w.drew g t cs := h
theorem Blk.drewN (h : Blk w g t cs) (n : Nat) : Blk (w.drewN n) g t cs := h
theorem Blk.alloc (h : Blk w g t cs) (o : Obj) : Blk (w.alloc o) g t cs := (Below.heap_alloc w o g h.lt).trans h
theorem Blk.set_ (h : Blk w g t cs) (i : Nat) (u : Value) : Blk (w.setCell ⟨g, i, none⟩ u) g t (cs.setIfInBounds i u) := by
  unfold Blk at h ⊢
  simp [World.setCell, Array.getElem?_modify, h]
theorem Blk.far (h : Blk w g t cs) {p : Addr} (hp : g ≠ p.block) (u : Value) : Blk (w.setCell p u) g t cs := (Below.heap_setCell w p u g hp).trans h
theorem Blk.below {B : Nat} (h : Blk w g t cs) (hb : Below B w w') (hg : g < B) : Blk w' g t cs := (hb.block g hg).trans h
theorem Blk.ne_ {g' : Nat} {t' : TypeId} {cs' : Array Value} (h : Blk w g t cs) (h' : Blk w g' t' cs') (hne : t ≠ t') : g ≠ g' := by
  rintro rfl
  unfold Blk at h h'
  rw [h] at h'
  injection h' with h'
  injection h' with _ ht
  exact hne ht
theorem Blk.step (h : Blk w g t cs) (hb : Below w.heap.size w w') : Blk w' g t cs := (hb.block g h.lt).trans h
end
theorem size_alloc (w : World) (o : Obj) : (w.alloc o).heap.size = w.heap.size + 1 := by simp

/-! ### A part of a block, read and written whole -/
theorem addr_add (g o i : Nat) : (⟨g, o, none⟩ : Addr).add i = ⟨g, o + i, none⟩ := by unfold Addr.add; split <;> simp_all
section
variable {P : Program}
theorem run_load_part {w : World} {g : Nat} {t ty : TypeId} {cs : Array Value} {d : TypeDesc} {o n : Nat} (hg : Blk w g t cs) (ho : o + n ≤ cs.size)
    (hu : P.underlying ty = some d) (hd : (match d with | .struct _ | .array _ _ => true | _ => false) = true) (hi : (P.info? ty).map (·.size) = some n) :
    (loadVar ty ⟨g, o, none⟩).run P w = .ok (.agg (cs.extract o (o + n))) w := by
  have hlen : (cs.extract o (o + n)).toList.length = n := by rw [Array.length_toList, Array.size_extract]; omega
  have hl : (loadCells ⟨g, o, none⟩ (cs.extract o (o + n)).toList.length).run P w = .ok (cs.extract o (o + n)).toList.toArray w :=
    run_loadCells_list (P := P) w ⟨g, o, none⟩ (cs.extract o (o + n)).toList (fun j v hv => by
      rw [addr_add, hg.cell]
      have hv2 : (cs.extract o (o + n))[j]? = some v := by rw [← Array.getElem?_toList]; exact hv
      have hj : j < (cs.extract o (o + n)).size := (Array.getElem?_eq_some_iff.1 hv2).1
      rw [Array.size_extract] at hj
      rw [Array.getElem?_extract] at hv2
      rw [if_pos (by omega)] at hv2
      exact hv2)
  rw [hlen, Array.toArray_toList] at hl
  cases hq : P.info? ty with
  | none => simp [hq] at hi
  | some i =>
    have hs : i.size = n := by simpa [hq] using hi
    have hagg : (isAgg ty).run P w = .ok true w := by
      unfold isAgg
      rw [Sem.run_bind, run_underlying hu w]
      cases d <;> simp_all
    simp [loadVar, Sem.run_bind, hagg, sizeOf, typeInfo, hq, hs, hl]
theorem run_store_part {w : World} {g : Nat} {t ty : TypeId} {cs vs : Array Value} {o : Nat} (hg : Blk w g t cs) (ho : o + vs.size ≤ cs.size)
    (hi : (P.info? ty).map (·.size) = some vs.size) (h1 : ∀ v ∈ vs.toList, v.oneCell' = true) :
    (storeVar ty ⟨g, o, none⟩ (.agg vs)).run P w = .ok () (w.setRow g (cs.toList.take o ++ vs.toList ++ cs.toList.drop (o + vs.size)).toArray) := by
  have hst := run_storeCells_at P g o t vs.toList 0 cs w hg (by simpa using ho) h1
  cases hq : P.info? ty with
  | none => simp [hq] at hi
  | some i =>
    have hs : i.size = vs.size := by simpa [hq] using hi
    simp only [Nat.add_zero, Array.length_toList] at hst
    simp [storeVar, sizeOf, typeInfo, hq, Value.cells, hs, hst]
section
variable {ops : Array Oper} {rest : List Oper} {op : Oper} {a : Act} {w : World} {Q : Exit → Act → World → Prop}
theorem wpList_load_part (hgd : op.guard = none) (ty : TypeId) (x : Operand) (ho : op.op = .load ty x) {g o n : Nat} (hx : a.eval x = .pointer (some ⟨g, o, none⟩))
    {t : TypeId} {cs : Array Value} {d : TypeDesc} (hg : Blk w g t cs) (hn : o + n ≤ cs.size) (hu : P.underlying ty = some d) (hd : (match d with | .struct _ | .array _ _ => true | _ => false) = true)
    (hi : (P.info? ty).map (·.size) = some n) (h : wpList P ops Q rest (a.put op.dst (.agg (cs.extract o (o + n)))) w) : wpList P ops Q (op :: rest) a w :=
  wpList_plain hgd fun K hK => by
    unfold Oper.wp execOp
    simp only [ho, hx, Instr.loadAt, Instr.sureAddr, Sem.run_bind, Sem.run_pure, Result.andThen_ok, run_load_part hg hn hu hd hi]
    exact hK _ _ h
theorem wpList_store_part (hgd : op.guard = none) (ty : TypeId) (x y : Operand) (ho : op.op = .store ty x y) {g o : Nat} (hx : a.eval x = .pointer (some ⟨g, o, none⟩))
    {t : TypeId} {cs vs : Array Value} (hy : a.eval y = .agg vs) (hg : Blk w g t cs) (hn : o + vs.size ≤ cs.size)
    (hi : (P.info? ty).map (·.size) = some vs.size) (h1 : ∀ v ∈ vs.toList, v.oneCell' = true)
    (h : wpList P ops Q rest (a.put op.dst undef) (w.setRow g (cs.toList.take o ++ vs.toList ++ cs.toList.drop (o + vs.size)).toArray)) : wpList P ops Q (op :: rest) a w :=
  wpList_plain hgd fun K hK => by
    unfold Oper.wp execOp
    simp only [ho, hx, hy, Instr.storeAt, Instr.sureAddr, Sem.run_bind, Sem.run_pure, Result.andThen_ok, run_store_part hg hn hi h1]
    exact hK _ _ h
end
end
theorem Blk.setRow {w : World} {g : Nat} {t : TypeId} {cs : Array Value} (h : Blk w g t cs) (cs' : Array Value) : Blk (w.setRow g cs') g t cs' := setRow_heap w g cs cs' t (0, 0) h
theorem Blk.farRow {w : World} {g k : Nat} {t : TypeId} {cs : Array Value} (h : Blk w g t cs) (hne : g ≠ k) (cs' : Array Value) : Blk (w.setRow k cs') g t cs := (setRow_other w k g cs' hne).trans h
theorem row_whole {cs vs : Array Value} (h : cs.size = vs.size) : (cs.toList.take 0 ++ vs.toList ++ cs.toList.drop (0 + vs.size)).toArray = vs := by
  rw [List.take_zero, List.nil_append, List.drop_of_length_le (by rw [Array.length_toList]; omega), List.append_nil, Array.toArray_toList]
theorem extract_whole {cs : Array Value} {n : Nat} (h : cs.size = n) : cs.extract 0 (0 + n) = cs := by
  subst h; simp
theorem below_setRow' {B : Nat} {a w : World} (h : Below B a w) {g : Nat} (hg : B ≤ g) (cs : Array Value) : Below B a (w.setRow g cs) :=
  h.trans ⟨rfl, rfl, rfl, by simp, fun k hk => setRow_other w g k cs (by omega)⟩

theorem size69 : (Tryz.prog.info? 98).map (·.size) = some 16 := by kernel_rfl

/-! ### Tables and take -/
theorem first_any (W : World) : Calls Tryz.prog 83 #[] W fun e w' => ∃ (A : Option Addr) (c : Nat), e = .returned (.slice A 56 c) ∧ Kd.C (Kd.int .u8) w' A 56 (ns tK1) ∧ 56 ≤ c ∧ Below W.heap.size W w' := by
  refine (cipher_first.calls _ W first_eval).mono ?_
  rintro e w' ⟨v, rfl, hR, hb⟩
  obtain ⟨A, c, rfl⟩ := Kd.R_slice hR
  exact ⟨A, c, rfl, (Kd.R_reads' hR).2.2, (Kd.R_reads' hR).2.1, hb⟩
theorem second_any (W : World) : Calls Tryz.prog 85 #[] W fun e w' => ∃ (A : Option Addr) (c : Nat), e = .returned (.slice A 48 c) ∧ Kd.C (Kd.int .u8) w' A 48 (ns tK2) ∧ 48 ≤ c ∧ Below W.heap.size W w' := by
  refine (cipher_second.calls _ W second_eval).mono ?_
  rintro e w' ⟨v, rfl, hR, hb⟩
  obtain ⟨A, c, rfl⟩ := Kd.R_slice hR
  exact ⟨A, c, rfl, (Kd.R_reads' hR).2.2, (Kd.R_reads' hR).2.1, hb⟩
theorem enter_any (W : World) : Calls Tryz.prog 94 #[] W fun e w' => ∃ (A : Option Addr) (c : Nat), e = .returned (.slice A 64 c) ∧ Kd.C (Kd.int .u8) w' A 64 (ns tIn) ∧ 64 ≤ c ∧ Below W.heap.size W w' := by
  refine (cipher_enter.calls _ W enter_eval).mono ?_
  rintro e w' ⟨v, rfl, hR, hb⟩
  obtain ⟨A, c, rfl⟩ := Kd.R_slice hR
  exact ⟨A, c, rfl, (Kd.R_reads' hR).2.2, (Kd.R_reads' hR).2.1, hb⟩
theorem leave_any (W : World) : Calls Tryz.prog 97 #[] W fun e w' => ∃ (A : Option Addr) (c : Nat), e = .returned (.slice A 64 c) ∧ Kd.C (Kd.int .u8) w' A 64 (ns tOut) ∧ 64 ≤ c ∧ Below W.heap.size W w' := by
  refine (cipher_leave.calls _ W leave_eval).mono ?_
  rintro e w' ⟨v, rfl, hR, hb⟩
  obtain ⟨A, c, rfl⟩ := Kd.R_slice hR
  exact ⟨A, c, rfl, (Kd.R_reads' hR).2.2, (Kd.R_reads' hR).2.1, hb⟩
theorem spread_any (W : World) : Calls Tryz.prog 95 #[] W fun e w' => ∃ (A : Option Addr) (c : Nat), e = .returned (.slice A 32 c) ∧ Kd.C (Kd.int .u8) w' A 32 (ns tP) ∧ 32 ≤ c ∧ Below W.heap.size W w' := by
  refine (cipher_spread.calls _ W spread_eval).mono ?_
  rintro e w' ⟨v, rfl, hR, hb⟩
  obtain ⟨A, c, rfl⟩ := Kd.R_slice hR
  exact ⟨A, c, rfl, (Kd.R_reads' hR).2.2, (Kd.R_reads' hR).2.1, hb⟩

theorem take_any (T : List Nat) (m wd n : Nat) (hm : T.length = m) (hT : ∀ t ∈ T, 1 ≤ t ∧ t ≤ wd) (hw : wd ≤ 64) (hn : n < 2 ^ 64) (hl : T.length ≤ 64)
    (A : Option Addr) (c : Nat) (W : World) (hC : Kd.C (Kd.int .u8) W A m (ns T)) (hc : m ≤ c) :
    Calls Tryz.prog 82 #[.slice A m c, .int .u64 (n : Int), .int .i64 (wd : Int)] W fun e w' => e = .returned (.int .u64 ((num (sel T (bitsN wd n)) : Nat) : Int)) ∧ Below W.heap.size W w' := by
  subst hm
  have hns : (ns T).length = T.length := ns_length T
  have h := cipher_take.calls 65 A c (ns T) (n : Int) (wd : Int) _ W (by rw [hns]; exact hC) (by rw [hns]; exact hc) (take_eval T wd n 65 hT hw hn hl (by omega))
  rw [hns] at h
  exact h.mono fun e w' ⟨he, hd⟩ => ⟨he, hd.below⟩
theorem number_any (s : ByteArray) (hs : 8 ≤ s.size) (W : World) :
    Calls Tryz.prog 59 #[.string s] W fun e w' => e = .returned (.int .u64 ((num (bitsB (s.data.toList.take 8)) : Nat) : Int)) ∧ Below W.heap.size W w' :=
  (cipher_number.calls 9 s _ W (number_eval s hs 9 (by decide))).mono fun e w' ⟨he, hd⟩ => ⟨he, hd.below⟩
theorem half_any (n s : Nat) (hn : n < 2 ^ 28) (hs : s = 1 ∨ s = 2) (W : World) :
    Calls Tryz.prog 84 #[.int .u64 (n : Int), .int .i64 (s : Int)] W fun e w' => e = .returned (.int .u64 ((num (rot s (bitsN 28 n)) : Nat) : Int)) ∧ Below W.heap.size W w' :=
  (cipher_half.calls _ _ _ W (half_go n s hn hs)).mono fun e w' ⟨he, hd⟩ => ⟨he, hd.below⟩
theorem mixed_any (r key : Nat) (hr : r < 2 ^ 32) (hkey : key < 2 ^ 48) (A : Option Addr) (c : Nat) (W : World) (hC : Kd.C (Kd.int .u8) W A 32 (ns tP)) (hc : 32 ≤ c) :
    Calls Tryz.prog 96 #[.int .u32 (r : Int), .int .u64 (key : Int), .slice A 32 c] W fun e w' => e = .returned (.int .u32 ((num (F (bitsN 32 r) (bitsN 48 key)) : Nat) : Int)) ∧ Below W.heap.size W w' :=
  (cipher_mixed.calls 42 _ _ A c (ns tP) _ W hC hc (mixed_eval r key 42 hr hkey (by decide))).mono fun e w' ⟨he, hd⟩ => ⟨he, hd.below⟩
end Go.Proofs.YtopobangjpehnaaGreat.Walk

set_option linter.unusedVariables false
set_option linter.unusedSimpArgs false
namespace Go.Proofs.YtopobangjpehnaaGreat.Walk
open Go.RowKit Go.Proofs.YtopobangjpehnaaGreatW.PrintWords Go.Proofs.YtopobangjpehnaaGreatW.PrintLast Go.Proofs.YtopobangjpehnaaGreatW.PrintMore Pr Des Num
def halves (key : List Bool) : Nat → List Bool × List Bool
  | 0 => ((sel tK1 key).take 28, (sel tK1 key).drop 28)
  | i + 1 => (rot (shifts.getD i 0) (halves key i).1, rot (shifts.getD i 0) (halves key i).2)
def keyAt (key : List Bool) (i : Nat) : List Bool := sel tK2 ((halves key (i + 1)).1 ++ (halves key (i + 1)).2)
theorem sched_eq (key : List Bool) : sched key = (List.range 16).map (keyAt key) := rfl
theorem halves_length (key : List Bool) (i : Nat) : (halves key i).1.length = 28 ∧ (halves key i).2.length = 28 := by
  induction i with
  | zero => simp [halves, sel_length, tK1]
  | succ i ih => simp only [halves, rot_length]; exact ih
/-- The row of the round keys behind i rounds. -/
def keyCells (key : List Bool) (i : Nat) : Array Value := ((List.range 16).map fun j => if j < i then Value.int .u64 ((num (keyAt key j) : Nat) : Int) else .int .u64 0).toArray
theorem keyCells_size (key : List Bool) (i : Nat) : (keyCells key i).size = 16 := by simp [keyCells]
theorem keyCells_set (key : List Bool) (i : Nat) (h : i < 16) : (keyCells key i).setIfInBounds i (.int .u64 ((num (keyAt key i) : Nat) : Int)) = keyCells key (i + 1) := by
  apply Array.ext
  · simp [keyCells]
  · intro j h1 h2
    simp only [keyCells, List.setIfInBounds_toArray, List.getElem_toArray, List.getElem_set, List.getElem_map, List.getElem_range]
    by_cases e : i = j
    · subst e; simp
    · rw [if_neg e]
      by_cases hj : j < i
      · rw [if_pos hj, if_pos (by omega)]
      · rw [if_neg hj, if_neg (by omega)]

theorem half_int (n : Nat) (s : Int) (l : List Bool) (hl : l.length = 28) (hn : num l = n) (hs : s = 1 ∨ s = 2) (W : World) :
    Calls Tryz.prog 84 #[.int .u64 (n : Int), .int .i64 s] W fun e w' => e = .returned (.int .u64 ((num (rot s.toNat l) : Nat) : Int)) ∧ Below W.heap.size W w' := by
  have hlt := num_lt l
  have hb := bitsN_num l
  rw [hl] at hlt hb
  subst hn
  rcases hs with rfl | rfl
  · have := half_any (num l) 1 hlt (.inl rfl) W
    rw [hb] at this
    exact this
  · have := half_any (num l) 2 hlt (.inr rfl) W
    rw [hb] at this
    exact this
theorem join_halves (a b : List Bool) (ha : a.length = 28) (hb : b.length = 28) :
    Go.bits .or .u64 (IntKind.u64.wrap (((num a : Nat) : Int) * 268435456)) ((num b : Nat) : Int) = ((num (a ++ b) : Nat) : Int) := by
  have h1 := num_lt a
  have h2 := num_lt b
  have hj := join (num a) (num b) 28 (by rw [hb] at h2; exact h2)
  have he := num_append a b
  rw [ha] at h1
  rw [hb] at h2 he
  rw [show ((num a : Nat) : Int) * 268435456 = ((num a * 2 ^ 28 : Nat) : Int) by simp, u64_id (by omega), or_u64 _ _ (by omega) (by omega), hj, he]
theorem split_halves (l : List Bool) (h : l.length = 56) : ((num l : Nat) : Int) / 268435456 = ((num (l.take 28) : Nat) : Int) ∧ Go.bits .and .u64 ((num l : Nat) : Int) 268435455 = ((num (l.drop 28) : Nat) : Int) := by
  have h1 := num_take_drop 28 l
  have h2 := num_lt (l.drop 28)
  have h3 := num_lt l
  rw [h] at h1 h3
  rw [List.length_drop, h] at h2
  have hm := Nat.and_two_pow_sub_one_eq_mod (num l) 28
  rw [show (2 : Nat) ^ 28 - 1 = 268435455 from rfl] at hm
  constructor
  · omega
  · rw [show (268435455 : Int) = ((268435455 : Nat) : Int) from rfl, and_u64 _ _ (by omega) (by decide), hm]
    congr 1
    omega
theorem shift_at (i : Nat) (h : i < 16) : shifts.getD i 0 = if i = 0 ∨ i = 1 ∨ i = 8 ∨ i = 15 then 1 else 2 := by
  revert i; decide

set_option maxHeartbeats 1000000 in
set_option maxRecDepth 100000 in
theorem scheduled_calls (s : ByteArray) (hs : s.size = 8) (w : World) :
    Calls Tryz.prog 58 #[.string s] w fun e w' => e = .returned (.agg (keyCells (bitsB s.data.toList) 16)) ∧ Below w.heap.size w w' := by
  have hlen : (bitsB s.data.toList).length = 64 := by rw [bitsB_length, Array.length_toList]; show 8 * s.size = 64; omega
  have htake : s.data.toList.take 8 = s.data.toList := List.take_of_length_le (by rw [Array.length_toList]; show s.size ≤ 8; omega)
  have hN := number_any s (by omega)
  rw [htake] at hN
  have hnlt : num (bitsB s.data.toList) < 2 ^ 64 := by have := num_lt (bitsB s.data.toList); rwa [hlen] at this
  have hbits : bitsN 64 (num (bitsB s.data.toList)) = bitsB s.data.toList := by have := bitsN_num (bitsB s.data.toList); rwa [hlen] at this
  generalize bitsB s.data.toList = key at *
  have HN := Aside0.mk hN
  have HL := Aside0.mk hnlt
  have HB := Aside0.mk hbits
  clear hs hlen htake hN hnlt hbits
  go_enter Tryz.func58, Tryz.ntmps58
  go_wp2_with fail
  refine (first_any _).mono ?_
  rintro e w1 ⟨A1, c1, rfl, hC1, hc1, hb1⟩
  have G2 := Aside0.mk (((Blk.new w 98 (keyCells key 0)).alloc (.cells (keyCells key 0) 98)).step hb1)
  have G3 := Aside0.mk (by have := (Blk.new (w.alloc (.cells (keyCells key 0) 98)) 98 (keyCells key 0)).step hb1; rwa [size_alloc] at this)
  have B1 := Aside0.mk ((((Below.refl w.heap.size w).alloc (Nat.le_refl _) (.cells (keyCells key 0) 98)).alloc (by simp) (.cells (keyCells key 0) 98)).trans (hb1.mono (by simp; omega)))
  have C1 := Aside0.mk hC1
  have D1 := Aside0.mk hc1
  clear hb1 hC1 hc1
  go_wp2_with fail
  refine (HN.out _).mono ?_
  rintro e w2 ⟨rfl, hb2⟩
  replace G2 := Aside0.mk (G2.out.step hb2)
  replace G3 := Aside0.mk (G3.out.step hb2)
  replace B1 := Aside0.mk (B1.out.trans (hb2.mono B1.out.size))
  replace C1 := Aside0.mk (Kd.C_below C1.out hb2)
  clear hb2 HN
  go_wp2_with fail
  refine (take_any tK1 56 64 _ rfl (by decide) (by decide) HL.out (by decide) A1 c1 _ C1.out D1.out).mono ?_
  rintro e w3 ⟨rfl, hb3⟩
  replace G2 := Aside0.mk (G2.out.step hb3)
  replace G3 := Aside0.mk (G3.out.step hb3)
  replace B1 := Aside0.mk (B1.out.trans (hb3.mono B1.out.size))
  clear hb3 C1 D1
  rw [HB.out]
  go_wp2_with fail
  have HS1 := Aside0.mk (split_halves (sel tK1 key) (by rw [sel_length]; rfl))
  rw [HS1.out.1, HS1.out.2]
  go_loopw [5, 6, 17] (fun v5 v6 v17 wr => ∃ i : Nat, i ≤ 16 ∧ v17 = .int .i64 i ∧ v5 = .int .u64 ((num (halves key i).1 : Nat) : Int) ∧ v6 = .int .u64 ((num (halves key i).2 : Nat) : Int) ∧
      Aside0 (Blk wr w.heap.size 98 (keyCells key 0)) ∧ Aside0 (Blk wr (w.heap.size + 1) 98 (keyCells key i)) ∧ Aside0 (Below w.heap.size w wr)) (fun _ _ i _ => 16 - (intOf i).toNat)
  case atStart => exact ⟨0, by omega, rfl, rfl, rfl, G2, G3, B1⟩
  case round =>
    clear G2 G3 B1
    obtain ⟨i, hi, rfl, rfl, rfl, G2, G3, B1⟩ := hrel
    by_cases hlt : i < 16
    · have hl1 := Aside0.mk (halves_length key i)
      have hl2 := Aside0.mk (halves_length key (i + 1))
      have hfive : ∃ s : Int, Aside0 ((s = 1 ∨ s = 2) ∧ s.toNat = shifts.getD i 0) ∧ (s = 1 ∧ ((i : Int) == 0) = true ∨ s = 1 ∧ ((i : Int) == 0) = false ∧ ((i : Int) == 1) = true ∨ s = 1 ∧ ((i : Int) == 0) = false ∧ ((i : Int) == 1) = false ∧ ((i : Int) == 8) = true ∨
          s = 1 ∧ ((i : Int) == 0) = false ∧ ((i : Int) == 1) = false ∧ ((i : Int) == 8) = false ∧ ((i : Int) == 15) = true ∨ s = 2 ∧ ((i : Int) == 0) = false ∧ ((i : Int) == 1) = false ∧ ((i : Int) == 8) = false ∧ ((i : Int) == 15) = false) := by
        have := shift_at i hlt
        simp only [beq_iff_eq, beq_eq_false_iff_ne]
        by_cases h : i = 0 ∨ i = 1 ∨ i = 8 ∨ i = 15
        · rw [if_pos h] at this
          exact ⟨1, ⟨.inl rfl, by rw [this]; rfl⟩, by omega⟩
        · rw [if_neg h] at this
          exact ⟨2, ⟨.inr rfl, by rw [this]; rfl⟩, by omega⟩
      obtain ⟨s1, HS2, hfive⟩ := hfive
      have HA : Aside0 (∀ W : World, Calls Tryz.prog 84 #[.int .u64 ((num (halves key i).1 : Nat) : Int), .int .i64 s1] W fun e w' => e = .returned (.int .u64 ((num (halves key (i + 1)).1 : Nat) : Int)) ∧ Below W.heap.size W w') :=
        ⟨fun W => by have := half_int _ s1 (halves key i).1 hl1.out.1 rfl HS2.out.1 W; rw [HS2.out.2] at this; exact this⟩
      have HB2 : Aside0 (∀ W : World, Calls Tryz.prog 84 #[.int .u64 ((num (halves key i).2 : Nat) : Int), .int .i64 s1] W fun e w' => e = .returned (.int .u64 ((num (halves key (i + 1)).2 : Nat) : Int)) ∧ Below W.heap.size W w') :=
        ⟨fun W => by have := half_int _ s1 (halves key i).2 hl1.out.2 rfl HS2.out.1 W; rw [HS2.out.2] at this; exact this⟩
      have HJ := Aside0.mk (join_halves (halves key (i + 1)).1 (halves key (i + 1)).2 hl2.out.1 hl2.out.2)
      have HK : Aside0 (num ((halves key (i + 1)).1 ++ (halves key (i + 1)).2) < 2 ^ 64 ∧ bitsN 56 (num ((halves key (i + 1)).1 ++ (halves key (i + 1)).2)) = (halves key (i + 1)).1 ++ (halves key (i + 1)).2) := by
        have h1 := num_lt ((halves key (i + 1)).1 ++ (halves key (i + 1)).2)
        have h2 := bitsN_num ((halves key (i + 1)).1 ++ (halves key (i + 1)).2)
        rw [List.length_append, hl2.out.1, hl2.out.2] at h1 h2
        exact ⟨Nat.lt_of_lt_of_le h1 (by decide), h2⟩
      have hcell : ∃ v0, (keyCells key i)[i]? = some v0 := ⟨_, Array.getElem?_eq_getElem (by rw [keyCells_size]; exact hlt)⟩
      obtain ⟨v0, hcell⟩ := hcell
      have HC := Aside0.mk hcell
      have HW := Aside0.mk (keyCells_set key i hlt)
      clear hcell
      rcases hfive with ⟨rfl, b0⟩ | ⟨rfl, b0, b1⟩ | ⟨rfl, b0, b1, b8⟩ | ⟨rfl, b0, b1, b8, b15⟩ | ⟨rfl, b0, b1, b8, b15⟩
      all_goals
        go_wp2_with fail
        refine (HA.out _).mono ?_
        rintro e w4 ⟨rfl, hb4⟩
        replace G2 := Aside0.mk (G2.out.step hb4)
        replace G3 := Aside0.mk (G3.out.step hb4)
        replace B1 := Aside0.mk (B1.out.trans (hb4.mono B1.out.size))
        clear hb4
        go_wp2_with fail
        refine (HB2.out _).mono ?_
        rintro e w5 ⟨rfl, hb5⟩
        replace G2 := Aside0.mk (G2.out.step hb5)
        replace G3 := Aside0.mk (G3.out.step hb5)
        replace B1 := Aside0.mk (B1.out.trans (hb5.mono B1.out.size))
        clear hb5
        go_wp2_with fail
      all_goals
        refine (second_any _).mono ?_
        rintro e w6 ⟨A6, c6, rfl, hC6, hc6, hb6⟩
        replace G2 := Aside0.mk (G2.out.step hb6)
        replace G3 := Aside0.mk (G3.out.step hb6)
        replace B1 := Aside0.mk (B1.out.trans (hb6.mono B1.out.size))
        have C6 := Aside0.mk hC6
        have D6 := Aside0.mk hc6
        clear hb6 hC6 hc6
        go_wp2_with fail
        rw [HJ.out]
        refine (take_any tK2 48 56 _ rfl (by decide) (by decide) HK.out.1 (by decide) A6 c6 _ C6.out D6.out).mono ?_
        rintro e w7 ⟨rfl, hb7⟩
        rw [HK.out.2]
        replace G2 := Aside0.mk (G2.out.step hb7)
        replace G3 := Aside0.mk (G3.out.step hb7)
        replace B1 := Aside0.mk (B1.out.trans (hb7.mono B1.out.size))
        clear hb7 C6 D6
        have q1 : w7.cell? ⟨w.heap.size + 1, i, none⟩ = some v0 := (G3.out.cell i).trans HC.out
        have q2 : w7.frozen? ⟨w.heap.size + 1, i, none⟩ = false := G3.out.frozen i
        go_wp2
        go_roundw
        case rel => exact ⟨i + 1, by omega, by go_num, rfl, rfl, ⟨G2.out.far (by simp) _⟩, ⟨by have := G3.out.set_ i (.int .u64 ((num (keyAt key i) : Nat) : Int)); rw [HW.out] at this; exact this⟩, ⟨B1.out.setCell (by simp) _⟩⟩
        case measure => simp [intOf]; omega
    · obtain rfl : i = 16 := by omega
      have hone : ∀ v ∈ (keyCells key 16).toList, v.oneCell' = true := by
        intro v hv
        simp only [keyCells, List.toList_toArray, List.mem_map, List.mem_range] at hv
        obtain ⟨j, hj, rfl⟩ := hv
        rw [if_pos hj]; rfl
      have HO := Aside0.mk hone
      clear hone
      have HSZ := Aside0.mk (keyCells_size key 0)
      have HSY := Aside0.mk (keyCells_size key 16)
      have HT := Aside0.mk (extract_whole HSY.out)
      go_wp2_with (first | (refine wpList_load_part rfl 98 (.tmp 3) rfl rfl G3.out (o := 0) (n := 16) (Nat.le_of_eq HSY.out.symm) Tryz.underlying98 rfl size69 ?_; rw [HT.out]) | (refine wpList_store_part rfl 98 (.tmp 2) (.tmp 49) rfl (o := 0) rfl rfl G2.out (by rw [HSZ.out, HSY.out]; decide) (by rw [HSY.out]; exact size69) HO.out ?_))
      rw [row_whole (HSZ.out.trans HSY.out.symm)]
      refine bodyPost_ret (results_cell_row rfl _ _ w.heap.size 98 (keyCells key 16) (0, 0) _ rfl (G2.out.setRow _) Tryz.underlying98 rfl (by rw [HSY.out]; exact size69)) rfl ⟨rfl, below_setRow' B1.out (Nat.le_refl _) _⟩
end Go.Proofs.YtopobangjpehnaaGreat.Walk
