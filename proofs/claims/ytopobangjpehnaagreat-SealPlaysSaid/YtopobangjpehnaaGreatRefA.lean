/- The document's own answer, layer 3: its functions on lists of bits: tables, bits, F, the round keys. -/
import Derived.Test.YtopobangjpehnaaGreatPrC
import Derived.Test.YtopobangjpehnaaGreatNumAll
import Derived.Test.YtopobangjpehnaaGreatXorsLaw
set_option linter.unusedVariables false
set_option linter.unusedSimpArgs false
namespace Go.Proofs.YtopobangjpehnaaGreat.Ref
open Go.RowKit Go.Proofs.YtopobangjpehnaaGreatW.PrintWords Go.Proofs.YtopobangjpehnaaGreatW.PrintLast Go.Proofs.YtopobangjpehnaaGreatW.PrintMore Pr Des Num Walk

/-- Bits as whole numbers. -/
def zo (l : List Bool) : List Int := l.map fun b => ((b.toNat : Nat) : Int)
theorem zo_length (l : List Bool) : (zo l).length = l.length := by simp [zo]
theorem zo_append (a b : List Bool) : zo (a ++ b) = zo a ++ zo b := by simp [zo]
theorem rd_zo (l : List Bool) (i : Nat) : rd (zo l) (i : Int) = (((l.getD i false).toNat : Nat) : Int) := by
  simp only [rd, zo, List.getD_eq_getElem?_getD, List.getElem?_map, Int.toNat_natCast]
  cases h : l[i]? <;> simp
theorem wi (i : Nat) (h : i < 4000000000000000000) : wrap64 ((i : Int) + 1) = ((i + 1 : Nat) : Int) := by rw [w64_id (by omega) (by omega)]; omega
theorem rtake_go (T : List Nat) (l : List Bool) (hT : ∀ t ∈ T, 1 ≤ t ∧ t ≤ l.length) (hl : T.length ≤ 1000) (hl2 : l.length ≤ 1000) : ∀ d i k, i + d = T.length → d < k →
    turnstileref3_take.l0 k (ns T) (zo l) (zo (sel (T.take i) l)) (i : Int) = some (zo (sel T l)) := by
  intro d
  induction d with
  | zero =>
    intro i k hi hk
    obtain ⟨k, rfl⟩ : ∃ m, k = m + 1 := ⟨k - 1, by omega⟩
    rw [turnstileref3_take.l0, if_neg (by rw [ns_length]; omega), List.take_of_length_le (by omega)]
  | succ d ih =>
    intro i k hi hk
    obtain ⟨k, rfl⟩ : ∃ m, k = m + 1 := ⟨k - 1, by omega⟩
    have hlt : i < T.length := by omega
    have hmem := hT T[i] (List.getElem_mem hlt)
    have hrd : rd (ns T) (i : Int) = (T[i] : Int) := by simp [rd, ns, List.getD_eq_getElem?_getD, hlt]
    have w1 : wrap64 ((T[i] : Int) - 1) = ((T[i] - 1 : Nat) : Int) := by rw [w64_id (by omega) (by omega)]; omega
    have hlen : (zo (sel (T.take i) l)).length < 17592186044416 := by rw [zo_length, sel_length, List.length_take]; omega
    rw [turnstileref3_take.l0, if_pos (by rw [ns_length]; omega), if_pos (by omega), hrd, w1, if_pos (by omega), if_pos (by rw [zo_length]; omega), if_pos hlen, rd_zo, wi i (by omega)]
    have hsn : zo (sel (T.take i) l) ++ [(((l.getD (T[i] - 1) false).toNat : Nat) : Int)] = zo (sel (T.take (i + 1)) l) := by
      rw [List.take_succ_eq_append_getElem hlt]
      simp only [sel, zo, List.map_append, List.map_cons, List.map_nil]
    rw [hsn]
    exact ih (i + 1) k (by omega) (by omega)
theorem rtake_eval (T : List Nat) (l : List Bool) (hT : ∀ t ∈ T, 1 ≤ t ∧ t ≤ l.length) (hl : T.length ≤ 1000) (hl2 : l.length ≤ 1000) (k : Nat) (hk : T.length < k) :
    turnstileref3_take.f k (ns T) (zo l) = some (zo (sel T l)) := rtake_go T l hT hl hl2 T.length 0 k (by omega) hk
theorem sum_bit (a b : Bool) : Int.tmod (wrap64 (((a.toNat : Nat) : Int) + ((b.toNat : Nat) : Int))) 2 = (((xor a b).toNat : Nat) : Int) := by cases a <;> cases b <;> decide +kernel
theorem rsum_go (a b : List Bool) (h : a.length = b.length) (hl : a.length ≤ 1000) : ∀ d i k, i + d = a.length → d < k →
    turnstileref3_sum.l0 k (zo a) (zo b) (zo (xo (a.take i) (b.take i))) (i : Int) = some (zo (xo a b)) := by
  intro d
  induction d with
  | zero =>
    intro i k hi hk
    obtain ⟨k, rfl⟩ : ∃ m, k = m + 1 := ⟨k - 1, by omega⟩
    rw [turnstileref3_sum.l0, if_neg (by rw [zo_length]; omega), List.take_of_length_le (by omega), List.take_of_length_le (by omega)]
  | succ d ih =>
    intro i k hi hk
    obtain ⟨k, rfl⟩ : ∃ m, k = m + 1 := ⟨k - 1, by omega⟩
    have ha : i < a.length := by omega
    have hb : i < b.length := by omega
    have hlen : (zo (xo (a.take i) (b.take i))).length < 17592186044416 := by rw [zo_length]; simp only [xo, List.length_zipWith, List.length_take]; omega
    rw [turnstileref3_sum.l0, if_pos (by rw [zo_length]; omega), if_pos (by omega), if_pos (by rw [zo_length]; omega), if_pos hlen, rd_zo, rd_zo, sum_bit, wi i (by omega)]
    have hsn : zo (xo (a.take i) (b.take i)) ++ [(((xor (a.getD i false) (b.getD i false)).toNat : Nat) : Int)] = zo (xo (a.take (i + 1)) (b.take (i + 1))) := by
      rw [List.take_succ_eq_append_getElem ha, List.take_succ_eq_append_getElem hb]
      unfold xo
      rw [List.zipWith_append (by simp only [List.length_take]; omega), zo_append]
      simp [zo, ha, hb]
    rw [hsn]
    exact ih (i + 1) k (by omega) (by omega)
theorem rsum_eval (a b : List Bool) (h : a.length = b.length) (hl : a.length ≤ 1000) (k : Nat) (hk : a.length < k) :
    turnstileref3_sum.f k (zo a) (zo b) = some (zo (xo a b)) := rsum_go a b h hl a.length 0 k (by omega) hk
def rotTo (l : List Bool) (n i : Nat) : List Bool := (List.range i).map fun j => l.getD ((j + n) % l.length) false
theorem rotTo_all (l : List Bool) (n : Nat) (h : n ≤ l.length) : rotTo l n l.length = rot n l := by
  unfold rotTo rot
  apply List.ext_getElem
  · simp; omega
  · intro j h1 h2
    simp only [List.length_map, List.length_range] at h1
    rw [List.getElem_map, List.getElem_range]
    by_cases hj : j < l.length - n
    · rw [List.getElem_append_left (by rw [List.length_drop]; exact hj), List.getElem_drop, Nat.mod_eq_of_lt (by omega)]
      simp only [List.getD_eq_getElem?_getD]
      rw [List.getElem?_eq_getElem (by omega)]
      simp [Nat.add_comm]
    · rw [List.getElem_append_right (by rw [List.length_drop]; omega), List.getElem_take]
      have : (j + n) % l.length = j + n - l.length := by rw [Nat.mod_eq_sub_mod (by omega), Nat.mod_eq_of_lt (by omega)]
      rw [this]
      simp only [List.getD_eq_getElem?_getD, List.length_drop]
      rw [List.getElem?_eq_getElem (by omega)]
      simp only [Option.getD_some]
      congr 1; omega
theorem rleft_go (l : List Bool) (n : Nat) (hn : n ≤ l.length) (hp : 0 < l.length) (hl : l.length ≤ 1000) : ∀ d i k, i + d = l.length → d < k →
    turnstileref3_left.l0 k (zo l) (n : Int) (zo (rotTo l n i)) (i : Int) = some (zo (rot n l)) := by
  intro d
  induction d with
  | zero =>
    intro i k hi hk
    obtain ⟨k, rfl⟩ : ∃ m, k = m + 1 := ⟨k - 1, by omega⟩
    obtain rfl : i = l.length := by omega
    rw [turnstileref3_left.l0, if_neg (by rw [zo_length]; omega), rotTo_all l n hn]
  | succ d ih =>
    intro i k hi hk
    obtain ⟨k, rfl⟩ : ∃ m, k = m + 1 := ⟨k - 1, by omega⟩
    have w1 : Int.tmod (wrap64 ((i : Int) + (n : Int))) ((zo l).length : Int) = (((i + n) % l.length : Nat) : Int) := by
      rw [w64_id (by omega) (by omega), zo_length, ← Int.natCast_add, Int.tmod_eq_emod_of_nonneg (by omega)]
      rfl
    have hm : (i + n) % l.length < l.length := Nat.mod_lt _ hp
    have hlen : (zo (rotTo l n i)).length < 17592186044416 := by rw [zo_length]; simp only [rotTo, List.length_map, List.length_range]; omega
    rw [turnstileref3_left.l0, w1, if_pos (by rw [zo_length]; omega), if_neg (by rw [zo_length]; omega), if_pos (by omega), if_pos (by rw [zo_length]; omega), if_pos hlen, rd_zo, wi i (by omega)]
    have hsn : zo (rotTo l n i) ++ [(((l.getD ((i + n) % l.length) false).toNat : Nat) : Int)] = zo (rotTo l n (i + 1)) := by
      unfold rotTo
      rw [List.range_succ]
      simp [zo]
    rw [hsn]
    exact ih (i + 1) k (by omega) (by omega)
theorem rleft_eval (l : List Bool) (n : Nat) (hn : n ≤ l.length) (hp : 0 < l.length) (hl : l.length ≤ 1000) (k : Nat) (hk : l.length < k) :
    turnstileref3_left.f k (zo l) (n : Int) = some (zo (rot n l)) := rleft_go l n hn hp hl l.length 0 k (by omega) hk
theorem bit_at (b : UInt8) (j : Nat) (hj : j ≤ 7) : Int.tmod (shr .i64 (wrap64 ((b.toNat : Nat) : Int)) (j : Int)) 2 = (((b.toNat.testBit j).toNat : Nat) : Int) := by
  have h : ∀ n : Fin 256, ∀ j : Fin 8, Int.tmod (shr .i64 (wrap64 ((n : Nat) : Int)) ((j : Nat) : Int)) 2 = ((((n : Nat).testBit (j : Nat)).toNat : Nat) : Int) := by decide +kernel
  exact h ⟨b.toNat, b.toNat_lt⟩ ⟨j, by omega⟩
theorem rbits_in (s : ByteArray) (i : Nat) (hi : i < s.data.toList.length) (hs : s.size ≤ 1000000) : ∀ (j : Nat) (acc : List Int) (k : Nat), acc.length + j ≤ 17592186044415 → j ≤ 8 →
    turnstileref3_bits.l1 (k + (j + 1)) s acc (i : Int) ((j : Int) - 1) = turnstileref3_bits.l0 k s (acc ++ zo (bitsN j (s.data.toList[i].toNat))) ((i + 1 : Nat) : Int)
  | 0, acc, k, _, _ => by
    rw [turnstileref3_bits.l1, if_neg (by omega), wi i (by rw [Array.length_toList] at hi; change i < s.size at hi; omega)]
    simp [bitsN, zo]
  | j + 1, acc, k, h, hj => by
    have hs' : i < s.size := by rw [Array.length_toList] at hi; exact hi
    have e1 : (((j + 1 : Nat) : Int) - 1) = (j : Int) := by omega
    have w1 : wrap64 ((j : Int) - 1) = (j : Int) - 1 := w64_id (by omega) (by omega)
    rw [e1, show k + (j + 1 + 1) = (k + (j + 1)) + 1 by omega, turnstileref3_bits.l1, if_pos (by omega), if_pos (by omega), if_pos (by omega), if_pos (by omega), if_pos (by omega), bt_list s i hi, bit_at _ j (by omega), w1]
    rw [rbits_in s i hi hs j _ k (by rw [List.length_append, List.length_singleton]; omega) (by omega), List.append_assoc]
    rfl
theorem rbits_go (s : ByteArray) (hs : s.size ≤ 1000000) : ∀ d i k, i + d = s.size → 10 * d < k →
    turnstileref3_bits.l0 k s (zo (bitsB (s.data.toList.take i))) (i : Int) = some (zo (bitsB s.data.toList)) := by
  have hl : s.data.toList.length = s.size := by rw [Array.length_toList]; rfl
  intro d
  induction d with
  | zero =>
    intro i k hi hk
    obtain ⟨k, rfl⟩ : ∃ m, k = m + 1 := ⟨k - 1, by omega⟩
    rw [turnstileref3_bits.l0, if_neg (by omega), List.take_of_length_le (by omega)]
  | succ d ih =>
    intro i k hi hk
    obtain ⟨k, rfl⟩ : ∃ m, k = m + (8 + 1) + 1 := ⟨k - 10, by omega⟩
    have hlt : i < s.data.toList.length := by omega
    have := rbits_in s i hlt hs 8 (zo (bitsB (s.data.toList.take i))) k (by rw [zo_length, bitsB_length, List.length_take]; omega) (by omega)
    rw [turnstileref3_bits.l0, if_pos (by omega)]
    rw [show ((8 : Nat) : Int) - 1 = 7 from rfl] at this
    rw [this]
    have hsn : zo (bitsB (s.data.toList.take i)) ++ zo (bitsN 8 (s.data.toList[i]).toNat) = zo (bitsB (s.data.toList.take (i + 1))) := by
      rw [← zo_append, List.take_succ_eq_append_getElem hlt, bitsB_append]; simp [bitsB]
    rw [hsn]
    exact ih (i + 1) k (by omega) (by omega)
theorem rbits_eval (s : ByteArray) (hs : s.size ≤ 1000000) (k : Nat) (hk : 10 * s.size < k) : turnstileref3_bits.f k s = some (zo (bitsB s.data.toList)) := by
  have := rbits_go s hs s.size 0 k (by omega) hk
  simpa [turnstileref3_bits.f, zo, bitsB] using this
theorem rbox_eval (i : Nat) (hi : i < 8) : turnstileref3_box.f (i : Int) = some (ns (box i)) := by
  have : i = 0 ∨ i = 1 ∨ i = 2 ∨ i = 3 ∨ i = 4 ∨ i = 5 ∨ i = 6 ∨ i = 7 := by omega
  rcases this with rfl | rfl | rfl | rfl | rfl | rfl | rfl | rfl <;> rfl
theorem bitsB_at (l : List UInt8) (i m : Nat) (hi : i < l.length) (hm : m < 8) : (bitsB l).getD (8 * i + m) false = (bitsN 8 l[i].toNat).getD m false := by
  have e : bitsB l = bitsB (l.take i) ++ (bitsN 8 l[i].toNat ++ bitsB (l.drop (i + 1))) := by
    conv => lhs; rw [← List.take_append_drop i l, List.drop_eq_getElem_cons hi]
    rw [bitsB_append]
    rfl
  rw [e]
  simp only [List.getD_eq_getElem?_getD]
  rw [List.getElem?_append_right (by rw [bitsB_length, List.length_take]; omega), bitsB_length, List.length_take, List.getElem?_append_left (by rw [bitsN_length]; omega)]
  congr 2; omega
theorem rbytes_in (bs : List UInt8) (hb : bs.length ≤ 1000) (i : Nat) (hi : i < bs.length) (acc : List Int) (hacc : acc.length ≤ 1000) : ∀ (d m k : Nat), m + d = 8 →
    turnstileref3_bytes.l1 (k + (d + 1)) (zo (bitsB bs)) acc ((8 * i : Nat) : Int) ((num ((bitsN 8 bs[i].toNat).take m) : Nat) : Int) (m : Int) = turnstileref3_bytes.l0 k (zo (bitsB bs)) (acc ++ [((bs[i].toNat : Nat) : Int)]) ((8 * (i + 1) : Nat) : Int)
  | 0, m, k, h => by
    obtain rfl : m = 8 := by omega
    have hx : ((num ((bitsN 8 bs[i].toNat).take 8) : Nat) : Int) % 256 = ((bs[i].toNat : Nat) : Int) := by
      rw [List.take_of_length_le (by rw [bitsN_length]; omega), num_bitsN]
      have := bs[i].toNat_lt
      omega
    have w1 : wrap64 (((8 * i : Nat) : Int) + 8) = ((8 * (i + 1) : Nat) : Int) := by rw [w64_id (by omega) (by omega)]; omega
    rw [turnstileref3_bytes.l1, if_neg (by omega), if_pos (by omega), hx, w1]
  | d + 1, m, k, h => by
    have hm : m < (bitsN 8 bs[i].toNat).length := by rw [bitsN_length]; omega
    have w1 : wrap64 (((8 * i : Nat) : Int) + (m : Int)) = ((8 * i + m : Nat) : Int) := by rw [w64_id (by omega) (by omega)]; omega
    have hlt := num_lt ((bitsN 8 bs[i].toNat).take m)
    have hp : (2 : Nat) ^ ((bitsN 8 bs[i].toNat).take m).length ≤ 2 ^ 8 := Nat.pow_le_pow_right (by decide) (by rw [List.length_take]; omega)
    have hv : wrap64 (wrap64 (2 * ((num ((bitsN 8 bs[i].toNat).take m) : Nat) : Int)) + (((bitsN 8 bs[i].toNat).getD m false).toNat : Nat)) = ((num ((bitsN 8 bs[i].toNat).take (m + 1)) : Nat) : Int) := by
      have ht : (((bitsN 8 bs[i].toNat).getD m false).toNat) ≤ 1 := by cases (bitsN 8 bs[i].toNat).getD m false <;> decide
      rw [w64_id (x := 2 * _) (by omega) (by omega), w64_id (by omega) (by omega), List.take_succ_eq_append_getElem hm, num_append]
      have e : (bitsN 8 bs[i].toNat).getD m false = (bitsN 8 bs[i].toNat)[m] := by simp [List.getD_eq_getElem?_getD, hm]
      rw [e]
      have e2 : num [(bitsN 8 bs[i].toNat)[m]] = ((bitsN 8 bs[i].toNat)[m]).toNat := by simp [num]
      rw [e2]
      simp only [List.length_singleton, Nat.pow_one]
      omega
    rw [show k + (d + 1 + 1) = (k + (d + 1)) + 1 by omega, turnstileref3_bytes.l1, if_pos (by omega), w1, if_pos (by omega), if_pos (by rw [zo_length, bitsB_length]; omega), rd_zo, bitsB_at bs i m hi (by omega), hv, wi m (by omega)]
    exact rbytes_in bs hb i hi acc hacc d (m + 1) k (by omega)
theorem rbytes_go (bs : List UInt8) (hb : bs.length ≤ 1000) : ∀ d i k, i + d = bs.length → 10 * d < k →
    turnstileref3_bytes.l0 k (zo (bitsB bs)) (ints (bs.take i)) ((8 * i : Nat) : Int) = some ⟨bs.toArray⟩ := by
  intro d
  induction d with
  | zero =>
    intro i k hi hk
    obtain ⟨k, rfl⟩ : ∃ m, k = m + 1 := ⟨k - 1, by omega⟩
    rw [turnstileref3_bytes.l0, if_neg (by rw [zo_length, bitsB_length, w64_id (by omega) (by omega)]; omega), List.take_of_length_le (by omega), strOfNums_ints]
  | succ d ih =>
    intro i k hi hk
    obtain ⟨k, rfl⟩ : ∃ m, k = m + (8 + 1) + 1 := ⟨k - 10, by omega⟩
    have hlt : i < bs.length := by omega
    have := rbytes_in bs hb i hlt (ints (bs.take i)) (by simp only [ints, List.length_map, List.length_take]; omega) 8 0 k (by omega)
    rw [turnstileref3_bytes.l0, if_pos (by rw [zo_length, bitsB_length, w64_id (by omega) (by omega)]; omega)]
    simp only [List.take_zero] at this
    rw [show ((num [] : Nat) : Int) = 0 from rfl, show ((0 : Nat) : Int) = 0 from rfl] at this
    rw [this]
    have hsn : ints (bs.take i) ++ [((bs[i].toNat : Nat) : Int)] = ints (bs.take (i + 1)) := by
      rw [List.take_succ_eq_append_getElem hlt]; simp only [ints, List.map_append, List.map_cons, List.map_nil]
    rw [hsn]
    exact ih (i + 1) k (by omega) (by omega)
theorem rbytes_eval (bs : List UInt8) (hb : bs.length ≤ 1000) (k : Nat) (hk : 10 * bs.length < k) : turnstileref3_bytes.f k (zo (bitsB bs)) = some ⟨bs.toArray⟩ := rbytes_go bs hb bs.length 0 k (by omega) hk
end Go.Proofs.YtopobangjpehnaaGreat.Ref

set_option linter.unusedVariables false
set_option linter.unusedSimpArgs false
namespace Go.Proofs.YtopobangjpehnaaGreat.Ref
open Go.RowKit Go.Proofs.YtopobangjpehnaaGreatW.PrintWords Go.Proofs.YtopobangjpehnaaGreatW.PrintLast Go.Proofs.YtopobangjpehnaaGreatW.PrintMore Pr Des Num Walk

/-- A row of whole numbers that is read. -/
def Row (w : World) (v : Value) (xs : List Int) : Prop := ∃ A c, v = .slice A xs.length c ∧ xs.length ≤ c ∧ Kd.C (Kd.int .i64) w A xs.length xs
/-- A row of whole numbers of one's own, in new memory. -/
def Own (w : World) (base : Nat) (v : Value) (xs : List Int) : Prop := Kd.R (Kd.int .i64) 3 w base (fun _ => True) v xs
theorem Own.row {w : World} {base : Nat} {v : Value} {xs : List Int} (h : Own w base v xs) : Row w v xs := Kd.R_reads h
theorem Own.step {w w' : World} {base : Nat} {v : Value} {xs : List Int} (h : Own w base v xs) (hb : Below w.heap.size w w') : Own w' base v xs := Kd.R_below h hb
theorem Own.lower {w : World} {base base' : Nat} {v : Value} {xs : List Int} (h : Own w base v xs) (hb : base' ≤ base) : Own w base' v xs := Kd.R_lower h hb
theorem Row.step {w w' : World} {v : Value} {xs : List Int} (h : Row w v xs) (hb : Below w.heap.size w w') : Row w' v xs := by
  obtain ⟨A, c, rfl, hc, hr⟩ := h
  exact ⟨A, c, rfl, hc, Kd.C_below hr hb⟩
theorem Row.at_ {w : World} {v : Value} {xs : List Int} (h : Row w v xs) (hp : 0 < xs.length) : ∃ ad c, v = .slice (some ad) xs.length c ∧ xs.length ≤ c ∧ ∀ i : Nat, i < xs.length → w.cell? (ad.add i) = some (.int .i64 (rd xs (i : Int))) := by
  obtain ⟨A, c, rfl, hc, hr⟩ := h
  obtain ⟨ad, rfl, _⟩ := Kd.at_int hr 0 (by omega) (by omega)
  refine ⟨ad, c, rfl, hc, fun i hi => ?_⟩
  obtain ⟨ad', he, hx⟩ := Kd.at_int hr (i : Int) (by omega) (by omega)
  cases he
  simpa using hx

theorem take_any (T : List Nat) (l : List Bool) (hT : ∀ t ∈ T, 1 ≤ t ∧ t ≤ l.length) (hl : T.length ≤ 1000) (hl2 : l.length ≤ 1000) (W : World) (v0 v1 : Value) (h0 : Row W v0 (ns T)) (h1 : Row W v1 (zo l)) :
    Calls Tryz.prog 101 #[v0, v1] W fun e w' => ∃ v, e = .returned v ∧ Own w' W.heap.size v (zo (sel T l)) ∧ Below W.heap.size W w' := by
  obtain ⟨A, c, rfl, hc, hr⟩ := h0
  obtain ⟨A1, c1, rfl, hc1, hr1⟩ := h1
  exact turnstileref3_take.calls (T.length + 1) A c (ns T) A1 c1 (zo l) _ W hr hc hr1 hc1 (rtake_eval T l hT hl hl2 _ (by omega))
theorem sum_any (a b : List Bool) (h : a.length = b.length) (hl : a.length ≤ 1000) (W : World) (v0 v1 : Value) (h0 : Row W v0 (zo a)) (h1 : Row W v1 (zo b)) :
    Calls Tryz.prog 105 #[v0, v1] W fun e w' => ∃ v, e = .returned v ∧ Own w' W.heap.size v (zo (xo a b)) ∧ Below W.heap.size W w' := by
  obtain ⟨A, c, rfl, hc, hr⟩ := h0
  obtain ⟨A1, c1, rfl, hc1, hr1⟩ := h1
  exact turnstileref3_sum.calls (a.length + 1) A c (zo a) A1 c1 (zo b) _ W hr hc hr1 hc1 (rsum_eval a b h hl _ (by omega))
theorem left_any (l : List Bool) (n : Nat) (hn : n ≤ l.length) (hp : 0 < l.length) (hl : l.length ≤ 1000) (W : World) (v0 : Value) (h0 : Row W v0 (zo l)) :
    Calls Tryz.prog 112 #[v0, .int .i64 (n : Int)] W fun e w' => ∃ v, e = .returned v ∧ Own w' W.heap.size v (zo (rot n l)) ∧ Below W.heap.size W w' := by
  obtain ⟨A, c, rfl, hc, hr⟩ := h0
  exact turnstileref3_left.calls (l.length + 1) A c (zo l) (n : Int) _ W hr hc (rleft_eval l n hn hp hl _ (by omega))
theorem bits_any (s : ByteArray) (hs : s.size ≤ 1000000) (W : World) :
    Calls Tryz.prog 103 #[.string s] W fun e w' => ∃ v, e = .returned v ∧ Own w' W.heap.size v (zo (bitsB s.data.toList)) ∧ Below W.heap.size W w' :=
  turnstileref3_bits.calls (10 * s.size + 1) s _ W (rbits_eval s hs _ (by omega))
theorem bytes_any (bs : List UInt8) (hb : bs.length ≤ 1000) (W : World) (v0 : Value) (h0 : Row W v0 (zo (bitsB bs))) :
    Calls Tryz.prog 106 #[v0] W fun e w' => e = .returned (.string ⟨bs.toArray⟩) ∧ Below W.heap.size W w' := by
  obtain ⟨A, c, rfl, hc, hr⟩ := h0
  exact turnstileref3_bytes.calls (10 * bs.length + 1) A c (zo (bitsB bs)) _ W hr hc (rbytes_eval bs hb _ (by omega))
theorem box_any (i : Nat) (hi : i < 8) (W : World) :
    Calls Tryz.prog 115 #[.int .i64 (i : Int)] W fun e w' => ∃ v, e = .returned v ∧ Own w' W.heap.size v (ns (box i)) ∧ Below W.heap.size W w' :=
  turnstileref3_box.calls (i : Int) _ W (rbox_eval i hi)
theorem tIn_any (W : World) : Calls Tryz.prog 102 #[] W fun e w' => ∃ v, e = .returned v ∧ Own w' W.heap.size v (ns tIn) ∧ Below W.heap.size W w' := turnstileref3_tableIn.calls _ W rfl
theorem tOut_any (W : World) : Calls Tryz.prog 107 #[] W fun e w' => ∃ v, e = .returned v ∧ Own w' W.heap.size v (ns tOut) ∧ Below W.heap.size W w' := turnstileref3_tableOut.calls _ W rfl
theorem tWide_any (W : World) : Calls Tryz.prog 114 #[] W fun e w' => ∃ v, e = .returned v ∧ Own w' W.heap.size v (ns tWide) ∧ Below W.heap.size W w' := turnstileref3_tableWide.calls _ W rfl
theorem tP_any (W : World) : Calls Tryz.prog 116 #[] W fun e w' => ∃ v, e = .returned v ∧ Own w' W.heap.size v (ns tP) ∧ Below W.heap.size W w' := turnstileref3_tableP.calls _ W rfl
theorem tK1_any (W : World) : Calls Tryz.prog 111 #[] W fun e w' => ∃ v, e = .returned v ∧ Own w' W.heap.size v (ns tK1) ∧ Below W.heap.size W w' := turnstileref3_tableK1.calls _ W rfl
theorem tK2_any (W : World) : Calls Tryz.prog 113 #[] W fun e w' => ∃ v, e = .returned v ∧ Own w' W.heap.size v (ns tK2) ∧ Below W.heap.size W w' := turnstileref3_tableK2.calls _ W rfl

theorem fbox_step (x : List Bool) : ∀ (m i : Nat), fboxFrom (m + 1) i x = fboxFrom m i x ++ sbits (i + m) ((x.drop (6 * m)).take 6) := by
  intro m
  induction m generalizing x with
  | zero => intro i; simp [fboxFrom]
  | succ m ih =>
    intro i
    rw [fboxFrom, ih (x.drop 6) (i + 1), fboxFrom, List.append_assoc, List.drop_drop]
    congr 3
    · omega
    · congr 2; omega
theorem rd_ns (T : List Nat) (i : Nat) : rd (ns T) (i : Int) = ((T.getD i 0 : Nat) : Int) := by
  simp only [rd, ns, List.getD_eq_getElem?_getD, List.getElem?_map, Int.toNat_natCast]
  cases h : T[i]? <;> simp
theorem box_small : ∀ i : Fin 8, ∀ j : Fin 64, (box i).length = 64 ∧ (box i).getD j 0 < 16 := by decide +kernel
theorem four_bits (n : Nat) (h : n < 16) : zo (bitsN 4 n) = [(n : Int) / 8, (n : Int) / 4 % 2, (n : Int) / 2 % 2, (n : Int) % 2] := by
  have : ∀ n : Fin 16, zo (bitsN 4 n) = [((n : Nat) : Int) / 8, ((n : Nat) : Int) / 4 % 2, ((n : Nat) : Int) / 2 % 2, ((n : Nat) : Int) % 2] := by decide
  exact this ⟨n, h⟩

theorem lit_row (w : World) (xs : List Int) (h : xs.length ≤ 1000) : Kd.C (Kd.int .i64) (w.alloc (.cells (xs.map (Value.int .i64)).toArray 3)) (some ⟨w.heap.size, 0, none⟩) xs.length xs := by
  refine Kd.C_of_reads (enc := Value.int .i64) (d := (0 : Int)) (h1 := fun _ => rfl) ⟨rfl, by omega, fun h0 => ⟨_, rfl, fun j hj => ?_⟩⟩
  rw [addr_add, Nat.zero_add, (Blk.new w 3 _).cell]
  simp [List.getD_eq_getElem?_getD, hj]
theorem add_add (a : Addr) (m n : Nat) : (a.add m).add n = a.add (m + n) := by
  unfold Addr.add
  by_cases hm : m = 0
  · subst hm; simp
  · by_cases hn : n = 0
    · subst hn; simp [hm]
    · simp [hm, hn, Nat.add_assoc]
theorem cell_blk {w : World} {a : Addr} {v : Value} (h : w.cell? a = some v) : a.block < w.heap.size := by
  unfold World.cell? at h
  split at h
  · rename_i hb; exact (Array.getElem?_eq_some_iff.1 hb).1
  · cases h
theorem infoI : ∃ i : TypeInfo, Tryz.prog.info? 3 = some i ∧ i.size = 1 := by
  have h := info3
  obtain ⟨i, h1, h2⟩ := Option.map_eq_some_iff.1 h
  simp only [Prod.mk.injEq] at h2
  exact ⟨i, h1, h2.2.1⟩
theorem place_at (X : List Bool) (i : Nat) : place ((X.drop (6 * i)).take 6) = 16 * (2 * (X.getD (6 * i + 0) false).toNat + (X.getD (6 * i + 5) false).toNat) + (8 * (X.getD (6 * i + 1) false).toNat + 4 * (X.getD (6 * i + 2) false).toNat + 2 * (X.getD (6 * i + 3) false).toNat + (X.getD (6 * i + 4) false).toNat) := by
  have e : ∀ j, j < 6 → ((X.drop (6 * i)).take 6).getD j false = X.getD (6 * i + j) false := by
    intro j hj
    simp only [List.getD_eq_getElem?_getD]
    rw [List.getElem?_take_of_lt hj, List.getElem?_drop]
  unfold place
  rw [e 0 (by omega), e 1 (by omega), e 2 (by omega), e 3 (by omega), e 4 (by omega), e 5 (by omega)]
  simp only [num, List.foldl_cons, List.foldl_nil]
  omega

set_option maxHeartbeats 4000000 in
set_option maxRecDepth 100000 in
theorem mixed_any (r k : List Bool) (hr : r.length = 32) (hk : k.length = 48) (w : World) (v0 v1 : Value) (h0 : Row w v0 (zo r)) (h1 : Row w v1 (zo k)) :
    Calls Tryz.prog 104 #[v0, v1] w fun e w' => ∃ v, e = .returned v ∧ Own w' w.heap.size v (zo (F r k)) ∧ Below w.heap.size w w' := by
  have hwide : ∀ t ∈ tWide, 1 ≤ t ∧ t ≤ r.length := by rw [hr]; decide
  have T1 := Aside0.mk (take_any tWide r hwide (by decide) (by omega))
  have hs : (sel tWide r).length = 48 := by rw [sel_length]; rfl
  have T2 := Aside0.mk (sum_any (sel tWide r) k (by omega) (by omega))
  have hX : (xo (sel tWide r) k).length = 48 := by rw [xo_length]; omega
  have hFe : F r k = sel tP (fboxFrom 8 0 (xo (sel tWide r) k)) := rfl
  rw [hFe]
  clear hFe
  generalize hXe : xo (sel tWide r) k = X at *
  have hf8 : (fboxFrom 8 0 X).length = 32 := fbox_length 8 0 X
  have T3 := Aside0.mk (take_any tP (fboxFrom 8 0 X) (by rw [hf8]; decide) (by decide) (by omega))
  have R0 := Aside0.mk h0
  have R1 := Aside0.mk h1
  have HX := Aside0.mk hX
  clear hXe hwide hs hX hf8 h0 h1 hr hk
  go_enter Tryz.func104, Tryz.ntmps104
  go_wp2_with fail
  refine (tWide_any _).mono ?_
  rintro e w1 ⟨u1, rfl, ho, hb⟩
  have O := Aside0.mk ho.row
  have B := Aside0.mk hb
  replace R0 := Aside0.mk (R0.out.step hb)
  replace R1 := Aside0.mk (R1.out.step hb)
  clear ho hb
  go_wp2_with fail
  refine (T1.out _ _ _ O.out R0.out).mono ?_
  rintro e w2 ⟨u2, rfl, ho, hb⟩
  replace O := Aside0.mk ho.row
  replace R1 := Aside0.mk (R1.out.step hb)
  replace B := Aside0.mk (B.out.trans (hb.mono B.out.size))
  clear ho hb
  go_wp2_with fail
  refine (T2.out _ _ _ O.out R1.out).mono ?_
  rintro e w3 ⟨u3, rfl, ho, hb⟩
  replace O := Aside0.mk ho.row
  replace B := Aside0.mk (B.out.trans (hb.mono B.out.size))
  clear ho hb R0 R1
  go_wp2_with fail
  have hcx0 := Row.at_ O.out (by rw [zo_length, HX.out]; decide)
  rw [zo_length, HX.out] at hcx0
  obtain ⟨ax, cx, rfl, hcx, hcells⟩ := hcx0
  have HC := Aside0.mk hcells
  have HH : Aside0 (w.heap.size ≤ w3.heap.size) := ⟨B.out.size⟩
  have B0 : Aside0 (Below w3.heap.size w3 w3) := ⟨Below.refl _ _⟩
  have L0 : Aside0 (Own w3 w3.heap.size (.slice none 0 0) (zo (fboxFrom 0 0 X))) := ⟨Kd.R_nil _ _ _ _ _⟩
  clear hcells O
  go_loopw [6, 7] (fun v6 v7 wr => ∃ i : Nat, i ≤ 8 ∧ v7 = .int .i64 i ∧ Aside0 (Own wr w3.heap.size v6 (zo (fboxFrom i 0 X))) ∧ Aside0 (Below w3.heap.size w3 wr)) (fun _ v7 _ => 8 - (intOf v7).toNat)
  case atStart => exact ⟨0, Nat.zero_le _, rfl, L0, B0⟩
  case round =>
    clear L0 B0
    obtain ⟨i, hi, rfl, L, C⟩ := hrel
    by_cases hlt : i < 8
    · obtain ⟨ad, had⟩ : ∃ ad, ad = ax.add (6 * i) := ⟨_, rfl⟩
      obtain ⟨c8, hc8⟩ : ∃ c8, c8 = cx - 6 * i := ⟨_, rfl⟩
      have hcut : ∀ W, (Instr.slice 25 (.slice (some ax) 48 cx) (some (.int .i64 (6 * (i : Int)))) (some (.int .i64 (6 * (i : Int) + 6))) none).run Tryz.prog W = .ok (.slice (some ad) 6 c8) W := by
        intro W
        obtain ⟨ii, hi1, hi2⟩ := infoI
        rw [cut_mid 25 3 .i64 .i64 Tryz.underlying25 hi1 1 hi2 (some ax) 48 cx _ _ (by omega) (by omega) (by omega) hcx W, if_neg (by omega), had, hc8]
        have e1 : (6 * (i : Int)).toNat = 6 * i := by omega
        have e2 : (6 * (i : Int) + 6).toNat - (6 * (i : Int)).toNat = 6 := by omega
        rw [e1] at e2 ⊢
        rw [e2]
        simp
      have hcell : ∀ j, j < 6 → wr.cell? (ad.add j) = some (.int .i64 (((X.getD (6 * i + j) false).toNat : Nat) : Int)) := by
        intro j hj
        have h := HC.out (6 * i + j) (by omega)
        rw [rd_zo] at h
        rw [had, add_add, C.out.cell (cell_blk h), h]
      have hb1 : ∀ j, (X.getD (6 * i + j) false).toNat ≤ 1 := fun j => by cases X.getD (6 * i + j) false <;> decide
      have q0 : wr.cell? ad = some (.int .i64 (((X.getD (6 * i + 0) false).toNat : Nat) : Int)) := hcell 0 (by omega)
      have q1 : wr.cell? ⟨ad.block, ad.off + 1, none⟩ = some (.int .i64 (((X.getD (6 * i + 1) false).toNat : Nat) : Int)) := hcell 1 (by omega)
      have q2 : wr.cell? ⟨ad.block, ad.off + 2, none⟩ = some (.int .i64 (((X.getD (6 * i + 2) false).toNat : Nat) : Int)) := hcell 2 (by omega)
      have q3 : wr.cell? ⟨ad.block, ad.off + 3, none⟩ = some (.int .i64 (((X.getD (6 * i + 3) false).toNat : Nat) : Int)) := hcell 3 (by omega)
      have q4 : wr.cell? ⟨ad.block, ad.off + 4, none⟩ = some (.int .i64 (((X.getD (6 * i + 4) false).toNat : Nat) : Int)) := hcell 4 (by omega)
      have q5 : wr.cell? ⟨ad.block, ad.off + 5, none⟩ = some (.int .i64 (((X.getD (6 * i + 5) false).toNat : Nat) : Int)) := hcell 5 (by omega)
      obtain ⟨b, hb⟩ : ∃ b : Nat → Nat, b = fun j => (X.getD (6 * i + j) false).toNat := ⟨_, rfl⟩
      have t0 := hb1 0
      have t1 := hb1 1
      have t2 := hb1 2
      have t3 := hb1 3
      have t4 := hb1 4
      have t5 := hb1 5
      have hpl : place ((X.drop (6 * i)).take 6) = 16 * (2 * (X.getD (6 * i + 0) false).toNat + (X.getD (6 * i + 5) false).toNat) + (8 * (X.getD (6 * i + 1) false).toNat + 4 * (X.getD (6 * i + 2) false).toNat + 2 * (X.getD (6 * i + 3) false).toNat + (X.getD (6 * i + 4) false).toNat) := place_at X i
      have hstep := fbox_step X i 0
      rw [sbits, hpl] at hstep
      clear hpl hb1 hcell hb b had hc8
      generalize (X.getD (6 * i + 0) false).toNat = b0 at *
      generalize (X.getD (6 * i + 1) false).toNat = b1 at *
      generalize (X.getD (6 * i + 2) false).toNat = b2 at *
      generalize (X.getD (6 * i + 3) false).toNat = b3 at *
      generalize (X.getD (6 * i + 4) false).toNat = b4 at *
      generalize (X.getD (6 * i + 5) false).toNat = b5 at *
      have hp : 16 * (2 * b0 + b5) + (8 * b1 + 4 * b2 + 2 * b3 + b4) < 64 := by omega
      have HBX := Aside0.mk (box_any i hlt)
      obtain ⟨hbl, hbs⟩ := box_small ⟨i, hlt⟩ ⟨_, hp⟩
      simp only at hbl hbs
      rw [Nat.zero_add] at hstep
      obtain ⟨n, hn⟩ : ∃ n, n = (box i).getD (16 * (2 * b0 + b5) + (8 * b1 + 4 * b2 + 2 * b3 + b4)) 0 := ⟨_, rfl⟩
      have e0 : n < 16 := by rw [hn]; exact hbs
      rw [← hn] at hstep
      have hz : zo (fboxFrom (i + 1) 0 X) = zo (fboxFrom i 0 X) ++ [(n : Int) / 8, (n : Int) / 4 % 2, (n : Int) / 2 % 2, (n : Int) % 2] := by rw [hstep, zo_append, four_bits _ e0]
      clear hstep
      have HZ := Aside0.mk hz
      have m0 : IntKind.i64.wrap (2 * (b0 : Int)) = 2 * (b0 : Int) := IntWalk.i64_in _ (by omega)
      have m1 : IntKind.i64.wrap (2 * (b0 : Int) + (b5 : Int)) = 2 * (b0 : Int) + (b5 : Int) := IntWalk.i64_in _ (by omega)
      have m2 : IntKind.i64.wrap (8 * (b1 : Int)) = 8 * (b1 : Int) := IntWalk.i64_in _ (by omega)
      have m3 : IntKind.i64.wrap (4 * (b2 : Int)) = 4 * (b2 : Int) := IntWalk.i64_in _ (by omega)
      have m4 : IntKind.i64.wrap (8 * (b1 : Int) + 4 * (b2 : Int)) = 8 * (b1 : Int) + 4 * (b2 : Int) := IntWalk.i64_in _ (by omega)
      have m5 : IntKind.i64.wrap (2 * (b3 : Int)) = 2 * (b3 : Int) := IntWalk.i64_in _ (by omega)
      have m6 : IntKind.i64.wrap (8 * (b1 : Int) + 4 * (b2 : Int) + 2 * (b3 : Int)) = 8 * (b1 : Int) + 4 * (b2 : Int) + 2 * (b3 : Int) := IntWalk.i64_in _ (by omega)
      have m7 : IntKind.i64.wrap (8 * (b1 : Int) + 4 * (b2 : Int) + 2 * (b3 : Int) + (b4 : Int)) = 8 * (b1 : Int) + 4 * (b2 : Int) + 2 * (b3 : Int) + (b4 : Int) := IntWalk.i64_in _ (by omega)
      have HN := Aside0.mk hn
      have HBL := Aside0.mk hbl
      clear hbs hz hn hbl
      go_wp2_with fail
      go_quiet (fail)
      go_wp2_with fail
      go_quiet (fail)
      clear q0 q1 q2 q3 q4 q5 m0 m1 m2 m3 m4 m5 m6 m7 hcut
      go_wp2_with fail
      refine (HBX.out _).mono ?_
      rintro e w4 ⟨u4, rfl, ho, hb⟩
      replace L := Aside0.mk (Own.step (Kd.R_drewN L.out _) hb)
      replace C := Aside0.mk ((pw_below_drewN C.out _).trans (hb.mono (pw_below_drewN C.out _).size))
      have hrow := ho.row.at_ (by rw [ns_length, HBL.out]; decide)
      rw [ns_length, HBL.out] at hrow
      obtain ⟨a2, c2, rfl, hc2, hcells⟩ := hrow
      have x1 := hcells _ hp
      rw [rd_ns, ← HN.out] at x1
      clear hcells ho hb
      go_wp2_with ((with_reducible refine gate_builtin (b := .append) (xs := #[.tmp 64, .tmp 75]) rfl ?_)
                   at_builtin
                   refine Kd.R_append_rows (Kd.int .i64) (w0 := w3) w3.heap.size rfl (.tmp 64) (.tmp 75) 25 3 (.int .i64 0) 8 rfl Tryz.underlying25 info3 rfl (by decide) (by omega) u6 (zo (fboxFrom i 0 X)) [(n : Int) / 8, (n : Int) / 4 % 2, (n : Int) / 2 % 2, (n : Int) % 2] _ _ _ (fun _ => True) (fun _ => False) rfl rfl (Kd.R_alloc L.out _) (lit_row _ [(n : Int) / 8, (n : Int) / 4 % 2, (n : Int) / 2 % 2, (n : Int) % 2] (by simp)) (fun _ _ h => h) (fun _ h => h.elim) (fun _ _ => trivial) (below_alloc C.out _) (below_alloc C.out _).size (by rw [zo_length, fbox_length]; omega) ?_
                   intro y1 w5 ho hb hg hat
                   clear hg hat)
      rw [← HZ.out] at ho
      go_roundw
      case rel => exact ⟨i + 1, by omega, by go_num, ⟨ho⟩, ⟨hb⟩⟩
      case measure => simp [intOf]; omega
    · obtain rfl : i = 8 := by omega
      go_wp2_with fail
      refine (tP_any _).mono ?_
      rintro e w4 ⟨u4, rfl, ho, hb⟩
      replace L := Aside0.mk (L.out.step hb)
      replace C := Aside0.mk (C.out.trans (hb.mono C.out.size))
      have O := Aside0.mk ho.row
      have HW4 := C.out.size
      clear ho hb
      go_wp2_with fail
      refine (T3.out _ _ _ O.out L.out.row).mono ?_
      rintro e w5 ⟨u5, rfl, ho, hb⟩
      replace C := Aside0.mk (C.out.trans (hb.mono C.out.size))
      have O2 : Aside0 (Own w5 w.heap.size u5 (zo (sel tP (fboxFrom 8 0 X)))) := ⟨ho.lower (by have := HH.out; have := HW4; omega)⟩
      clear ho hb
      go_wp2_with fail
      go_ret
      exact ⟨_, rfl, O2.out, B.out.trans (C.out.mono HH.out)⟩
end Go.Proofs.YtopobangjpehnaaGreat.Ref

set_option linter.unusedVariables false
set_option linter.unusedSimpArgs false
namespace Go.Proofs.YtopobangjpehnaaGreat.Ref
open Go.RowKit Go.Proofs.YtopobangjpehnaaGreatW.PrintWords Go.Proofs.YtopobangjpehnaaGreatW.PrintLast Go.Proofs.YtopobangjpehnaaGreatW.PrintMore Pr Des Num Walk

def Rows (w : World) (base : Nat) (v : Value) (xs : List (List Int)) : Prop := Kd.R (Kd.slice 3 (Kd.int .i64)) 25 w base (fun _ => True) v xs
theorem Rows.step {w w' : World} {base : Nat} {v : Value} {xs : List (List Int)} (h : Rows w base v xs) (hb : Below w.heap.size w w') : Rows w' base v xs := Kd.R_below h hb
theorem Rows.at_ {w : World} {base : Nat} {v : Value} {xs : List (List Int)} (h : Rows w base v xs) (hp : 0 < xs.length) : ∃ ad c, v = .slice (some ad) xs.length c ∧ ∀ i : Nat, i < xs.length → ∃ u, w.cell? (ad.add i) = some u ∧ Row w u (xs.getD i []) := by
  obtain ⟨A, c, rfl, hc, hr⟩ := Kd.R_reads h
  obtain ⟨ad, c0, rfl, _⟩ := Kd.C_get hr [] 0 (by omega) (by omega)
  refine ⟨ad, c, rfl, fun i hi => ?_⟩
  obtain ⟨ad', cs, he, hl, hK, hcell⟩ := Kd.C_get hr [] (i : Int) (by omega) (by omega)
  cases he
  obtain ⟨A2, c2, hcs, hc2, hr2⟩ := hK
  subst hcs
  have h0 := hcell 0 _ rfl
  rw [Int.toNat_natCast] at h0 hc2 hr2
  refine ⟨_, ?_, A2, c2, rfl, hc2, hr2⟩
  rw [← h0]
  show _ = w.cell? (ad.add (i * 1 + 0))
  rw [Nat.mul_one, Nat.add_zero]
theorem Rows.lower {w : World} {base base' : Nat} {v : Value} {xs : List (List Int)} (h : Rows w base v xs) (hb : base' ≤ base) : Rows w base' v xs := Kd.R_lower h hb
theorem add_block (a : Addr) (n : Nat) : (a.add n).block = a.block := by unfold Addr.add; split <;> rfl
theorem Row.grown {w w1 : World} {v : Value} {xs : List Int} {row : Option Nat} (h : Row w v xs) (hg : w.grownBy w1 row) (hne : ∀ k, v.ownBlock = some k → some k ≠ row) : Row w1 v xs := by
  obtain ⟨A, c, rfl, hc, h1, h2, h3⟩ := h
  refine ⟨A, c, rfl, hc, h1, h2, fun h0 => ?_⟩
  obtain ⟨ad, rfl, h4⟩ := h3 h0
  refine ⟨ad, rfl, fun j p hj => ?_⟩
  obtain ⟨cs, h5, h6, h7⟩ := h4 j p hj
  refine ⟨cs, h5, h6, fun i u hu => ?_⟩
  have hx := h7 i u hu
  rw [← hx]
  apply World.cell?_of_block
  apply hg.block _ (cell_blk hx)
  rw [add_block]
  exact hne _ rfl
theorem Own.base {w : World} {base : Nat} {v : Value} {xs : List Int} (h : Own w base v xs) : ∀ k, v.ownBlock = some k → base ≤ k ∧ k < w.heap.size := fun k hk => ⟨Kd.R_base h k hk, Kd.R_lt h k hk⟩
theorem Rows.lt {w : World} {base : Nat} {v : Value} {xs : List (List Int)} (h : Rows w base v xs) : ∀ k, v.ownBlock = some k → k < w.heap.size := Kd.R_lt h
theorem stopHere {p : Prop} (h : id p) : p := h
theorem info42 : (Tryz.prog.info? 25).map (fun i => (i.zero, i.size, i.bytes)) = some (some (.slice none 0 0), 1, 24) := by kernel_rfl
theorem Row.of_cells {w : World} {ad : Addr} {n c : Nat} {xs : List Int} (hx : xs.length = n) (hn : n ≤ c) (hm : n ≤ 1000) (h : ∀ i : Nat, i < n → w.cell? (ad.add i) = some (.int .i64 (rd xs (i : Int)))) : Row w (.slice (some ad) n c) xs := by
  subst hx
  exact ⟨_, c, rfl, hn, Kd.C_of_reads (enc := Value.int .i64) (d := (0 : Int)) (h1 := fun _ => rfl) ⟨rfl, by omega, fun h0 => ⟨_, rfl, fun j hj => h j hj⟩⟩⟩
theorem Own.cast {w : World} {base : Nat} {v : Value} {xs ys : List Int} (h : Own w base v xs) (e : xs = ys) : Own w base v ys := e ▸ h
theorem Rows.cast {w : World} {base : Nat} {v : Value} {xs ys : List (List Int)} (h : Rows w base v xs) (e : xs = ys) : Rows w base v ys := e ▸ h
def keys (K : List Bool) (i : Nat) : List (List Int) := (List.range i).map fun j => zo (keyAt K j)
theorem keys_length (K : List Bool) (i : Nat) : (keys K i).length = i := by simp [keys]
theorem keys_succ (K : List Bool) (i : Nat) : keys K (i + 1) = keys K i ++ [zo (keyAt K i)] := by simp [keys, List.range_succ]
/-- A literal row of one row. -/
theorem lit_rows (W : World) (base : Nat) (okp : Nat → Prop) (u : Value) (xs : List Int) (h : Own W base u xs) (hok : ∀ k, u.ownBlock = some k → okp k) :
    ReadsRow ((Kd.slice 3 (Kd.int .i64)).M (W.alloc (.cells #[u] 25)) base okp) 1 (W.alloc (.cells #[u] 25)) (some ⟨W.heap.size, 0, none⟩) 1 [xs] := by
  refine ⟨rfl, by decide, fun _ => ⟨_, rfl, fun j p hj => ?_⟩⟩
  have h2 : Own (W.alloc (.cells #[u] 25)) base u xs := Kd.R_alloc h _
  have hj0 : j = 0 := by
    rcases j with _ | j
    · rfl
    · simp at hj
  subst hj0
  have hp : xs = p := by simpa using hj
  subst hp
  refine ⟨[u], rfl, ⟨u, rfl, hok, h2.2⟩, fun i v hv => ?_⟩
  have hi : i = 0 := by
    rcases i with _ | i
    · rfl
    · simp at hv
  subst hi
  have hu : u = v := by simpa using hv
  subst hu
  show (W.alloc (.cells #[u] 25)).cell? ((⟨W.heap.size, 0, none⟩ : Addr).add 0) = some u
  rw [addr_add, Nat.zero_add, (Blk.new W 25 _).cell]
  rfl
set_option maxHeartbeats 8000000 in
set_option maxRecDepth 100000 in
theorem rounds_any (s : ByteArray) (hs : s.size = 8) (w : World) :
    Calls Tryz.prog 100 #[.string s] w fun e w' => ∃ v, e = .returned v ∧ Rows w' w.heap.size v (keys (bitsB s.data.toList) 16) ∧ Below w.heap.size w w' := by
  have hlen : (bitsB s.data.toList).length = 64 := by rw [bitsB_length, Array.length_toList]; show 8 * s.size = 64; omega
  have T1 := Aside0.mk (bits_any s (by omega))
  have T2 := Aside0.mk (take_any tK1 (bitsB s.data.toList) (by rw [hlen]; decide) (by decide) (by omega))
  generalize bitsB s.data.toList = K at *
  have hl56 : (zo (sel tK1 K)).length = 56 := by rw [zo_length, sel_length]; rfl
  have H56 := Aside0.mk hl56
  clear hlen hs hl56
  go_enter Tryz.func100, Tryz.ntmps100
  go_wp2_with fail
  refine (tK1_any _).mono ?_
  rintro e w1 ⟨u1, rfl, ho, hb⟩
  have O := Aside0.mk ho
  have B := Aside0.mk hb
  clear ho hb
  go_wp2_with fail
  refine (T1.out _).mono ?_
  rintro e w2 ⟨u2, rfl, ho, hb⟩
  replace O := Aside0.mk (O.out.step hb)
  have O2 := Aside0.mk ho
  replace B := Aside0.mk (B.out.trans (hb.mono B.out.size))
  clear ho hb
  go_wp2_with fail
  refine (T2.out _ _ _ O.out.row O2.out.row).mono ?_
  rintro e w3 ⟨u3, rfl, ho, hb⟩
  replace B := Aside0.mk (B.out.trans (hb.mono B.out.size))
  have hrow := ho.row.at_ (by rw [H56.out]; decide)
  rw [H56.out] at hrow
  obtain ⟨ad, c, rfl, hc, hcells⟩ := hrow
  have HC := Aside0.mk hcells
  have HO := Aside0.mk ho
  clear ho hb hcells O O2
  have HH : Aside0 (w.heap.size ≤ w3.heap.size) := ⟨B.out.size⟩
  have R4 : Aside0 (Row w3 (.slice (some ad) 28 c) (zo (halves K 0).1)) := ⟨Row.of_cells (by rw [zo_length]; exact (halves_length K 0).1) (by omega) (by omega) (fun i hi => by
    rw [HC.out i (by omega), rd_zo, rd_zo]
    simp only [halves, List.getD_eq_getElem?_getD]
    rw [List.getElem?_take_of_lt hi])⟩
  have R5 : Aside0 (Row w3 (.slice (some ⟨ad.block, ad.off + 28, none⟩) 28 (c - 28)) (zo (halves K 0).2)) := ⟨Row.of_cells (by rw [zo_length]; exact (halves_length K 0).2) (by omega) (by omega) (fun i hi => by
    have e : (⟨ad.block, ad.off + 28, none⟩ : Addr).add i = ad.add (28 + i) := by rw [← add_add]; rfl
    rw [e, HC.out (28 + i) (by omega), rd_zo, rd_zo]
    simp only [halves, List.getD_eq_getElem?_getD]
    rw [List.getElem?_drop])⟩
  have K6 : Aside0 (Rows w3 w3.heap.size (.slice none 0 0) (keys K 0)) := ⟨Kd.R_nil _ _ _ _ _⟩
  have A4 : Aside0 (∀ k, (Value.slice (some ad) 28 c).ownBlock = some k → some k ≠ (Value.slice none 0 0).ownBlock) := ⟨fun k _ h => by cases h⟩
  have A5 : Aside0 (∀ k, (Value.slice (some ⟨ad.block, ad.off + 28, none⟩) 28 (c - 28)).ownBlock = some k → some k ≠ (Value.slice none 0 0).ownBlock) := ⟨fun k _ h => by cases h⟩
  have C : Aside0 (Below w3.heap.size w3 w3) := ⟨Below.refl _ _⟩
  clear HC HO T1 T2 H56
  go_wp2_with fail
  go_loopw [4, 5, 6, 7] (fun v4 v5 v6 v7 wr => ∃ i : Nat, i ≤ 16 ∧ v7 = .int .i64 ((i : Int) + 1) ∧ Aside0 (Row wr v4 (zo (halves K i).1)) ∧ Aside0 (Row wr v5 (zo (halves K i).2)) ∧ Aside0 (Rows wr w3.heap.size v6 (keys K i)) ∧ Aside0 (∀ k, v4.ownBlock = some k → some k ≠ v6.ownBlock) ∧ Aside0 (∀ k, v5.ownBlock = some k → some k ≠ v6.ownBlock) ∧ Aside0 (Below w3.heap.size w3 wr)) (fun _ _ _ v7 _ => 17 - (intOf v7).toNat)
  case atStart => exact ⟨0, Nat.zero_le _, by simp, R4, R5, K6, A4, A5, C⟩
  case round =>
    clear R4 R5 K6 A4 A5 C
    obtain ⟨i, hi, rfl, R4, R5, K6, A4, A5, C⟩ := hrel
    by_cases hlt : i < 16
    · have hsh := shift_at i hlt
      have hl28 := halves_length K i
      have hl29 := halves_length K (i + 1)
      have LA := fun n (hn : n ≤ 28) => left_any (halves K i).1 n (by omega) (by omega) (by omega)
      have LB := fun n (hn : n ≤ 28) => left_any (halves K i).2 n (by omega) (by omega) (by omega)
      have LA' := Aside0.mk (LA (shifts.getD i 0) (by rw [hsh]; split <;> omega))
      have LB' := Aside0.mk (LB (shifts.getD i 0) (by rw [hsh]; split <;> omega))
      rw [show rot (shifts.getD i 0) (halves K i).1 = (halves K (i + 1)).1 from rfl] at LA'
      rw [show rot (shifts.getD i 0) (halves K i).2 = (halves K (i + 1)).2 from rfl] at LB'
      rw [hsh] at LA' LB'
      have H29 := Aside0.mk hl29
      have hab : ((halves K (i + 1)).1 ++ (halves K (i + 1)).2).length = 56 := by rw [List.length_append]; omega
      have T4 := Aside0.mk (take_any tK2 ((halves K (i + 1)).1 ++ (halves K (i + 1)).2) (by rw [hab]; decide) (by decide) (by omega))
      rw [show sel tK2 ((halves K (i + 1)).1 ++ (halves K (i + 1)).2) = keyAt K i from rfl] at T4
      have H56 := Aside0.mk hab
      clear LA LB hsh hl28 hl29 hab
      obtain ⟨CA, hCA⟩ : ∃ CA, CA = (halves K (i + 1)).1 := ⟨_, rfl⟩
      obtain ⟨CB, hCB⟩ : ∃ CB, CB = (halves K (i + 1)).2 := ⟨_, rfl⟩
      rw [← hCA] at LA'
      rw [← hCB] at LB'
      rw [← hCA, ← hCB] at H29 H56 T4
      have HCA := Aside0.mk hCA
      have HCB := Aside0.mk hCB
      have z4 : Aside0 ((zo CA).length = 28) := ⟨by rw [zo_length]; exact H29.out.1⟩
      have z5 : Aside0 ((zo CB).length = 28) := ⟨by rw [zo_length]; exact H29.out.2⟩
      clear hCA hCB
      by_cases hs : i = 0 ∨ i = 1 ∨ i = 8 ∨ i = 15
      · rw [if_pos hs] at LA' LB'
        go_upto_region 9 with fail
        go_cut [35] from 18 to 53 (fun v35 wx => v35 = .bool true ∧ wr = wx)
        case first =>
          rcases hs with h1 | h1 | h1 | h1
          all_goals
            go_wp2_with fail
            go_meet
            exact ⟨rfl, rfl⟩
        case rest =>
          obtain ⟨rfl, rfl⟩ := hcut
          clear hs
          go_wp2_with fail
          refine (LA'.out _ _ R4.out).mono ?_
          rintro e w4 ⟨q4, rfl, ho, hb⟩
          have N4 := Aside0.mk ho
          have R5 := Aside0.mk (R5.out.step hb)
          have K7 := Aside0.mk (K6.out.step hb)
          have C1 := Aside0.mk (C.out.trans (hb.mono C.out.size))
          have LT : Aside0 (∀ k, u6.ownBlock = some k → k < wr.heap.size) := ⟨K6.out.lt⟩
          have SZ : Aside0 (wr.heap.size ≤ w4.heap.size) := ⟨hb.size⟩
          clear ho hb
          go_wp2_with fail
          refine (LB'.out _ _ R5.out).mono ?_
          rintro e w5 ⟨q5, rfl, ho, hb⟩
          replace N4 := Aside0.mk (N4.out.step hb)
          have N5 := Aside0.mk ho
          replace K7 := Aside0.mk (K7.out.step hb)
          have SZ5 : Aside0 (w4.heap.size ≤ w5.heap.size) := ⟨hb.size⟩
          have C2 := Aside0.mk (C1.out.trans (hb.mono C1.out.size))
          clear ho hb
          have hr4 := N4.out.row
          have hr5 := N5.out.row
          obtain ⟨a4, c4, rfl, hc4, hx4⟩ := hr4
          obtain ⟨a5, c5, rfl, hc5, hx5⟩ := hr5
          have D4 : Aside0 (∀ k, (Value.slice a4 (zo CA).length c4).ownBlock = some k → some k ≠ u6.ownBlock) := ⟨fun k hk he => by
            have h1 := N4.out.base k hk
            have h2 := LT.out k he.symm
            omega⟩
          have D5 : Aside0 (∀ k, (Value.slice a5 (zo CB).length c5).ownBlock = some k → some k ≠ u6.ownBlock) := ⟨fun k hk he => by
            have h1 := N5.out.base k hk
            have h2 := LT.out k he.symm
            have h3 := SZ.out
            omega⟩
          rw [z4.out] at hx4 N4 D4 ⊢
          rw [z5.out] at hx5 N5 D5 ⊢
          have X4 := Aside0.mk hx4
          have X5 := Aside0.mk hx5
          clear hc4 hc5 hx4 hx5
          go_wp2_with (first
            | ((with_reducible refine gate_builtin (b := .append) (xs := #[.tmp 42, .tmp 43]) rfl ?_)
               at_builtin
               refine Kd.R_append_rows (Kd.int .i64) (w0 := w5) w5.heap.size rfl (.tmp 42) (.tmp 43) 25 3 (.int .i64 0) 8 rfl Tryz.underlying25 info3 rfl (by decide) (by omega) (.slice none 0 0) [] (zo CA) _ _ _ (fun _ => True) (fun _ => False) rfl rfl (Kd.R_nil _ _ _ _ _) X4.out (fun _ _ h => h) (fun _ h => h.elim) (fun _ _ => trivial) (Below.refl _ _) (Nat.le_refl _) (by decide) ?_
               intro y1 w6 ho hb hg hat
               clear hg hat
               have O9 : Aside0 (Own w6 w5.heap.size y1 (zo CA)) := ⟨ho⟩
               have HB := Aside0.mk hb
               replace X5 := Aside0.mk (Kd.C_below X5.out hb)
               clear ho hb)
            | ((with_reducible refine gate_builtin (b := .append) (xs := #[.tmp 45, .tmp 46]) rfl ?_)
               at_builtin
               refine Kd.R_append_rows (Kd.int .i64) (w0 := w5) w5.heap.size rfl (.tmp 45) (.tmp 46) 25 3 (.int .i64 0) 8 rfl Tryz.underlying25 info3 rfl (by decide) (by omega) y1 (zo CA) (zo CB) _ _ _ (fun _ => True) (fun _ => False) rfl rfl O9.out X5.out (fun _ _ h => h) (fun _ h => h.elim) (fun _ _ => trivial) HB.out HB.out.size (by rw [z4.out]; decide) ?_
               intro y2 w7 ho hb hg hat
               clear hg hat
               have O10 : Aside0 (Own w7 w5.heap.size y2 (zo (CA ++ CB))) := ⟨Own.cast ho (zo_append _ _).symm⟩
               replace HB := Aside0.mk hb
               clear ho hb O9))
          refine (tK2_any _).mono ?_
          rintro e w8 ⟨q8, rfl, ho, hb⟩
          replace O10 := Aside0.mk (O10.out.step hb)
          have O := Aside0.mk ho.row
          have SZ8 : Aside0 (w5.heap.size ≤ w8.heap.size) := ⟨(HB.out.trans (hb.mono HB.out.size)).size⟩
          replace HB := Aside0.mk (HB.out.trans (hb.mono HB.out.size))
          clear ho hb
          go_wp2_with fail
          refine (T4.out _ _ _ O.out O10.out.row).mono ?_
          rintro e w9 ⟨q9, rfl, ho, hb⟩
          replace HB := Aside0.mk (HB.out.trans (hb.mono HB.out.size))
          have N9 := Aside0.mk ho
          clear ho hb O O10
          have DK : Aside0 (∀ k, q9.ownBlock = some k → some k ≠ u6.ownBlock) := ⟨fun k hk he => by
            have h1 := N9.out.base k hk
            have h2 := LT.out k he.symm
            have h3 := SZ.out
            have h4 := SZ5.out
            have h5 := SZ8.out
            omega⟩
          have K9 := Aside0.mk (K7.out.step (HB.out))
          have R4' := Aside0.mk (N4.out.row.step HB.out)
          have R5' := Aside0.mk (N5.out.row.step HB.out)
          have C9 := Aside0.mk (C2.out.trans (HB.out.mono C2.out.size))
          have NL : Aside0 (Own w9 w3.heap.size q9 (zo (keyAt K i))) := ⟨N9.out.lower (by have := C9.out.size; have := C2.out.size; have := SZ8.out; omega)⟩
          have hr9 := N9.out.row
          obtain ⟨a9, c9, rfl, hc9, hx9⟩ := hr9
          have hz9 : (zo (keyAt K i)).length = 48 := by rw [zo_length]; unfold keyAt; rw [sel_length]; rfl
          rw [hz9] at NL DK ⊢
          clear hc9 hx9 hz9 N9
          go_wp2_with ((with_reducible refine gate_builtin (b := .append) (xs := #[.tmp 48, .tmp 52]) rfl ?_)
                       at_builtin
                       refine Kd.R_append_rows (Kd.slice 3 (Kd.int .i64)) (w0 := w3) w3.heap.size rfl (.tmp 48) (.tmp 52) 140 25 (.slice none 0 0) 24 rfl Tryz.underlying140 info42 rfl (by decide) (by omega) u6 (keys K i) [zo (keyAt K i)] _ _ _ (fun _ => True) (fun k => some k ≠ u6.ownBlock) rfl rfl (Kd.R_alloc K9.out _) (lit_rows w9 w3.heap.size (fun k => some k ≠ u6.ownBlock) _ _ NL.out DK.out) (fun _ _ h => h) (fun _ h => ⟨trivial, h⟩) (fun _ _ => trivial) (below_alloc C9.out _) (below_alloc C9.out _).size (by rw [keys_length]; omega) ?_
                       intro y3 w10 ho hb hg hat)
          have K10 := Aside0.mk (Rows.cast ho (keys_succ K i).symm)
          have C10 := Aside0.mk hb
          have R4'' := Aside0.mk (Row.grown (R4'.out.step (below_alloc (Below.refl _ _) (.cells #[.slice a9 48 c9] 25))) hg D4.out)
          have R5'' := Aside0.mk (Row.grown (R5'.out.step (below_alloc (Below.refl _ _) (.cells #[.slice a9 48 c9] 25))) hg D5.out)
          have SZ10 : Aside0 (w9.heap.size ≤ (w9.alloc (.cells #[.slice a9 48 c9] 25)).heap.size) := ⟨(below_alloc (Below.refl w9.heap.size w9) (.cells #[.slice a9 48 c9] 25)).size⟩
          have E4 : Aside0 (∀ k, (Value.slice a4 28 c4).ownBlock = some k → some k ≠ y3.ownBlock) := ⟨fun k hk he => by
            rcases hat with h | ⟨b, h, h1⟩
            · rw [h] at he; exact D4.out k hk he
            · rw [h] at he
              have h2 := N4.out.base k hk
              have h3 := HB.out.size
              have h4 := SZ10.out
              injection he with he
              omega⟩
          have E5 : Aside0 (∀ k, (Value.slice a5 28 c5).ownBlock = some k → some k ≠ y3.ownBlock) := ⟨fun k hk he => by
            rcases hat with h | ⟨b, h, h1⟩
            · rw [h] at he; exact D5.out k hk he
            · rw [h] at he
              have h2 := N5.out.base k hk
              have h3 := HB.out.size
              have h4 := SZ10.out
              injection he with he
              omega⟩
          clear ho hb hg hat
          go_roundw
          case rel =>
            rw [HCA.out] at R4''
            rw [HCB.out] at R5''
            exact ⟨i + 1, by omega, by go_num, R4'', R5'', K10, E4, E5, C10⟩
          case measure => simp [intOf]; omega
      · rw [if_neg hs] at LA' LB'
        have t1 : ((i : Int) + 1 == 1) = false := by rw [beq_eq_false_iff_ne]; omega
        have t2 : ((i : Int) + 1 == 2) = false := by rw [beq_eq_false_iff_ne]; omega
        have t3 : ((i : Int) + 1 == 9) = false := by rw [beq_eq_false_iff_ne]; omega
        have t4 : ((i : Int) + 1 == 16) = false := by rw [beq_eq_false_iff_ne]; omega
        clear hs
        go_wp2_with fail
        refine (LA'.out _ _ R4.out).mono ?_
        rintro e w4 ⟨q4, rfl, ho, hb⟩
        have N4 := Aside0.mk ho
        have R5 := Aside0.mk (R5.out.step hb)
        have K7 := Aside0.mk (K6.out.step hb)
        have C1 := Aside0.mk (C.out.trans (hb.mono C.out.size))
        have LT : Aside0 (∀ k, u6.ownBlock = some k → k < wr.heap.size) := ⟨K6.out.lt⟩
        have SZ : Aside0 (wr.heap.size ≤ w4.heap.size) := ⟨hb.size⟩
        clear ho hb
        go_wp2_with fail
        refine (LB'.out _ _ R5.out).mono ?_
        rintro e w5 ⟨q5, rfl, ho, hb⟩
        replace N4 := Aside0.mk (N4.out.step hb)
        have N5 := Aside0.mk ho
        replace K7 := Aside0.mk (K7.out.step hb)
        have SZ5 : Aside0 (w4.heap.size ≤ w5.heap.size) := ⟨hb.size⟩
        have C2 := Aside0.mk (C1.out.trans (hb.mono C1.out.size))
        clear ho hb
        have hr4 := N4.out.row
        have hr5 := N5.out.row
        obtain ⟨a4, c4, rfl, hc4, hx4⟩ := hr4
        obtain ⟨a5, c5, rfl, hc5, hx5⟩ := hr5
        have D4 : Aside0 (∀ k, (Value.slice a4 (zo CA).length c4).ownBlock = some k → some k ≠ u6.ownBlock) := ⟨fun k hk he => by
          have h1 := N4.out.base k hk
          have h2 := LT.out k he.symm
          omega⟩
        have D5 : Aside0 (∀ k, (Value.slice a5 (zo CB).length c5).ownBlock = some k → some k ≠ u6.ownBlock) := ⟨fun k hk he => by
          have h1 := N5.out.base k hk
          have h2 := LT.out k he.symm
          have h3 := SZ.out
          omega⟩
        rw [z4.out] at hx4 N4 D4 ⊢
        rw [z5.out] at hx5 N5 D5 ⊢
        have X4 := Aside0.mk hx4
        have X5 := Aside0.mk hx5
        clear hc4 hc5 hx4 hx5
        go_wp2_with (first
          | ((with_reducible refine gate_builtin (b := .append) (xs := #[.tmp 42, .tmp 43]) rfl ?_)
             at_builtin
             refine Kd.R_append_rows (Kd.int .i64) (w0 := w5) w5.heap.size rfl (.tmp 42) (.tmp 43) 25 3 (.int .i64 0) 8 rfl Tryz.underlying25 info3 rfl (by decide) (by omega) (.slice none 0 0) [] (zo CA) _ _ _ (fun _ => True) (fun _ => False) rfl rfl (Kd.R_nil _ _ _ _ _) X4.out (fun _ _ h => h) (fun _ h => h.elim) (fun _ _ => trivial) (Below.refl _ _) (Nat.le_refl _) (by decide) ?_
             intro y1 w6 ho hb hg hat
             clear hg hat
             have O9 : Aside0 (Own w6 w5.heap.size y1 (zo CA)) := ⟨ho⟩
             have HB := Aside0.mk hb
             replace X5 := Aside0.mk (Kd.C_below X5.out hb)
             clear ho hb)
          | ((with_reducible refine gate_builtin (b := .append) (xs := #[.tmp 45, .tmp 46]) rfl ?_)
             at_builtin
             refine Kd.R_append_rows (Kd.int .i64) (w0 := w5) w5.heap.size rfl (.tmp 45) (.tmp 46) 25 3 (.int .i64 0) 8 rfl Tryz.underlying25 info3 rfl (by decide) (by omega) y1 (zo CA) (zo CB) _ _ _ (fun _ => True) (fun _ => False) rfl rfl O9.out X5.out (fun _ _ h => h) (fun _ h => h.elim) (fun _ _ => trivial) HB.out HB.out.size (by rw [z4.out]; decide) ?_
             intro y2 w7 ho hb hg hat
             clear hg hat
             have O10 : Aside0 (Own w7 w5.heap.size y2 (zo (CA ++ CB))) := ⟨Own.cast ho (zo_append _ _).symm⟩
             replace HB := Aside0.mk hb
             clear ho hb O9))
        refine (tK2_any _).mono ?_
        rintro e w8 ⟨q8, rfl, ho, hb⟩
        replace O10 := Aside0.mk (O10.out.step hb)
        have O := Aside0.mk ho.row
        have SZ8 : Aside0 (w5.heap.size ≤ w8.heap.size) := ⟨(HB.out.trans (hb.mono HB.out.size)).size⟩
        replace HB := Aside0.mk (HB.out.trans (hb.mono HB.out.size))
        clear ho hb
        go_wp2_with fail
        refine (T4.out _ _ _ O.out O10.out.row).mono ?_
        rintro e w9 ⟨q9, rfl, ho, hb⟩
        replace HB := Aside0.mk (HB.out.trans (hb.mono HB.out.size))
        have N9 := Aside0.mk ho
        clear ho hb O O10
        have DK : Aside0 (∀ k, q9.ownBlock = some k → some k ≠ u6.ownBlock) := ⟨fun k hk he => by
          have h1 := N9.out.base k hk
          have h2 := LT.out k he.symm
          have h3 := SZ.out
          have h4 := SZ5.out
          have h5 := SZ8.out
          omega⟩
        have K9 := Aside0.mk (K7.out.step (HB.out))
        have R4' := Aside0.mk (N4.out.row.step HB.out)
        have R5' := Aside0.mk (N5.out.row.step HB.out)
        have C9 := Aside0.mk (C2.out.trans (HB.out.mono C2.out.size))
        have NL : Aside0 (Own w9 w3.heap.size q9 (zo (keyAt K i))) := ⟨N9.out.lower (by have := C9.out.size; have := C2.out.size; have := SZ8.out; omega)⟩
        have hr9 := N9.out.row
        obtain ⟨a9, c9, rfl, hc9, hx9⟩ := hr9
        have hz9 : (zo (keyAt K i)).length = 48 := by rw [zo_length]; unfold keyAt; rw [sel_length]; rfl
        rw [hz9] at NL DK ⊢
        clear hc9 hx9 hz9 N9
        go_wp2_with ((with_reducible refine gate_builtin (b := .append) (xs := #[.tmp 48, .tmp 52]) rfl ?_)
                     at_builtin
                     refine Kd.R_append_rows (Kd.slice 3 (Kd.int .i64)) (w0 := w3) w3.heap.size rfl (.tmp 48) (.tmp 52) 140 25 (.slice none 0 0) 24 rfl Tryz.underlying140 info42 rfl (by decide) (by omega) u6 (keys K i) [zo (keyAt K i)] _ _ _ (fun _ => True) (fun k => some k ≠ u6.ownBlock) rfl rfl (Kd.R_alloc K9.out _) (lit_rows w9 w3.heap.size (fun k => some k ≠ u6.ownBlock) _ _ NL.out DK.out) (fun _ _ h => h) (fun _ h => ⟨trivial, h⟩) (fun _ _ => trivial) (below_alloc C9.out _) (below_alloc C9.out _).size (by rw [keys_length]; omega) ?_
                     intro y3 w10 ho hb hg hat)
        have K10 := Aside0.mk (Rows.cast ho (keys_succ K i).symm)
        have C10 := Aside0.mk hb
        have R4'' := Aside0.mk (Row.grown (R4'.out.step (below_alloc (Below.refl _ _) (.cells #[.slice a9 48 c9] 25))) hg D4.out)
        have R5'' := Aside0.mk (Row.grown (R5'.out.step (below_alloc (Below.refl _ _) (.cells #[.slice a9 48 c9] 25))) hg D5.out)
        have SZ10 : Aside0 (w9.heap.size ≤ (w9.alloc (.cells #[.slice a9 48 c9] 25)).heap.size) := ⟨(below_alloc (Below.refl w9.heap.size w9) (.cells #[.slice a9 48 c9] 25)).size⟩
        have E4 : Aside0 (∀ k, (Value.slice a4 28 c4).ownBlock = some k → some k ≠ y3.ownBlock) := ⟨fun k hk he => by
          rcases hat with h | ⟨b, h, h1⟩
          · rw [h] at he; exact D4.out k hk he
          · rw [h] at he
            have h2 := N4.out.base k hk
            have h3 := HB.out.size
            have h4 := SZ10.out
            injection he with he
            omega⟩
        have E5 : Aside0 (∀ k, (Value.slice a5 28 c5).ownBlock = some k → some k ≠ y3.ownBlock) := ⟨fun k hk he => by
          rcases hat with h | ⟨b, h, h1⟩
          · rw [h] at he; exact D5.out k hk he
          · rw [h] at he
            have h2 := N5.out.base k hk
            have h3 := HB.out.size
            have h4 := SZ10.out
            injection he with he
            omega⟩
        clear ho hb hg hat
        go_roundw
        case rel =>
          rw [HCA.out] at R4''
          rw [HCB.out] at R5''
          exact ⟨i + 1, by omega, by go_num, R4'', R5'', K10, E4, E5, C10⟩
        case measure => simp [intOf]; omega
    · obtain rfl : i = 16 := by omega
      go_wp2_with fail
      go_ret
      have hK := Rows.lower K6.out HH.out
      have hB := B.out.trans (C.out.mono HH.out)
      exact ⟨u6, rfl, hK, hB⟩
end Go.Proofs.YtopobangjpehnaaGreat.Ref
