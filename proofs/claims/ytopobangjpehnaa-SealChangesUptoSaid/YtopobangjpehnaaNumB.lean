/- A half of a key turned, and what a round makes of a half of a block: the printed functions, in the words of the cipher on lists of bits. -/
import Derived.Test.YtopobangjpehnaaNum
set_option linter.unusedVariables false
set_option linter.unusedSimpArgs false
namespace Go.Proofs.Ytopobangjpehnaa.Num
open Go.RowKit Go.Proofs.YtopobangjpehnaaW.PrintWords Go.Proofs.YtopobangjpehnaaW.PrintMore Pr Des

/-! ### half -/
theorem num_take_drop (n : Nat) (l : List Bool) : num l = num (l.take n) * 2 ^ (l.length - n) + num (l.drop n) := by
  conv => lhs; rw [← List.take_append_drop n l]
  rw [num_append, List.length_drop]
theorem shl_u64 (n s : Nat) (hs : s ≤ 64) (h : n * 2 ^ s < 2 ^ 64) : shl .u64 (n : Int) (s : Int) = ((n * 2 ^ s : Nat) : Int) := by
  unfold shl
  rw [show min (s : Int).toNat IntKind.u64.bits = s by simp [IntKind.bits]; omega]
  rw [show (n : Int) * 2 ^ s = ((n * 2 ^ s : Nat) : Int) by simp]
  exact u64_id h
theorem half_go (n : Nat) (s : Nat) (hn : n < 2 ^ 28) (hb : s = 1 ∨ s = 2) :
    cipher_half.f (n : Int) (s : Int) = some ((num (rot s (bitsN 28 n)) : Nat) : Int) := by
  have hw : wrap64 (28 - (s : Int)) = ((28 - s : Nat) : Int) := by rw [w64_id (by omega) (by omega)]; omega
  have h0 : (0 : Int) ≤ (s : Int) := by omega
  have h1 : (0 : Int) ≤ ((28 - s : Nat) : Int) := by omega
  have hL : (bitsN 28 n).length = 28 := bitsN_length _ _
  have hnum : num (bitsN 28 n) = n := by rw [num_bitsN, Nat.mod_eq_of_lt hn]
  have htd := num_take_drop s (bitsN 28 n)
  have ht := num_lt ((bitsN 28 n).take s)
  have hd := num_lt ((bitsN 28 n).drop s)
  rw [hL, hnum] at htd
  rw [List.length_take, hL] at ht
  rw [List.length_drop, hL] at hd
  have hrot : num (rot s (bitsN 28 n)) = num ((bitsN 28 n).drop s) * 2 ^ s + num ((bitsN 28 n).take s) := by
    unfold rot
    rw [num_append, List.length_take, hL]
    rcases hb with rfl | rfl <;> rfl
  rw [hrot]
  generalize num ((bitsN 28 n).take s) = t at *
  generalize num ((bitsN 28 n).drop s) = d at *
  clear hrot hnum hL
  have hs2 : n * 2 ^ s < 2 ^ 64 := by rcases hb with rfl | rfl <;> simp only [Nat.reducePow] <;> omega
  have hq : n >>> (28 - s) = t := by
    rw [Nat.shiftRight_eq_div_pow]
    rcases hb with rfl | rfl <;> simp only [Nat.reduceSub, Nat.reducePow, Nat.min_def] at * <;> omega
  have ht2 : t < 2 ^ s := by rcases hb with rfl | rfl <;> simp only [Nat.reduceSub, Nat.reducePow, Nat.min_def] at * <;> omega
  have ht3 : t < 2 ^ 64 := by rcases hb with rfl | rfl <;> simp only [Nat.reduceSub, Nat.reducePow, Nat.min_def] at * <;> omega
  have hor : n * 2 ^ s ||| t = n * 2 ^ s + t := join n t s ht2
  have hlt : n * 2 ^ s + t < 2 ^ 64 := by rcases hb with rfl | rfl <;> simp only [Nat.reduceSub, Nat.reducePow, Nat.min_def] at * <;> omega
  have hand : (n * 2 ^ s + t) &&& 268435455 = d * 2 ^ s + t := by
    have := Nat.and_two_pow_sub_one_eq_mod (n * 2 ^ s + t) 28
    rw [show (2 : Nat) ^ 28 - 1 = 268435455 from rfl] at this
    rw [this]
    rcases hb with rfl | rfl <;> simp only [Nat.reduceSub, Nat.reducePow, Nat.min_def] at * <;> omega
  unfold cipher_half.f
  rw [if_pos h0, hw, if_pos h1, shl_u64 n s (by omega) hs2, shr_u64 n (28 - s) (by omega), hq, or_u64 _ _ hs2 ht3, hor]
  rw [show (268435455 : Int) = ((268435455 : Nat) : Int) from rfl, and_u64 _ _ hlt (by decide), hand]

/-! ### mixed -/
/-- The rotated half. -/
def rotN (r i : Nat) : Nat := (r * 2 ^ ((4 * i + 31) % 32) % 2 ^ 32) ||| r / 2 ^ (32 - (4 * i + 31) % 32)
theorem rot_count : ∀ i : Fin 8, Go.bits .and .u64 (IntKind.u64.wrap (wrap64 (wrap64 (4 * (((i : Nat)) : Int)) - 1))) 31 = (((4 * (i : Nat) + 31) % 32 : Nat) : Int) := by decide +kernel
theorem rotN_lt (r i : Nat) (hr : r < 2 ^ 32) : rotN r i < 2 ^ 32 :=
  Nat.or_lt_two_pow (Nat.mod_lt _ (by decide)) (Nat.lt_of_le_of_lt (Nat.div_le_self _ _) hr)
theorem rotl_eval (r i : Nat) (hr : r < 2 ^ 32) (hi : i < 8) : bits_RotateLeft32.f (r : Int) (wrap64 (wrap64 (4 * (i : Int)) - 1)) = some ((rotN r i : Nat) : Int) := by
  have hc := rot_count ⟨i, hi⟩
  simp only at hc
  unfold bits_RotateLeft32.f
  rw [hc]
  have hs : (4 * i + 31) % 32 < 32 := Nat.mod_lt _ (by decide)
  unfold rotN
  generalize (4 * i + 31) % 32 = s at *
  have hw : IntKind.u64.wrap (32 - (s : Int)) = ((32 - s : Nat) : Int) := by
    rw [wrap_u64]; omega
  rw [if_pos (by omega), hw, if_pos (by omega)]
  have e1 : shl .u32 (r : Int) (s : Int) = ((r * 2 ^ s % 2 ^ 32 : Nat) : Int) := by
    unfold shl
    rw [show min (s : Int).toNat IntKind.u32.bits = s by simp [IntKind.bits]; omega, wrap_u32]
    simp
  have e2 : shr .u32 (r : Int) ((32 - s : Nat) : Int) = ((r / 2 ^ (32 - s) : Nat) : Int) := by
    unfold shr
    rw [show min ((32 - s : Nat) : Int).toNat IntKind.u32.bits = 32 - s by simp [IntKind.bits]]
    simp
  rw [e1, e2, or_u32 _ _ (Nat.mod_lt _ (by decide)) (Nat.lt_of_le_of_lt (Nat.div_le_self _ _) hr)]

/-- The six bits of the group i. -/
def sixN (r key i : Nat) : Nat := (rotN r i / 2 ^ 26) ^^^ (key >>> (42 - 6 * i) % 2 ^ 6)
theorem bitsN6 (n : Nat) : bitsN 6 n = [n.testBit 5, n.testBit 4, n.testBit 3, n.testBit 2, n.testBit 1, n.testBit 0] := rfl
theorem six_bits (r key i : Nat) (hr : r < 2 ^ 32) (hi : i < 8) :
    bitsN 6 (sixN r key i) = ((xo (sel tWide (bitsN 32 r)) (bitsN 48 key)).drop (6 * i)).take 6 := by
  have hz : ∀ j, 32 ≤ j → r.testBit j = false := fun j hj => Nat.testBit_lt_two_pow (Nat.lt_of_lt_of_le hr (Nat.pow_le_pow_right (by decide) hj))
  have hg : ∀ k, k < 32 → (bitsN 32 r).getD k false = r.testBit (31 - k) := fun k hk => by rw [bitsN_getD _ _ _ hk]
  rw [bitsN6]
  unfold sixN rotN
  have h8 : i = 0 ∨ i = 1 ∨ i = 2 ∨ i = 3 ∨ i = 4 ∨ i = 5 ∨ i = 6 ∨ i = 7 := by omega
  simp only [Nat.testBit_xor, Nat.testBit_div_two_pow, Nat.testBit_mod_two_pow, Nat.testBit_shiftRight, Nat.testBit_or, Nat.testBit_mul_two_pow]
  simp only [sel, tWide, List.map_cons, List.map_nil, hg, Nat.reduceSub, Nat.reduceLT, bitsN, xo, List.zipWith_cons_cons, List.zipWith_nil_left]
  rcases h8 with rfl | rfl | rfl | rfl | rfl | rfl | rfl | rfl <;> simp [hz, hg]

/-- The place in a box, as the program reckons it. -/
def idx (six : Int) : Int := IntKind.u64.wrap ((IntKind.u64.wrap (16 * (Go.bits .or .u64 (Go.bits .and .u64 (six / 16) 2) (Go.bits .and .u64 six 1)))) + (Go.bits .and .u64 (six / 2) 15))
def boxStep (i six : Int) : Option Int := (cipher_box.f i).bind fun t => if 0 ≤ idx six then if idx six < (t.size : Int) then cipher_sixteenth.f (bt t (idx six)) else none else none
theorem box_all : ∀ i : Fin 8, ∀ six : Fin 64, boxStep ((i : Nat) : Int) ((six : Nat) : Int) = some ((((Des.box i).getD (place (bitsN 6 six)) 0 : Nat)) : Int) ∧ (Des.box i).getD (place (bitsN 6 six)) 0 < 16 := by decide +kernel

theorem fbox_snoc (m : Nat) : ∀ (i : Nat) (x : List Bool), fboxFrom (m + 1) i x = fboxFrom m i x ++ sbits (i + m) ((x.drop (6 * m)).take 6) := by
  induction m with
  | zero => intro i x; simp [fboxFrom]
  | succ m ih =>
    intro i x
    rw [fboxFrom, ih, fboxFrom, List.append_assoc, List.drop_drop, show i + 1 + m = i + (m + 1) by omega, show 6 + 6 * m = 6 * (m + 1) by omega]
theorem fbox_length (m : Nat) : ∀ (i : Nat) (x : List Bool), (fboxFrom m i x).length = 4 * m := by
  induction m with
  | zero => intro i x; rfl
  | succ m ih => intro i x; rw [fboxFrom, List.length_append, ih]; simp only [sbits, bitsN_length]; omega

theorem acc_join (acc v : Nat) (ha : acc < 2 ^ 28) (hv : v < 16) : Go.bits .or .u64 (IntKind.u64.wrap (((acc : Nat) : Int) * 16)) ((v : Nat) : Int) = ((acc * 2 ^ 4 + v % 2 ^ 4 : Nat) : Int) := by
  rw [show ((acc : Nat) : Int) * 16 = ((acc * 2 ^ 4 : Nat) : Int) by simp, u64_id (by omega), or_u64 _ _ (by omega) (by omega), join acc v 4 (by omega)]
  congr 2; omega
theorem six_lt (r key i : Nat) (hr : r < 2 ^ 32) : sixN r key i < 2 ^ 6 := by
  have hrot := rotN_lt r i hr
  exact Nat.xor_lt_two_pow (by omega) (Nat.mod_lt _ (by decide))
theorem six_eval (r key i : Nat) (hr : r < 2 ^ 32) (hkey : key < 2 ^ 48) :
    Go.bits .xor .u64 (IntKind.u64.wrap (((rotN r i : Nat) : Int) / 67108864)) (Go.bits .and .u64 (shr .u64 (key : Int) ((42 - 6 * i : Nat) : Int)) 63) = ((sixN r key i : Nat) : Int) := by
  have hrot := rotN_lt r i hr
  have hk1 : key >>> (42 - 6 * i) < 2 ^ 64 := Nat.lt_of_le_of_lt (by rw [Nat.shiftRight_eq_div_pow]; exact Nat.div_le_self _ _) (Nat.lt_of_lt_of_le hkey (by decide))
  have h63 := Nat.and_two_pow_sub_one_eq_mod (key >>> (42 - 6 * i)) 6
  rw [show (2 : Nat) ^ 6 - 1 = 63 from rfl] at h63
  have hm : key >>> (42 - 6 * i) % 2 ^ 6 < 2 ^ 64 := Nat.lt_of_lt_of_le (Nat.mod_lt _ (by decide)) (by decide)
  have hd : rotN r i / 2 ^ 26 < 2 ^ 64 := by omega
  rw [shr_u64 _ _ (by omega), show (63 : Int) = ((63 : Nat) : Int) from rfl, and_u64 _ _ hk1 (by decide)]
  rw [show ((rotN r i : Nat) : Int) / 67108864 = ((rotN r i / 2 ^ 26 : Nat) : Int) by simp, u64_id hd]
  rw [h63, xor_u64 _ _ hd hm]
  rfl
theorem last_go (r key k : Nat) (hk : 32 < k) (x : Int) (hx : x = ((num (fboxFrom 8 0 (xo (sel tWide (bitsN 32 r)) (bitsN 48 key))) : Nat) : Int)) :
    ((cipher_take.f k (ns tP) x 32).bind fun t120 => (some ((t120) % 4294967296))) = some ((num (F (bitsN 32 r) (bitsN 48 key)) : Nat) : Int) := by
  subst hx
  have hF : num (sel tP (fboxFrom 8 0 (xo (sel tWide (bitsN 32 r)) (bitsN 48 key)))) < 2 ^ 32 := by
    have := num_lt (sel tP (fboxFrom 8 0 (xo (sel tWide (bitsN 32 r)) (bitsN 48 key))))
    rwa [sel_length] at this
  unfold F
  have hl := fbox_length 8 0 (xo (sel tWide (bitsN 32 r)) (bitsN 48 key))
  generalize fboxFrom 8 0 (xo (sel tWide (bitsN 32 r)) (bitsN 48 key)) = l at *
  have hn := num_lt l
  have hb := bitsN_num l
  rw [hl] at hn hb
  have ht := take_eval tP 32 (num l) k (by decide) (by decide) (Nat.lt_of_lt_of_le hn (by decide)) (by decide) (by show 32 < k; exact hk)
  rw [show 4 * 8 = 32 from rfl] at hb
  rw [hb] at ht
  rw [show (32 : Int) = ((32 : Nat) : Int) from rfl, ht]
  clear ht hb hn
  simp only [Option.bind_some]
  congr 1
  omega

theorem mixed_go (r key : Nat) (hr : r < 2 ^ 32) (hkey : key < 2 ^ 48) : ∀ d i k, i + d = 8 → d + 33 < k →
    cipher_mixed.l0 k (r : Int) (key : Int) (ns tP) ((num (fboxFrom i 0 (xo (sel tWide (bitsN 32 r)) (bitsN 48 key))) : Nat) : Int) (i : Nat) =
      some ((num (F (bitsN 32 r) (bitsN 48 key)) : Nat) : Int) := by
  intro d
  induction d with
  | zero =>
    intro i k hi hk
    obtain ⟨k, rfl⟩ : ∃ m, k = m + 1 := ⟨k - 1, by omega⟩
    obtain rfl : i = 8 := by omega
    rw [cipher_mixed.l0, if_neg (by decide)]
    exact last_go r key k (by omega) _ rfl
  | succ d ih =>
    intro i k hi hk
    obtain ⟨k, rfl⟩ : ∃ m, k = m + 1 := ⟨k - 1, by omega⟩
    have hi8 : i < 8 := by omega
    have c1 : ((i : Nat) : Int) < 8 := by omega
    have c2 : (0 : Int) ≤ ((42 - 6 * i : Nat) : Int) := by omega
    have hp : (2 : Nat) ^ (4 * i) ≤ 2 ^ 28 := Nat.pow_le_pow_right (by decide) (by omega)
    have ih' := ih (i + 1) k (by omega) (by omega)
    have w2 : wrap64 (42 - wrap64 (6 * (i : Int))) = ((42 - 6 * i : Nat) : Int) := by rw [w64_id (x := 6 * (i : Int)) (by omega) (by omega), w64_id (by omega) (by omega)]; omega
    have w3 : wrap64 ((i : Int) + 1) = ((i + 1 : Nat) : Int) := by rw [w64_id (by omega) (by omega)]; omega
    have hsix := six_lt r key i hr
    have esix := six_eval r key i hr hkey
    obtain ⟨hbox, hv⟩ := box_all ⟨i, hi8⟩ ⟨sixN r key i, hsix⟩
    simp only at hbox hv
    have hsb := six_bits r key i hr hi8
    have hsn := fbox_snoc i 0 (xo (sel tWide (bitsN 32 r)) (bitsN 48 key))
    rw [Nat.zero_add, ← hsb] at hsn
    have hl := fbox_length i 0 (xo (sel tWide (bitsN 32 r)) (bitsN 48 key))
    have hn := num_lt (fboxFrom i 0 (xo (sel tWide (bitsN 32 r)) (bitsN 48 key)))
    rw [hl] at hn
    rw [hsn, num_append] at ih'
    unfold sbits at ih'
    rw [num_bitsN, bitsN_length] at ih'
    have hadd := acc_join (num (fboxFrom i 0 (xo (sel tWide (bitsN 32 r)) (bitsN 48 key)))) _ (Nat.lt_of_lt_of_le hn hp) hv
    rw [cipher_mixed.l0, if_pos c1, rotl_eval r i hr hi8, Option.bind_some, w2, if_pos c2, esix, w3]
    have hb2 : boxStep (i : Int) ((sixN r key i : Nat) : Int) = some (((Des.box i).getD (place (bitsN 6 (sixN r key i))) 0 : Nat) : Int) := hbox
    unfold boxStep at hb2
    cases ht : cipher_box.f (i : Int) with
    | none => rw [ht] at hb2; cases hb2
    | some t =>
      rw [ht, Option.bind_some] at hb2
      rw [Option.bind_some]
      by_cases d1 : 0 ≤ idx ((sixN r key i : Nat) : Int)
      · rw [if_pos d1] at hb2
        by_cases d2 : idx ((sixN r key i : Nat) : Int) < (t.size : Int)
        · rw [if_pos d2] at hb2
          unfold idx at d1 d2 hb2
          rw [if_pos d1, if_pos d2, hb2, Option.bind_some, hadd]
          exact ih'
        · rw [if_neg d2] at hb2; cases hb2
      · rw [if_neg d1] at hb2; cases hb2

theorem mixed_eval (r key k : Nat) (hr : r < 2 ^ 32) (hkey : key < 2 ^ 48) (hk : 41 < k) :
    cipher_mixed.f k (r : Int) (key : Int) (ns tP) = some ((num (F (bitsN 32 r) (bitsN 48 key)) : Nat) : Int) :=
  mixed_go r key hr hkey 8 0 k rfl (by omega)
end Go.Proofs.Ytopobangjpehnaa.Num
