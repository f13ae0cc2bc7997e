/- Of the cipher's blocks and texts, in plain Lean: there and back, all bits turned, parts that are alike, lowest bits, weak keys. -/
import Derived.Test.YtopobangjpehnaaHelp
set_option linter.unusedVariables false
set_option linter.unusedSimpArgs false
namespace Go.Proofs.Ytopobangjpehnaa.Walk
open Pr Des Num

/-! ### Bytes and bits -/
theorem bitsN_mod (w c n : Nat) (h : w ≤ c) : bitsN w (n % 2 ^ c) = bitsN w n := by
  induction w with
  | zero => rfl
  | succ w ih => simp only [bitsN]; rw [ih (by omega), Nat.testBit_mod_two_pow]; simp [show w < c by omega]
theorem bitsN_shift (w s n : Nat) : bitsN w (n >>> s) = (bitsN (w + s) n).take w := by
  induction w with
  | zero => rfl
  | succ w ih =>
    rw [show w + 1 + s = (w + s) + 1 by omega]
    simp only [bitsN, List.take_succ_cons, Nat.testBit_shiftRight, ih]
    congr 2; omega
theorem bitsB_bytes8 (n : Nat) : bitsB (bytes8 n) = bitsN 64 n := by
  simp only [bitsB, bytes8, List.flatMap_cons, List.flatMap_nil, List.append_nil, UInt8.toNat_ofNat']
  rw [bitsN_mod 8 8 _ (Nat.le_refl _), bitsN_mod 8 8 _ (Nat.le_refl _), bitsN_mod 8 8 _ (Nat.le_refl _), bitsN_mod 8 8 _ (Nat.le_refl _), bitsN_mod 8 8 _ (Nat.le_refl _), bitsN_mod 8 8 _ (Nat.le_refl _), bitsN_mod 8 8 _ (Nat.le_refl _), bitsN_mod 8 8 _ (Nat.le_refl _)]
  simp only [bitsN, Nat.testBit_shiftRight, List.cons_append, List.nil_append, Nat.reduceAdd]
theorem bits8_inj {a b : UInt8} (h : bitsN 8 a.toNat = bitsN 8 b.toNat) : a = b := by
  have h1 := congrArg num h
  rw [num_bitsN, num_bitsN] at h1
  have ha := a.toNat_lt
  have hb := b.toNat_lt
  apply UInt8.toNat_inj.1
  omega
theorem bitsB_inj : ∀ {a b : List UInt8}, a.length = b.length → bitsB a = bitsB b → a = b
  | [], [], _, _ => rfl
  | x :: a, y :: b, hl, h => by
    simp only [bitsB, List.flatMap_cons] at h
    have h2 := List.append_inj h (by rw [bitsN_length, bitsN_length])
    rw [bits8_inj h2.1, bitsB_inj (by simpa using hl) h2.2]
theorem bytes8_length (n : Nat) : (bytes8 n).length = 8 := rfl
theorem bytes8_bits (l : List UInt8) (h : l.length = 8) : bytes8 (num (bitsB l)) = l := by
  apply bitsB_inj (by rw [bytes8_length, h])
  have hl : (bitsB l).length = 64 := by rw [bitsB_length, h]
  rw [bitsB_bytes8, (num64 _ hl).2]
theorem bitsB_cm (l : List UInt8) : bitsB (overL l) = cm (bitsB l) := by
  have h : ∀ n : Fin 256, bitsN 8 (UInt8.ofNat n ^^^ 255).toNat = cm (bitsN 8 n) := by decide +kernel
  have h8 : ∀ b : UInt8, bitsN 8 (b ^^^ 255).toNat = cm (bitsN 8 b.toNat) := by
    intro b
    have := h ⟨b.toNat, b.toNat_lt⟩
    simpa using this
  induction l with
  | nil => rfl
  | cons b l ih =>
    simp only [bitsB, overL, List.map_cons, List.flatMap_cons] at ih ⊢
    rw [ih, h8, cm_append]
theorem bytes8_cm (x : List Bool) (h : x.length = 64) : bytes8 (num (cm x)) = overL (bytes8 (num x)) := by
  apply bitsB_inj (by simp [bytes8, overL])
  rw [bitsB_bytes8, bitsB_cm, bitsB_bytes8, (num64 _ h).2, (num64 _ (by rw [cm_length]; exact h)).2]

/-! ### Parts -/
theorem part_len (key : List UInt8) (hk : 1 ≤ kindOf key) (k : Nat) (h3 : k < 3) (h1 : kindOf key = 1 → k = 0) : (partOf key k).length = 64 := by
  have hl : key.length = 8 * kindOf key := by
    unfold kindOf at hk ⊢
    split
    · omega
    · split
      · omega
      · split
        · omega
        · rename_i a b c; rw [if_neg a, if_neg b, if_neg c] at hk; omega
  unfold partOf
  by_cases h2 : kindOf key = 2 ∧ k = 2
  · rw [if_pos h2]; unfold partAt
    rw [bitsB_length, List.length_take, List.length_drop, hl, h2.1]
    rfl
  · rw [if_neg h2]; unfold partAt
    rw [bitsB_length, List.length_take, List.length_drop, hl]
    have hk3 : kindOf key ≤ 3 := by unfold kindOf; repeat' split
                                    all_goals omega
    by_cases e : kindOf key = 1
    · have := h1 e; subst this; omega
    · by_cases e2 : kindOf key = 2
      · have : ¬ k = 2 := fun h => h2 ⟨e2, h⟩
        omega
      · omega

theorem oneB_back (key : List Bool) (back : Bool) (x : List Bool) (hx : x.length = 64) : oneB key (!back) (oneB key back x) = x := by
  unfold oneB order
  cases back
  · simpa using des_back (sched key) x hx
  · have := des_back (sched key).reverse x hx
    rw [List.reverse_reverse] at this
    simpa using this
/-- There and back, a block under a whole key. -/
theorem turnB_back (key : List UInt8) (back : Bool) (x : List Bool) (hx : x.length = 64) : turnB key (!back) (turnB key back x) = x := by
  unfold turnB
  by_cases h1 : kindOf key = 1
  · rw [if_pos h1, if_pos h1]; exact oneB_back _ _ _ hx
  · rw [if_neg h1, if_neg h1]
    have l1 := fun p b y => oneB_length p b y
    have f1 : ∀ p y, y.length = 64 → oneB p true (oneB p false y) = y := fun p y hy => oneB_back p false y hy
    have f2 : ∀ p y, y.length = 64 → oneB p false (oneB p true y) = y := fun p y hy => oneB_back p true y hy
    cases back
    · show oneB (partOf key 0) true (oneB (partOf key 1) false (oneB (partOf key 2) true (oneB (partOf key 2) false (oneB (partOf key 1) true (oneB (partOf key 0) false x))))) = x
      rw [f1 _ _ (l1 _ _ _), f2 _ _ (l1 _ _ _), f1 _ _ hx]
    · show oneB (partOf key 2) false (oneB (partOf key 1) true (oneB (partOf key 0) false (oneB (partOf key 0) true (oneB (partOf key 1) false (oneB (partOf key 2) true x))))) = x
      rw [f2 _ _ (l1 _ _ _), f1 _ _ (l1 _ _ _), f2 _ _ hx]
/-- What turns each part's blocks alike turns a whole key's. -/
theorem turnB_map (φ : List Bool → List Bool) (key key' : List UInt8) (hk : kindOf key' = kindOf key)
    (h : ∀ k bk y, k < 3 → (kindOf key = 1 → k = 0) → y.length = 64 → oneB (partOf key' k) bk (φ y) = φ (oneB (partOf key k) bk y)) (back : Bool) (x : List Bool) (hx : x.length = 64) :
    turnB key' back (φ x) = φ (turnB key back x) := by
  unfold turnB
  rw [hk]
  by_cases h1 : kindOf key = 1
  · rw [if_pos h1, if_pos h1]; exact h 0 back x (by decide) (fun _ => rfl) hx
  · rw [if_neg h1, if_neg h1]
    have l1 := fun p b y => oneB_length p b y
    have g : ∀ k bk y, k < 3 → y.length = 64 → oneB (partOf key' k) bk (φ y) = φ (oneB (partOf key k) bk y) := fun k bk y h3 hy => h k bk y h3 (fun e => absurd e h1) hy
    cases back
    · show oneB (partOf key' 2) false (oneB (partOf key' 1) true (oneB (partOf key' 0) false (φ x))) = φ (oneB (partOf key 2) false (oneB (partOf key 1) true (oneB (partOf key 0) false x)))
      rw [g 0 false x (by decide) hx, g 1 true _ (by decide) (l1 _ _ _), g 2 false _ (by decide) (l1 _ _ _)]
    · show oneB (partOf key' 0) true (oneB (partOf key' 1) false (oneB (partOf key' 2) true (φ x))) = φ (oneB (partOf key 0) true (oneB (partOf key 1) false (oneB (partOf key 2) true x)))
      rw [g 2 true x (by decide) hx, g 1 false _ (by decide) (l1 _ _ _), g 0 true _ (by decide) (l1 _ _ _)]
theorem oneB_cm (key : List Bool) (hk : key.length = 64) (back : Bool) (x : List Bool) (hx : x.length = 64) : oneB (cm key) back (cm x) = cm (oneB key back x) := by
  unfold oneB order
  rw [sched_cm key hk]
  cases back
  · simpa using des_cm (sched key) x hx
  · have := des_cm (sched key).reverse x hx
    rw [List.map_reverse] at this
    simpa using this
theorem kindOf_over (key : List UInt8) : kindOf (overL key) = kindOf key := by simp [kindOf, overL]
theorem partAt_over (key : List UInt8) (j : Nat) : partAt (overL key) j = cm (partAt key j) := by
  unfold partAt
  rw [← bitsB_cm]
  congr 1
  simp [overL, List.map_drop, List.map_take]
theorem partOf_over (key : List UInt8) (j : Nat) : partOf (overL key) j = cm (partOf key j) := by
  unfold partOf
  rw [kindOf_over]
  split <;> exact partAt_over _ _
theorem turnB_over (key : List UInt8) (hk : 1 ≤ kindOf key) (back : Bool) (x : List Bool) (hx : x.length = 64) : turnB (overL key) back (cm x) = cm (turnB key back x) :=
  turnB_map cm key (overL key) (kindOf_over key) (fun k bk y h3 h1 hy => by rw [partOf_over]; exact oneB_cm _ (part_len key hk k h3 h1) bk y hy) back x hx

/-! ### Texts -/
theorem blocksStr_size (outB : Nat → List Bool) (s : ByteArray) (h : s.size % 8 = 0) : (blocksStr outB s).size = s.size := by
  show (outBytes outB (s.size / 8)).toArray.size = s.size
  rw [List.size_toArray, outBytes_length]; omega
theorem blocksStr_list (outB : Nat → List Bool) (s : ByteArray) : (blocksStr outB s).data.toList = outBytes outB (s.size / 8) := rfl
theorem outBytes_congr (a b : Nat → List Bool) (n : Nat) (h : ∀ i, i < n → a i = b i) : outBytes a n = outBytes b n := by
  induction n with
  | zero => rfl
  | succ n ih => rw [outBytes_succ, outBytes_succ, ih (fun i hi => h i (by omega)), h n (by omega)]
theorem outBytes_block (a : Nat → List Bool) (n i : Nat) (h : i < n) (hl : (a i).length = 64) : bitsB (((outBytes a n).drop (8 * i)).take 8) = a i := by
  induction n with
  | zero => omega
  | succ n ih =>
    rw [outBytes_succ]
    have hln := outBytes_length a n
    by_cases e : i = n
    · subst e
      rw [List.drop_append_of_le_length (by omega), List.drop_of_length_le (by omega), List.nil_append, List.take_of_length_le (by rw [bytes8_length]; exact Nat.le_refl _), bitsB_bytes8, (num64 _ hl).2]
    · rw [List.drop_append_of_le_length (by omega), List.take_append_of_le_length (by rw [List.length_drop, hln]; omega)]
      exact ih (by omega)
/-- A text is what its own blocks come to. -/
theorem outBytes_self (s : ByteArray) (n : Nat) (h : 8 * n ≤ s.size) : outBytes (blockAt s) n = s.data.toList.take (8 * n) := by
  have hl : s.data.toList.length = s.size := by rw [Array.length_toList]; rfl
  induction n with
  | zero => rfl
  | succ n ih =>
    rw [outBytes_succ, ih (by omega)]
    unfold blockAt
    rw [bytes8_bits _ (by rw [List.length_take, List.length_drop, hl]; omega), show 8 * (n + 1) = 8 * n + 8 by omega, List.take_add]
theorem byteArray_ext {a b : ByteArray} (h : a.data.toList = b.data.toList) : a = b := by
  cases a; cases b; congr 1; exact Array.toList_inj.1 h
theorem blocksStr_self (s : ByteArray) (h : s.size % 8 = 0) : blocksStr (blockAt s) s = s := by
  apply byteArray_ext
  rw [blocksStr_list, outBytes_self s _ (by omega), List.take_of_length_le]
  rw [Array.length_toList]; show s.size ≤ _; omega
theorem blockAt_str (a : Nat → List Bool) (s : ByteArray) (h : s.size % 8 = 0) (i : Nat) (hi : i < s.size / 8) (hl : (a i).length = 64) : blockAt (blocksStr a s) i = a i := by
  unfold blockAt
  rw [blocksStr_list]
  exact outBytes_block a _ i hi hl
theorem blocksStr_congr (a b : Nat → List Bool) (s t : ByteArray) (hs : s.size = t.size) (h : ∀ i, i < s.size / 8 → a i = b i) : blocksStr a s = blocksStr b t := by
  unfold blocksStr
  rw [← hs, outBytes_congr a b _ h]
theorem ecb_back (key : List UInt8) (back : Bool) (s : ByteArray) (h : s.size % 8 = 0) : blocksStr (ecbB key (!back) (blocksStr (ecbB key back s) s)) (blocksStr (ecbB key back s) s) = s := by
  rw [← blocksStr_self s h]
  conv => rhs; rw [← blocksStr_self s h]
  apply blocksStr_congr
  · rw [blocksStr_size _ _ (by rw [blocksStr_self s h]; exact h)]
  · intro i hi
    rw [blocksStr_self s h] at *
    rw [blocksStr_size _ _ h] at hi
    have hl := blockAt_length s (s.size / 8) i (by omega) hi
    unfold ecbB
    rw [blockAt_str _ s h i hi (turnB_length _ _ _ hl), turnB_back _ _ _ hl]
theorem overS_list (s : ByteArray) : (overS s).data.toList = overL s.data.toList := rfl
theorem blockAt_over (s : ByteArray) (i : Nat) : blockAt (overS s) i = cm (blockAt s i) := by
  unfold blockAt
  rw [overS_list, ← bitsB_cm]
  congr 1
  simp [overL, List.map_drop, List.map_take]
theorem overL_append (a b : List UInt8) : overL (a ++ b) = overL a ++ overL b := by simp [overL]
theorem outBytes_cm (a : Nat → List Bool) (n : Nat) (h : ∀ i, i < n → (a i).length = 64) : outBytes (fun i => cm (a i)) n = overL (outBytes a n) := by
  induction n with
  | zero => rfl
  | succ n ih => rw [outBytes_succ, outBytes_succ, ih (fun i hi => h i (by omega)), overL_append, bytes8_cm _ (h n (by omega))]
/-- All bits turned: what is encrypted. -/
theorem under_over (key t : ByteArray) (hk : 1 ≤ kindOf key.data.toList) (ht : t.size % 8 = 0) : underS (overS key) (overS t) = overS (underS key t) := by
  have hl := fun i hi => blockAt_length t (t.size / 8) i (by omega) hi
  apply byteArray_ext
  rw [overS_list]
  unfold underS
  rw [blocksStr_list, blocksStr_list, overS_size, overS_list, ← outBytes_cm (ecbB key.data.toList false t) _ (fun i hi => turnB_length _ _ _ (hl i hi))]
  apply outBytes_congr
  intro i hi
  unfold ecbB
  rw [blockAt_over, turnB_over _ hk _ _ (hl i hi)]
end Go.Proofs.Ytopobangjpehnaa.Walk
