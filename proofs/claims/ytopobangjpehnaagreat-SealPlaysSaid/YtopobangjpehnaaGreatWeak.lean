/- cipher.Weak and cipher.Odd; what the lowest bits of a key's bytes change: nothing. -/
import Derived.Test.YtopobangjpehnaaGreatXorAll
import Derived.Test.YtopobangjpehnaaGreatPrI
import Derived.StillTailTactics
set_option linter.unusedVariables false
set_option linter.unusedSimpArgs false
namespace Go.Proofs.YtopobangjpehnaaGreat.Walk
open Go.RowKit Go.Proofs.YtopobangjpehnaaGreatW.PrintWords Go.Proofs.YtopobangjpehnaaGreatW.PrintLast Go.Proofs.YtopobangjpehnaaGreatW.PrintMore Pr Des Num

/-! ### The lowest bits -/
def hi7 (l : List UInt8) : List Nat := l.map fun b => b.toNat / 2
theorem hi7_length (l : List UInt8) : (hi7 l).length = l.length := by simp [hi7]
theorem hi7_drop (l : List UInt8) (n : Nat) : hi7 (l.drop n) = (hi7 l).drop n := by simp [hi7]
theorem hi7_take (l : List UInt8) (n : Nat) : hi7 (l.take n) = (hi7 l).take n := by simp [hi7]
theorem hi7_len {a b : List UInt8} (h : hi7 a = hi7 b) : a.length = b.length := by rw [← hi7_length a, h, hi7_length]
theorem testBit_half (n k : Nat) : n.testBit (k + 1) = (n / 2).testBit k := Nat.testBit_succ n k
theorem bitsB_hi7 : ∀ (a b : List UInt8), hi7 a = hi7 b → ∀ i, i % 8 ≠ 7 → (bitsB a).getD i false = (bitsB b).getD i false
  | [], [], _, i, _ => rfl
  | [], y :: b, h, i, _ => by simp [hi7] at h
  | x :: a, [], h, i, _ => by simp [hi7] at h
  | x :: a, y :: b, h, i, hi => by
    have h1 : x.toNat / 2 = y.toNat / 2 ∧ hi7 a = hi7 b := by simpa [hi7] using h
    have hx : (bitsN 8 x.toNat).length = 8 := bitsN_length _ _
    have hy : (bitsN 8 y.toNat).length = 8 := bitsN_length _ _
    simp only [bitsB, List.flatMap_cons]
    by_cases h8 : i < 8
    · rw [List.getD_eq_getElem?_getD, List.getD_eq_getElem?_getD, List.getElem?_append_left (by omega), List.getElem?_append_left (by omega), ← List.getD_eq_getElem?_getD, ← List.getD_eq_getElem?_getD, bitsN_getD _ _ _ h8, bitsN_getD _ _ _ h8]
      obtain ⟨k, hk⟩ : ∃ k, 8 - 1 - i = k + 1 := ⟨6 - i, by omega⟩
      rw [hk, testBit_half, testBit_half, h1.1]
    · have ih := bitsB_hi7 a b h1.2 (i - 8) (by omega)
      rw [List.getD_eq_getElem?_getD, List.getD_eq_getElem?_getD, List.getElem?_append_right (by omega), List.getElem?_append_right (by omega), hx, hy, ← List.getD_eq_getElem?_getD, ← List.getD_eq_getElem?_getD]
      exact ih
theorem kindOf_hi7 {a b : List UInt8} (h : hi7 a = hi7 b) : kindOf a = kindOf b := by unfold kindOf; rw [hi7_len h]
theorem sched_hi7 {a b : List UInt8} (h : hi7 a = hi7 b) (k : Nat) : sched (partOf a k) = sched (partOf b k) := by
  have hp : ∀ j, sched (partAt a j) = sched (partAt b j) := by
    intro j
    unfold partAt
    exact sched_congr _ _ (fun i _ hi => bitsB_hi7 _ _ (by rw [hi7_take, hi7_drop, hi7_take, hi7_drop, h]) i hi)
  unfold partOf
  rw [kindOf_hi7 h]
  split <;> exact hp _
theorem turnB_hi7 {a b : List UInt8} (h : hi7 a = hi7 b) (back : Bool) (x : List Bool) (hx : x.length = 64) : turnB a back x = turnB b back x :=
  turnB_map id b a (kindOf_hi7 h) (fun k bk y _ _ _ => by unfold oneB order; rw [sched_hi7 h]; rfl) back x hx
theorem ecb_congr (a b : List UInt8) (back : Bool) (h : ∀ x : List Bool, x.length = 64 → turnB a back x = turnB b back x) (t : ByteArray) (ht : t.size % 8 = 0) : blocksStr (ecbB a back t) t = blocksStr (ecbB b back t) t := by
  apply blocksStr_congr _ _ _ _ rfl
  intro i hi
  exact h _ (blockAt_length t (t.size / 8) i (by omega) hi)
theorem checkB_hi7 {a b : List UInt8} (h : hi7 a = hi7 b) : checkB a = checkB b := by
  unfold checkB; rw [turnB_hi7 h false _ (bitsN_length _ _)]

/-! ### Weak -/
def an (a b : List Bool) : List Bool := List.zipWith (· && ·) a b
theorem num_an (a b : List Bool) (h : a.length = b.length) : num (an a b) = num a &&& num b := by
  apply Nat.eq_of_testBit_eq
  intro j
  have hl : (an a b).length = a.length := by unfold an; rw [List.length_zipWith, h]; omega
  rw [Nat.testBit_and]
  by_cases hj : j < a.length
  · rw [num_testBit _ _ (by omega), num_testBit _ _ hj, num_testBit _ _ (by omega), hl, ← h]
    have hi : a.length - 1 - j < a.length := by omega
    generalize a.length - 1 - j = i at *
    simp only [an, List.getD_eq_getElem?_getD, List.getElem?_zipWith, List.getElem?_eq_getElem hi, List.getElem?_eq_getElem (show i < b.length by omega)]
    rfl
  · have big : ∀ l : List Bool, l.length ≤ j → (num l).testBit j = false := fun l hlj => Nat.testBit_lt_two_pow (Nat.lt_of_lt_of_le (num_lt l) (Nat.pow_le_pow_right (by decide) hlj))
    rw [big _ (by omega), big _ (by omega), big _ (by omega)]; rfl
theorem bitsN_and (w a b : Nat) : bitsN w (a &&& b) = an (bitsN w a) (bitsN w b) := by
  induction w with
  | zero => rfl
  | succ w ih => simp only [bitsN, ih, Nat.testBit_and, an, List.zipWith_cons_cons]
def andL (a b : List UInt8) : List UInt8 := List.zipWith (· &&& ·) a b
theorem bitsB_and : ∀ (a b : List UInt8), a.length = b.length → bitsB (andL a b) = an (bitsB a) (bitsB b)
  | [], [], _ => rfl
  | x :: a, y :: b, h => by
    have ih := bitsB_and a b (by simpa using h)
    simp only [andL, List.zipWith_cons_cons, bitsB, List.flatMap_cons] at ih ⊢
    rw [ih, UInt8.toNat_and, bitsN_and]
    unfold an
    rw [List.zipWith_append (by rw [bitsN_length, bitsN_length])]
/-- A part but for its lowest bits. -/
def clear8 (p : List UInt8) : List UInt8 := andL p [254, 254, 254, 254, 254, 254, 254, 254]
theorem clear_num (p : List UInt8) (h : p.length = 8) : Go.bits .andNot .u64 ((num (bitsB p) : Nat) : Int) 72340172838076673 = ((num (bitsB (clear8 p)) : Nat) : Int) := by
  have hl : (bitsB p).length = 64 := by rw [bitsB_length, h]
  have hlt := (num64 _ hl).1
  have e : num (bitsB [254, 254, 254, 254, 254, 254, 254, 254]) = 18374403900871474942 := by decide +kernel
  unfold clear8
  rw [bitsB_and _ _ (by rw [h]; rfl), num_an _ _ (by rw [hl]; rfl), e]
  have hb : (num (bitsB p) &&& 18374403900871474942) < 2 ^ 64 := Nat.and_lt_two_pow _ (by decide)
  show IntKind.u64.wrap (((BitVec.ofInt 64 ((num (bitsB p) : Nat) : Int) &&& ~~~BitVec.ofInt 64 72340172838076673 : BitVec 64).toNat : Nat) : Int) = _
  rw [show (~~~BitVec.ofInt 64 72340172838076673 : BitVec 64) = BitVec.ofNat 64 18374403900871474942 by decide +kernel]
  rw [BitVec.toNat_and, BitVec.ofInt_natCast, BitVec.toNat_ofNat, BitVec.toNat_ofNat, Nat.mod_eq_of_lt hlt, Nat.mod_eq_of_lt (by decide)]
  exact u64_id hb
def weak4 : List (List UInt8) := [[0, 0, 0, 0, 0, 0, 0, 0], [254, 254, 254, 254, 254, 254, 254, 254], [224, 224, 224, 224, 240, 240, 240, 240], [30, 30, 30, 30, 14, 14, 14, 14]]
def weakPart (p : List UInt8) : Bool := weak4.any fun c => decide (clear8 p = c)
theorem clear8_length (p : List UInt8) (h : p.length = 8) : (clear8 p).length = 8 := by unfold clear8 andL; rw [List.length_zipWith, h]; rfl
theorem weak_num (p c : List UInt8) (hp : p.length = 8) (hc : c.length = 8) : ((num (bitsB (clear8 p)) : Nat) : Int) = ((num (bitsB c) : Nat) : Int) ↔ clear8 p = c := by
  constructor
  · intro h
    have hl := clear8_length p hp
    have h1 : num (bitsB (clear8 p)) = num (bitsB c) := by omega
    have h2 := congrArg bytes8 h1
    rwa [bytes8_bits _ hl, bytes8_bits _ hc] at h2
  · intro h; rw [h]
/-- Whether a part of a key is weak. -/
def weakB (key : List UInt8) : Bool := (List.range (kindOf key)).any fun j => weakPart ((key.drop (8 * j)).take 8)

theorem weak_go (s : ByteArray) (n : Nat) (hn : s.size = 8 * n) (h3 : n ≤ 3) : ∀ d (q k : Nat), q + d = n → d + 10 < k →
    cipher_Weak.l0 k s (8 * (q : Int)) = some ((List.range' q d).any fun j => weakPart ((s.data.toList.drop (8 * j)).take 8)) := by
  intro d
  induction d with
  | zero =>
    intro q k hq hk
    obtain ⟨k, rfl⟩ : ∃ m, k = m + 1 := ⟨k - 1, by omega⟩
    rw [cipher_Weak.l0, if_neg (by omega)]
    rfl
  | succ d ih =>
    intro q k hq hk
    obtain ⟨k, rfl⟩ : ∃ m, k = m + 1 := ⟨k - 1, by omega⟩
    have ih' := ih (q + 1) k (by omega) (by omega)
    have c1 : 8 * (q : Int) < (s.size : Int) := by omega
    have c2 : (0 : Int) ≤ 8 * (q : Int) := by omega
    have c3 : 8 * (q : Int) ≤ (s.size : Int) := by omega
    have e8 : (8 * (q : Int)).toNat = 8 * q := by omega
    have hxs : 8 ≤ (s.extract (8 * q) s.size).size := by rw [ByteArray.size_extract]; omega
    have hl : s.data.toList.length = s.size := by rw [Array.length_toList]; rfl
    have hpl : ((s.data.toList.drop (8 * q)).take 8).length = 8 := by rw [List.length_take, List.length_drop]; omega
    have hw : wrap64 (8 * (q : Int) + 8) = 8 * ((q + 1 : Nat) : Int) := by rw [w64_id (by omega) (by omega)]; omega
    have hev := number_eval (s.extract (8 * q) s.size) hxs k (by omega)
    have het : (s.extract (8 * q) s.size).data.toList.take 8 = (s.data.toList.drop (8 * q)).take 8 := by
      have e : (s.data.toList.drop (8 * q)).take (s.size - 8 * q) = s.data.toList.drop (8 * q) := List.take_of_length_le (by rw [List.length_drop, Array.length_toList]; exact Nat.le_refl _)
      rw [Go.Lib.extract_data, e]
    rw [het] at hev
    rw [cipher_Weak.l0, if_pos c1, if_pos c2, if_pos c3, e8, hev, Option.bind_some, clear_num _ hpl, hw]
    have n0 : (0 : Int) = ((num (bitsB [0, 0, 0, 0, 0, 0, 0, 0]) : Nat) : Int) := by decide +kernel
    have n1 : (18374403900871474942 : Int) = ((num (bitsB [254, 254, 254, 254, 254, 254, 254, 254]) : Nat) : Int) := by decide +kernel
    have n2 : (16204198715998662896 : Int) = ((num (bitsB [224, 224, 224, 224, 240, 240, 240, 240]) : Nat) : Int) := by decide +kernel
    have n3 : (2170205184872812046 : Int) = ((num (bitsB [30, 30, 30, 30, 14, 14, 14, 14]) : Nat) : Int) := by decide +kernel
    have hcons : (List.range' q (d + 1)).any (fun j => weakPart ((s.data.toList.drop (8 * j)).take 8)) = (weakPart ((s.data.toList.drop (8 * q)).take 8) || (List.range' (q + 1) d).any fun j => weakPart ((s.data.toList.drop (8 * j)).take 8)) := by
      rw [List.range'_succ, List.any_cons]
    rw [hcons, n1, n2, n3]
    generalize (s.data.toList.drop (8 * q)).take 8 = p at *
    have w0 := weak_num p [0, 0, 0, 0, 0, 0, 0, 0] hpl rfl
    rw [← n0] at w0
    have w1 := weak_num p [254, 254, 254, 254, 254, 254, 254, 254] hpl rfl
    have w2 := weak_num p [224, 224, 224, 224, 240, 240, 240, 240] hpl rfl
    have w3 := weak_num p [30, 30, 30, 30, 14, 14, 14, 14] hpl rfl
    clear n0 n1 n2 n3 hcons hev het hw e8
    by_cases h0 : clear8 p = [0, 0, 0, 0, 0, 0, 0, 0]
    · rw [if_pos (w0.2 h0)]; simp [weakPart, weak4, h0]
    · rw [if_neg (fun h => h0 (w0.1 h))]
      by_cases h1 : clear8 p = [254, 254, 254, 254, 254, 254, 254, 254]
      · rw [if_pos (w1.2 h1)]; simp [weakPart, weak4, h1]
      · rw [if_neg (fun h => h1 (w1.1 h))]
        by_cases h2 : clear8 p = [224, 224, 224, 224, 240, 240, 240, 240]
        · rw [if_pos (w2.2 h2)]; simp [weakPart, weak4, h2]
        · rw [if_neg (fun h => h2 (w2.1 h))]
          by_cases h4 : clear8 p = [30, 30, 30, 30, 14, 14, 14, 14]
          · rw [if_pos (w3.2 h4)]; simp [weakPart, weak4, h4]
          · rw [if_neg (fun h => h4 (w3.1 h)), ih']
            have : weakPart p = false := by simp [weakPart, weak4, h0, h1, h2, h4]
            rw [this, Bool.false_or]
theorem kind_eval (s : ByteArray) : cipher_kind.f s = some ((kindOf s.data.toList : Nat) : Int) := by
  have e : s.data.toList.length = s.size := by rw [Array.length_toList]; rfl
  unfold cipher_kind.f kindOf
  rw [e]
  by_cases h1 : s.size = 8
  · rw [if_pos (by omega), if_pos h1]; rfl
  · by_cases h2 : s.size = 16
    · rw [if_neg (by omega), if_pos (by omega), if_neg h1, if_pos h2]; rfl
    · by_cases h3 : s.size = 24
      · rw [if_neg (by omega), if_neg (by omega), if_pos (by omega), if_neg h1, if_neg h2, if_pos h3]; rfl
      · rw [if_neg (by omega), if_neg (by omega), if_neg (by omega), if_neg h1, if_neg h2, if_neg h3]; rfl
theorem kind_size (s : ByteArray) (h : kindOf s.data.toList ≠ 0) : s.size = 8 * kindOf s.data.toList ∧ kindOf s.data.toList ≤ 3 := by
  have e : s.data.toList.length = s.size := by rw [Array.length_toList]; rfl
  unfold kindOf at h ⊢
  rw [e] at h ⊢
  repeat' split
  all_goals first | omega | (simp_all; done)
theorem weak_eval (s : ByteArray) : cipher_Weak.f 20 s = some (weakB s.data.toList) := by
  unfold cipher_Weak.f
  rw [kind_eval, Option.bind_some]
  by_cases h : kindOf s.data.toList = 0
  · rw [if_pos (by omega)]; unfold weakB; rw [h]; rfl
  · rw [if_neg (by omega)]
    obtain ⟨h1, h2⟩ := kind_size s h
    have := weak_go s (kindOf s.data.toList) h1 h2 (kindOf s.data.toList) 0 20 (by omega) (by omega)
    unfold weakB
    rw [List.range_eq_range']
    exact this
theorem weak_any (s : ByteArray) (W : World) : Calls Tryz.prog 45 #[.string s] W fun e w' => e = .returned (.bool (weakB s.data.toList)) ∧ Below W.heap.size W w' :=
  (cipher_Weak.calls 20 s _ W (weak_eval s)).mono fun e w' ⟨he, hd⟩ => ⟨he, hd.below⟩
theorem clear_hi7 : ∀ (a b c : List UInt8), hi7 a = hi7 b → (∀ m ∈ c, m = 254) → andL a c = andL b c
  | [], [], _, _, _ => rfl
  | [], y :: b, c, h, _ => by simp [hi7] at h
  | x :: a, [], c, h, _ => by simp [hi7] at h
  | x :: a, y :: b, [], h, _ => rfl
  | x :: a, y :: b, m :: c, h, hm => by
    have h1 : x.toNat / 2 = y.toNat / 2 ∧ hi7 a = hi7 b := by simpa [hi7] using h
    have hmm := hm m List.mem_cons_self
    subst hmm
    have ih := clear_hi7 a b c h1.2 (fun m hm' => hm m (List.mem_cons_of_mem _ hm'))
    unfold andL at ih ⊢
    rw [List.zipWith_cons_cons, List.zipWith_cons_cons, ih]
    congr 1
    apply UInt8.toNat_inj.1
    rw [UInt8.toNat_and, UInt8.toNat_and]
    apply Nat.eq_of_testBit_eq
    intro j
    rw [Nat.testBit_and, Nat.testBit_and]
    cases j with
    | zero => simp
    | succ j => rw [testBit_half x.toNat, testBit_half y.toNat, h1.1]
theorem weakB_hi7 {a b : List UInt8} (h : hi7 a = hi7 b) : weakB a = weakB b := by
  unfold weakB
  rw [kindOf_hi7 h]
  congr 1
  funext j
  unfold weakPart clear8
  rw [clear_hi7 _ _ _ (show hi7 ((a.drop (8 * j)).take 8) = hi7 ((b.drop (8 * j)).take 8) by rw [hi7_take, hi7_drop, hi7_take, hi7_drop, h]) (by decide)]
end Go.Proofs.YtopobangjpehnaaGreat.Walk
