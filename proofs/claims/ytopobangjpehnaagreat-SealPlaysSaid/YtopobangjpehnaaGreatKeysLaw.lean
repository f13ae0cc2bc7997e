/- The document's own Odd and Weak evaluated, and the walk of the law CipherKeys. -/
import Derived.Test.YtopobangjpehnaaGreatPrL
import Derived.Test.YtopobangjpehnaaGreatRefC
import Derived.Test.YtopobangjpehnaaGreatWeak
import Derived.Test.YtopobangjpehnaaGreatNewAll
set_option linter.unusedVariables false
set_option linter.unusedSimpArgs false
namespace Go.Proofs.YtopobangjpehnaaGreat.Ref
open Go.RowKit Go.Proofs.YtopobangjpehnaaGreatW.PrintWords Go.Proofs.YtopobangjpehnaaGreatW.PrintLast Go.Proofs.YtopobangjpehnaaGreatW.PrintMore Pr Des Num Walk

/-- How many ones the document has counted ahead of the bit m. -/
def cntTo (c : Nat) : Nat → Int
  | 0 => 0
  | m + 1 => if m = 0 then 0 else wrap64 (cntTo c m + Int.tmod (shr .i64 (wrap64 (c : Int)) (m : Int)) 2)
/-! ### Weak -/
def weakLits : List (List UInt8) := [[1, 1, 1, 1, 1, 1, 1, 1], [254, 254, 254, 254, 254, 254, 254, 254], [224, 224, 224, 224, 241, 241, 241, 241], [31, 31, 31, 31, 14, 14, 14, 14]]
def weakLit (r : Nat) : List UInt8 := weakLits.getD r []
theorem weakLit_length : ∀ r : Fin 4, (weakLit r).length = 8 := by decide
theorem hi7_and : ∀ (a c : List UInt8), a.length ≤ c.length → (∀ m ∈ c, m = 254) → hi7 (andL a c) = hi7 a
  | [], _, _, _ => by simp [hi7, andL]
  | x :: a, [], h, _ => by simp at h
  | x :: a, y :: c, h, hm => by
    have hy : y = 254 := hm y List.mem_cons_self
    subst hy
    have ih := hi7_and a c (by simpa using h) (fun m hm' => hm m (List.mem_cons_of_mem _ hm'))
    have hx : ∀ n : Fin 256, (UInt8.ofNat n &&& 254).toNat / 2 = (n : Nat) / 2 := by decide +kernel
    have hx' := hx ⟨x.toNat, x.toNat_lt⟩
    simp only [UInt8.ofNat_toNat] at hx'
    unfold hi7 andL at ih ⊢
    rw [List.zipWith_cons_cons, List.map_cons, List.map_cons, ih, hx']
theorem clear8_hi7 (p : List UInt8) (h : p.length = 8) : hi7 (clear8 p) = hi7 p := hi7_and p _ (by rw [h]; decide) (by decide)
theorem clear8_iff (p c : List UInt8) (hp : p.length = 8) (hc : c.length = 8) : clear8 p = clear8 c ↔ hi7 p = hi7 c :=
  ⟨fun h => by rw [← clear8_hi7 p hp, h, clear8_hi7 c hc], fun h => clear_hi7 _ _ _ h (by decide)⟩
theorem weak4_lits : weak4 = weakLits.map clear8 := by decide +kernel
theorem weakPart_lits (p : List UInt8) (hp : p.length = 8) : weakPart p = weakLits.any fun c => decide (hi7 p = hi7 c) := by
  have hl : ∀ c ∈ weakLits, c.length = 8 := by decide
  unfold weakPart
  rw [weak4_lits, List.any_map]
  apply Bool.eq_iff_iff.2
  simp only [List.any_eq_true, Function.comp, decide_eq_true_iff]
  constructor
  · rintro ⟨c, hc, h⟩; exact ⟨c, hc, (clear8_iff p c hp (hl c hc)).1 h⟩
  · rintro ⟨c, hc, h⟩; exact ⟨c, hc, (clear8_iff p c hp (hl c hc)).2 h⟩
/-- The literals, as the document's function has them. -/
def litS : List ByteArray := [(⟨#[1, 1, 1, 1, 1, 1, 1, 1]⟩ : ByteArray), (⟨#[254, 254, 254, 254, 254, 254, 254, 254]⟩ : ByteArray), (⟨#[224, 224, 224, 224, 241, 241, 241, 241]⟩ : ByteArray), (⟨#[31, 31, 31, 31, 14, 14, 14, 14]⟩ : ByteArray)]
theorem litS_at (r : Nat) (h : r < 4) : rdOf ByteArray.empty litS (r : Int) = lst (weakLit r) ∧ (weakLit r).length = 8 := by
  have : r = 0 ∨ r = 1 ∨ r = 2 ∨ r = 3 := by omega
  rcases this with rfl | rfl | rfl | rfl <;> exact ⟨rfl, rfl⟩
theorem half_byte (x y : UInt8) : (Int.tdiv ((x.toNat : Nat) : Int) 2 % 256 == Int.tdiv ((y.toNat : Nat) : Int) 2 % 256) = decide (x.toNat / 2 = y.toNat / 2) := by
  have hx := x.toNat_lt
  have hy := y.toNat_lt
  have e : ∀ n : Nat, Int.tdiv (n : Int) 2 = ((n / 2 : Nat) : Int) := fun n => by rw [Int.tdiv_eq_ediv_of_nonneg (by omega)]; rfl
  rw [e, e]
  apply Bool.eq_iff_iff.2
  rw [beq_iff_eq, decide_eq_true_iff]
  omega
theorem drop_get (l : List UInt8) (a m : Nat) (hm : a + m < l.length) (h8 : m < ((l.drop a).take 8).length) : ((l.drop a).take 8)[m] = l[a + m] := by
  rw [List.getElem_take, List.getElem_drop]
theorem rweak_in (s : ByteArray) (q r : Nat) (hq : 8 * q + 8 ≤ s.size) (hs : s.size ≤ 1000) (hr : r < 4) (p : List UInt8) (hp : p = (s.data.toList.drop (8 * q)).take 8) : ∀ (d m : Nat) (b : Bool) (k : Nat), m + d = 8 →
    turnstileref3_Weak.l2 (k + (d + 1)) s litS ((8 * q : Nat) : Int) (r : Int) b (m : Int) =
      if (b && decide (hi7 (p.drop m) = hi7 ((weakLit r).drop m))) = true then some true else turnstileref3_Weak.l1 k s litS ((8 * q : Nat) : Int) ((r + 1 : Nat) : Int)
  | 0, m, b, k, h => by
    have hl8 := (litS_at r hr).2
    have hpl : p.length = 8 := by rw [hp, List.length_take, List.length_drop, len_list]; omega
    obtain rfl : m = 8 := by omega
    rw [List.drop_of_length_le (by omega), List.drop_of_length_le (by omega), decide_eq_true rfl, Bool.and_true, turnstileref3_Weak.l2, if_neg (by omega), wi r (by omega)]
  | d + 1, m, b, k, h => by
    have hl := litS_at r hr
    have hpl : p.length = 8 := by rw [hp, List.length_take, List.length_drop, len_list]; omega
    have hw : wrap64 (((8 * q : Nat) : Int) + (m : Int)) = ((8 * q + m : Nat) : Int) := by rw [w64_id (by omega) (by omega)]; omega
    have hmp : m < p.length := by omega
    have hml : m < (weakLit r).length := by omega
    have ih := fun b' => rweak_in s q r hq hs hr p hp d (m + 1) b' k (by omega)
    rw [List.drop_eq_getElem_cons hmp, List.drop_eq_getElem_cons hml, show k + (d + 1 + 1) = (k + (d + 1)) + 1 by omega, turnstileref3_Weak.l2, if_pos (by omega)]
    have hdec : decide (hi7 (p[m] :: p.drop (m + 1)) = hi7 ((weakLit r)[m] :: (weakLit r).drop (m + 1))) = (decide (p[m].toNat / 2 = (weakLit r)[m].toNat / 2) && decide (hi7 (p.drop (m + 1)) = hi7 ((weakLit r).drop (m + 1)))) := by
      unfold hi7
      simp only [List.map_cons, List.cons.injEq, Bool.decide_and]
    rw [hdec]
    cases b
    · rw [if_neg (by decide), wi m (by omega), ih false]
      simp
    · have hbs : bt s ((8 * q + m : Nat) : Int) = ((p[m].toNat : Nat) : Int) := by
        rw [bt_list s (8 * q + m) (by rw [len_list]; omega)]
        subst hp
        rw [drop_get s.data.toList (8 * q) m (by rw [len_list]; omega)]
      have hbl : bt (lst (weakLit r)) (m : Int) = (((weakLit r)[m].toNat : Nat) : Int) := by
        rw [bt_list (lst (weakLit r)) m (by rw [lst_list]; omega)]
        rfl
      rw [if_pos rfl, hw, if_pos (by omega), if_pos (by omega), if_pos (by omega), if_pos (show (r : Int) < (litS.length : Int) by show (r : Int) < ((4 : Nat) : Int); omega), if_pos (by omega), hl.1, if_pos (by rw [lst_size]; omega), hbs, hbl, half_byte, wi m (by omega), ih]
      simp [Bool.and_assoc]
theorem rweak_mid (s : ByteArray) (q : Nat) (hq : 8 * q + 8 ≤ s.size) (hs : s.size ≤ 1000) (p : List UInt8) (hp : p = (s.data.toList.drop (8 * q)).take 8) : ∀ (d r k : Nat), r + d = 4 →
    turnstileref3_Weak.l1 (k + (10 * d + 1)) s litS ((8 * q : Nat) : Int) (r : Int) =
      if ((List.range' r d).any fun j => decide (hi7 p = hi7 (weakLit j))) = true then some true else turnstileref3_Weak.l0 k s litS ((8 * (q + 1) : Nat) : Int)
  | 0, r, k, h => by
    have hw : wrap64 (((8 * q : Nat) : Int) + 8) = ((8 * (q + 1) : Nat) : Int) := by rw [w64_id (by omega) (by omega)]; omega
    rw [show k + (10 * 0 + 1) = k + 1 by omega, turnstileref3_Weak.l1, if_neg (by omega), hw]
    simp
  | d + 1, r, k, h => by
    have h2 := rweak_in s q r hq hs (by omega) p hp 8 0 true (k + (10 * d + 1)) (by omega)
    rw [show k + (10 * (d + 1) + 1) = (k + (10 * d + 1)) + (8 + 1) + 1 by omega, turnstileref3_Weak.l1, if_pos (by omega)]
    rw [show ((0 : Nat) : Int) = 0 from rfl] at h2
    rw [h2, rweak_mid s q hq hs p hp d (r + 1) k (by omega), List.range'_succ, List.any_cons, List.drop_zero, List.drop_zero, Bool.true_and]
    by_cases hx : decide (hi7 p = hi7 (weakLit r)) = true
    · rw [if_pos hx, hx, Bool.true_or, if_pos rfl]
    · rw [if_neg hx, Bool.eq_false_iff.2 hx, Bool.false_or]
theorem rweak_go (s : ByteArray) (n : Nat) (hn : s.size = 8 * n) (h3 : n ≤ 3) : ∀ (d q k : Nat), q + d = n → 50 * d < k →
    turnstileref3_Weak.l0 k s litS ((8 * q : Nat) : Int) = some ((List.range' q d).any fun j => weakPart ((s.data.toList.drop (8 * j)).take 8)) := by
  intro d
  induction d with
  | zero =>
    intro q k hq hk
    obtain ⟨k, rfl⟩ : ∃ m, k = m + 1 := ⟨k - 1, by omega⟩
    rw [turnstileref3_Weak.l0, if_neg (by omega)]
    simp
  | succ d ih =>
    intro q k hq hk
    obtain ⟨k, rfl⟩ : ∃ m, k = m + (10 * 4 + 1) + 1 := ⟨k - 42, by omega⟩
    have h1 := rweak_mid s q (by omega) (by omega) _ rfl 4 0 k (by omega)
    rw [show ((0 : Nat) : Int) = 0 from rfl] at h1
    have hpl : ((s.data.toList.drop (8 * q)).take 8).length = 8 := by rw [List.length_take, List.length_drop, len_list]; omega
    have e : ((List.range' 0 4).any fun j => decide (hi7 ((s.data.toList.drop (8 * q)).take 8) = hi7 (weakLit j))) = weakPart ((s.data.toList.drop (8 * q)).take 8) := by
      rw [weakPart_lits _ hpl]
      rfl
    rw [e] at h1
    rw [turnstileref3_Weak.l0, if_pos (by omega), h1, ih (q + 1) k (by omega) (by omega), List.range'_succ, List.any_cons]
    cases weakPart ((s.data.toList.drop (8 * q)).take 8)
    · rw [if_neg (by decide), Bool.false_or]
    · rw [if_pos rfl, Bool.true_or]
theorem refWeak_any (s : ByteArray) (w : World) :
    Calls Tryz.prog 48 #[.string s] w fun e w' => e = .returned (.bool (weakB s.data.toList)) ∧ Below w.heap.size w w' := by
  refine turnstileref3_Weak.calls 1000 s _ w ?_
  have hL : turnstileref3_Length.f s = some (fitsB s) := by
    unfold turnstileref3_Length.f fitsB
    by_cases h1 : s.size = 8
    · rw [if_pos (by omega), decide_eq_true (by omega)]
    · rw [if_neg (by omega)]
      by_cases h2 : s.size = 16
      · rw [if_pos (by omega), decide_eq_true (by omega)]
      · rw [if_neg (by omega)]
        congr 1
        rw [Bool.eq_iff_iff, beq_iff_eq, decide_eq_true_iff]
        omega
  unfold turnstileref3_Weak.f
  rw [hL, Option.bind_some]
  have hf := fits_kind s
  cases hx : fitsB s
  · rw [if_neg (by decide)]
    unfold weakB
    rw [hf.2 hx]
    rfl
  · rw [if_pos rfl]
    have hsz : s.size = 8 ∨ s.size = 16 ∨ s.size = 24 := of_decide_eq_true hx
    have hk := kind_of_size hsz
    have hk3 : kindOf s.data.toList ≤ 3 := by omega
    have := rweak_go s (kindOf s.data.toList) hk.2 hk3 (kindOf s.data.toList) 0 1000 (by omega) (by omega)
    rw [show ((8 * 0 : Nat) : Int) = 0 from rfl] at this
    show turnstileref3_Weak.l0 1000 s litS 0 = _
    rw [this]
    unfold weakB
    rw [List.range_eq_range']

end Go.Proofs.YtopobangjpehnaaGreat.Ref
