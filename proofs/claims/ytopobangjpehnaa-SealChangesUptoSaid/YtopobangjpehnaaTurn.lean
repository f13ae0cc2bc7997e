/- cipher.(*Block).turn: a block under a whole key. -/
import Derived.Test.YtopobangjpehnaaOne
set_option linter.unusedVariables false
set_option linter.unusedSimpArgs false
namespace Go.Proofs.Ytopobangjpehnaa.Walk
open Go.RowKit Go.Proofs.YtopobangjpehnaaW.PrintWords Go.Proofs.YtopobangjpehnaaW.PrintLast Go.Proofs.YtopobangjpehnaaW.PrintMore Pr Des Num

theorem keyCells_get (key : List Bool) (m : Nat) (h : m < 16) : (keyCells key 16)[m]? = some (.int .u64 ((num (keyAt key m) : Nat) : Int)) := by
  simp [keyCells, h]
theorem keyBlock_get (key : List UInt8) (k m : Nat) (hk : k < 3) (hm : m < 16) (hd : kindOf key = 1 → k = 0) :
    (keyBlock key)[k * 16 + m]? = some (.int .u64 ((num (keyAt (partOf key k) m) : Nat) : Int)) := by
  unfold keyBlock
  by_cases h1 : kindOf key = 1
  · obtain rfl := hd h1
    have h0 : partOf key 0 = partAt key 0 := by unfold partOf; rw [if_neg (by omega)]
    rw [if_pos h1, h0, Array.append_assoc, Array.append_assoc, Array.getElem?_append_left (by rw [keyCells_size]; omega), Nat.zero_mul, Nat.zero_add, keyCells_get _ _ hm]
  · rw [if_neg h1]
    have h3 : k = 0 ∨ k = 1 ∨ k = 2 := by omega
    rcases h3 with rfl | rfl | rfl
    · rw [Array.append_assoc, Array.append_assoc, Array.getElem?_append_left (by rw [keyCells_size]; omega), Nat.zero_mul, Nat.zero_add, keyCells_get _ _ hm]
    · rw [Array.append_assoc, Array.append_assoc, Array.getElem?_append_right (by rw [keyCells_size]; omega), keyCells_size, Array.getElem?_append_left (by rw [keyCells_size]; omega), show 1 * 16 + m - 16 = m by omega, keyCells_get _ _ hm]
    · rw [Array.append_assoc, Array.getElem?_append_right (by rw [Array.size_append, keyCells_size, keyCells_size]; omega), Array.size_append, keyCells_size, keyCells_size, Array.getElem?_append_left (by rw [keyCells_size]; omega), show 2 * 16 + m - (16 + 16) = m by omega, keyCells_get _ _ hm]
theorem keyBlock_kind (key : List UInt8) : (keyBlock key)[48]? = some (.int .i64 ((kindOf key : Nat) : Int)) := by
  unfold keyBlock
  by_cases h1 : kindOf key = 1
  · rw [if_pos h1, h1, Array.getElem?_append_right (by simp only [Array.size_append, keyCells_size]; decide)]
    simp only [Array.size_append, keyCells_size]
    rfl
  · rw [if_neg h1, Array.getElem?_append_right (by simp only [Array.size_append, keyCells_size]; decide)]
    simp only [Array.size_append, keyCells_size]
    rfl

/-- A block behind so many parts. -/
def stage (key : List UInt8) (back : Bool) (x : List Bool) : Nat → List Bool
  | 0 => x
  | i + 1 => oneB (partOf key (if back then 2 - i else i)) (back != (i == 1)) (stage key back x i)
/-- A block under a whole key. -/
def turnB (key : List UInt8) (back : Bool) (x : List Bool) : List Bool :=
  if kindOf key = 1 then oneB (partOf key 0) back x else stage key back x 3
theorem oneB_length (key : List Bool) (back : Bool) (x : List Bool) : (oneB key back x).length = 64 := des_length _ _
theorem stage_length (key : List UInt8) (back : Bool) (x : List Bool) (hx : x.length = 64) (i : Nat) : (stage key back x i).length = 64 := by
  cases i with
  | zero => exact hx
  | succ i => exact oneB_length _ _ _
theorem turnB_length (key : List UInt8) (back : Bool) (x : List Bool) (hx : x.length = 64) : (turnB key back x).length = 64 := by
  unfold turnB
  split
  · exact oneB_length _ _ _
  · exact stage_length _ _ _ hx 3
theorem num64 (l : List Bool) (h : l.length = 64) : num l < 2 ^ 64 ∧ bitsN 64 (num l) = l := by
  have h1 := num_lt l
  have h2 := bitsN_num l
  rw [h] at h1 h2
  exact ⟨h1, h2⟩

set_option maxHeartbeats 2000000 in
set_option maxRecDepth 100000 in
theorem turn_calls (g : Nat) (key : List UInt8) (n : Nat) (hn : n < 2 ^ 64) (back : Bool) (w : World) (hg : Blk w g 72 (keyBlock key)) :
    Calls Try.prog 66 #[.pointer (some ⟨g, 0, none⟩), .int .u64 (n : Int), .bool back] w fun e w' => e = .returned (.int .u64 ((num (turnB key back (bitsN 64 n)) : Nat) : Int)) ∧ Below w.heap.size w w' := by
  have hone : ∀ (k : Nat) (bk : Bool) (y : List Bool) (W : World), k < 3 → (kindOf key = 1 → k = 0) → y.length = 64 → Below w.heap.size w W →
      Calls Try.prog 90 #[.pointer (some ⟨g, k * 16, none⟩), .int .u64 ((num y : Nat) : Int), .bool bk] W fun e w' => e = .returned (.int .u64 ((num (oneB (partOf key k) bk y) : Nat) : Int)) ∧ Below W.heap.size W w' := by
    intro k bk y W hk hd hy hB
    have := one_calls g (k * 16) (partOf key k) (num y) (num64 y hy).1 bk W (fun i hi => by rw [(hg.step hB).cell, keyBlock_get key k i hk hi hd])
    rw [(num64 y hy).2] at this
    exact this
  have HO := Aside0.mk hone
  have hx : (bitsN 64 n).length = 64 := bitsN_length _ _
  have hnum : num (bitsN 64 n) = n := by rw [num_bitsN, Nat.mod_eq_of_lt hn]
  generalize bitsN 64 n = x at *
  subst hnum
  have q48 : w.cell? ⟨g, 48, none⟩ = some (.int .i64 ((kindOf key : Nat) : Int)) := (hg.cell 48).trans (keyBlock_kind key)
  have HX := Aside0.mk hx
  clear hone hg hn hx
  by_cases hk : kindOf key = 1
  · have HT : Aside0 (turnB key back x = oneB (partOf key 0) back x) := ⟨by unfold turnB; rw [if_pos hk]⟩
    rw [HT.out]
    have q1 : w.cell? ⟨g, 48, none⟩ = some (.int .i64 1) := by rw [q48, hk]; rfl
    clear q48 hk
    go_enter Try.func66, Try.ntmps66
    go_wp2_with fail
    refine (HO.out 0 back x _ (by decide) (fun _ => rfl) HX.out (Below.refl _ _)).mono ?_
    rintro e w1 ⟨rfl, hb1⟩
    have B1 := Aside0.mk hb1
    clear hb1
    go_wp2_with fail
    go_ret
    exact ⟨rfl, B1.out⟩
  · have HT : Aside0 (turnB key back x = stage key back x 3) := ⟨by unfold turnB; rw [if_neg hk]⟩
    rw [HT.out]
    have hb : (((kindOf key : Nat) : Int) == 1) = false := by rw [beq_eq_false_iff_ne]; omega
    have HK := Aside0.mk hk
    clear hk
    generalize kindOf key = kd at q48 hb
    go_enter Try.func66, Try.ntmps66
    go_wp2_with fail
    go_loopw [1, 21] (fun v1 v21 wr => ∃ i : Nat, i ≤ 3 ∧ v21 = .int .i64 i ∧ v1 = .int .u64 ((num (stage key back x i) : Nat) : Int) ∧ Aside0 (Below w.heap.size w wr)) (fun _ i _ => 3 - (intOf i).toNat)
    case atStart => exact ⟨0, by omega, rfl, rfl, ⟨Below.refl _ _⟩⟩
    case round =>
      obtain ⟨i, hi, rfl, rfl, B1⟩ := hrel
      by_cases hlt : i < 3
      · cases back
        · have hO := HO.out i (false != (i == 1)) (stage key false x i) wr (by omega) (fun h => absurd h HK.out) (stage_length _ _ _ HX.out i) B1.out
          have e1 : (false != (i == 1)) = ((i : Int) == 1) := by rw [Bool.eq_iff_iff]; simp; omega
          have e2 : stage key false x (i + 1) = oneB (partOf key i) (false != (i == 1)) (stage key false x i) := rfl
          rw [← e2, e1] at hO
          have HO2 := Aside0.mk hO
          clear hO e1 e2
          go_wp2_with fail
          refine HO2.out.mono ?_
          rintro e w1 ⟨rfl, hb1⟩
          replace B1 := Aside0.mk (B1.out.trans (hb1.mono B1.out.size))
          clear hb1 HO2
          go_wp2_with fail
          go_roundw
          case rel => exact ⟨i + 1, by omega, by go_num, rfl, B1⟩
          case measure => simp [intOf]; omega
        · have hO := HO.out (2 - i) (true != (i == 1)) (stage key true x i) wr (by omega) (fun h => absurd h HK.out) (stage_length _ _ _ HX.out i) B1.out
          have e1 : (true != (i == 1)) = !((i : Int) == 1) := by rw [Bool.eq_iff_iff]; simp; omega
          have e2 : stage key true x (i + 1) = oneB (partOf key (2 - i)) (true != (i == 1)) (stage key true x i) := rfl
          rw [← e2, e1] at hO
          have HO2 := Aside0.mk hO
          clear hO e1 e2
          go_wp2_with fail
          refine HO2.out.mono ?_
          rintro e w1 ⟨rfl, hb1⟩
          replace B1 := Aside0.mk (B1.out.trans (hb1.mono B1.out.size))
          clear hb1 HO2
          go_wp2_with fail
          go_roundw
          case rel => exact ⟨i + 1, by omega, by go_num, rfl, B1⟩
          case measure => simp [intOf]; omega
      · obtain rfl : i = 3 := by omega
        go_wp2_with fail
        go_ret
        exact ⟨rfl, B1.out⟩
end Go.Proofs.Ytopobangjpehnaa.Walk
