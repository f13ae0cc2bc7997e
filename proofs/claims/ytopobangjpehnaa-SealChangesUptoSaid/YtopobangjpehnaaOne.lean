/- cipher.(*schedule).one: a block under a part, as the document has it. -/
import Derived.Test.YtopobangjpehnaaNew
set_option linter.unusedVariables false
set_option linter.unusedSimpArgs false
namespace Go.Proofs.Ytopobangjpehnaa.Walk
open Go.RowKit Go.Proofs.YtopobangjpehnaaW.PrintWords Go.Proofs.YtopobangjpehnaaW.PrintLast Go.Proofs.YtopobangjpehnaaW.PrintMore Pr Des Num

/-! ### One block under a part -/
theorem num_testBit (l : List Bool) (j : Nat) (h : j < l.length) : (num l).testBit j = l.getD (l.length - 1 - j) false := by
  have h1 := bitsN_getD l.length (num l) (l.length - 1 - j) (by omega)
  rw [bitsN_num] at h1
  rw [h1]; congr 1; omega
theorem num_xo (a b : List Bool) (h : a.length = b.length) : num (xo a b) = num a ^^^ num b := by
  apply Nat.eq_of_testBit_eq
  intro j
  have hl : (xo a b).length = a.length := by rw [xo_length, h]; omega
  rw [Nat.testBit_xor]
  by_cases hj : j < a.length
  · rw [num_testBit _ _ (by omega), num_testBit _ _ hj, num_testBit _ _ (by omega), hl, ← h]
    have hi : a.length - 1 - j < a.length := by omega
    generalize a.length - 1 - j = i at *
    simp only [xo, List.getD_eq_getElem?_getD, List.getElem?_zipWith, List.getElem?_eq_getElem hi, List.getElem?_eq_getElem (show i < b.length by omega)]
    rfl
  · have big : ∀ l : List Bool, l.length ≤ j → (num l).testBit j = false := fun l hlj => Nat.testBit_lt_two_pow (Nat.lt_of_lt_of_le (num_lt l) (Nat.pow_le_pow_right (by decide) hlj))
    rw [big _ (by omega), big _ (by omega), big _ (by omega)]; rfl

/-- The round keys in the order in which they are used. -/
def order (key : List Bool) (back : Bool) : List (List Bool) := if back then (sched key).reverse else sched key
def oneB (key : List Bool) (back : Bool) (x : List Bool) : List Bool := des (order key back) x
theorem order_length (key : List Bool) (back : Bool) : (order key back).length = 16 := by
  unfold order; split
  · rw [List.length_reverse, sched_length]
  · exact sched_length key
theorem order_get (key : List Bool) (back : Bool) (i : Nat) (h : i < 16) : (order key back)[i]'(by rw [order_length]; exact h) = keyAt key (if back then 15 - i else i) := by
  cases back
  · simp only [order, sched_eq, Bool.false_eq_true, if_false]; simp
  · simp only [order, sched_eq, if_true]
    rw [List.getElem_reverse]
    simp
def st (key : List Bool) (back : Bool) (x : List Bool) (i : Nat) : List Bool × List Bool := rounds ((order key back).take i) ((sel tIn x).take 32) ((sel tIn x).drop 32)
theorem st_length (key : List Bool) (back : Bool) (x : List Bool) (i : Nat) : (st key back x i).1.length = 32 ∧ (st key back x i).2.length = 32 := by
  have hy : (sel tIn x).length = 64 := by rw [sel_length]; rfl
  exact rounds_length _ _ _ (by simp [hy]) (by simp [hy])
theorem st_succ (key : List Bool) (back : Bool) (x : List Bool) (i : Nat) (h : i < 16) :
    st key back x (i + 1) = ((st key back x i).2, xo (st key back x i).1 (F (st key back x i).2 (keyAt key (if back then 15 - i else i)))) := by
  unfold st
  rw [List.take_succ_eq_append_getElem (by rw [order_length]; exact h), rounds_append, order_get key back i h]
  rfl
theorem st_last (key : List Bool) (back : Bool) (x : List Bool) : oneB key back x = sel tOut ((st key back x 16).2 ++ (st key back x 16).1) := by
  unfold oneB des st
  rw [List.take_of_length_le (by rw [order_length]; exact Nat.le_refl _)]
theorem keyAt_lt (key : List Bool) (i : Nat) : num (keyAt key i) < 2 ^ 48 ∧ bitsN 48 (num (keyAt key i)) = keyAt key i := by
  have hl : (keyAt key i).length = 48 := by unfold keyAt; rw [sel_length]; rfl
  have h1 := num_lt (keyAt key i)
  have h2 := bitsN_num (keyAt key i)
  rw [hl] at h1 h2
  exact ⟨h1, h2⟩
/-- The mixed half, and the sum with the other one. -/
theorem mixed_sum (l r k : List Bool) (hl : l.length = 32) (hr : r.length = 32) (hk : num k < 2 ^ 48 ∧ bitsN 48 (num k) = k) :
    (∀ (A : Option Addr) (c : Nat) (W : World), Kd.C (Kd.int .u8) W A 32 (ns tP) → 32 ≤ c → Calls Try.prog 107 #[.int .u32 ((num r : Nat) : Int), .int .u64 ((num k : Nat) : Int), .slice A 32 c] W fun e w' => e = .returned (.int .u32 ((num (F r k) : Nat) : Int)) ∧ Below W.heap.size W w') ∧
      Go.bits .xor .u32 ((num l : Nat) : Int) ((num (F r k) : Nat) : Int) = ((num (xo l (F r k)) : Nat) : Int) := by
  have h1 := num_lt r
  have h2 := bitsN_num r
  have h3 := num_lt l
  have h4 := num_lt (F r k)
  rw [hr] at h1 h2
  rw [hl] at h3
  rw [F_length] at h4
  constructor
  · intro A c W hC hc
    have := mixed_any (num r) (num k) h1 hk.1 A c W hC hc
    rw [h2, hk.2] at this
    exact this
  · rw [xor_u32 _ _ h3 h4, num_xo _ _ (by rw [hl, F_length])]
theorem split64 (y : List Bool) (h : y.length = 64) : ((num y : Nat) : Int) / 4294967296 % 4294967296 = ((num (y.take 32) : Nat) : Int) ∧ ((num y : Nat) : Int) % 4294967296 = ((num (y.drop 32) : Nat) : Int) := by
  have h1 := num_take_drop 32 y
  have h2 := num_lt (y.drop 32)
  have h3 := num_lt y
  rw [h] at h1 h3
  rw [List.length_drop, h] at h2
  omega
theorem join64 (a b : List Bool) (ha : a.length = 32) (hb : b.length = 32) :
    Go.bits .or .u64 (IntKind.u64.wrap (IntKind.u64.wrap ((num a : Nat) : Int) * 4294967296)) (IntKind.u64.wrap ((num b : Nat) : Int)) = ((num (a ++ b) : Nat) : Int) ∧ num (a ++ b) < 2 ^ 64 ∧ bitsN 64 (num (a ++ b)) = a ++ b := by
  have h1 := num_lt a
  have h2 := num_lt b
  have hj := join (num a) (num b) 32 (by rw [hb] at h2; exact h2)
  have he := num_append a b
  have h5 := num_lt (a ++ b)
  have h6 := bitsN_num (a ++ b)
  rw [List.length_append, ha, hb] at h5 h6
  rw [ha] at h1
  rw [hb] at h2 he
  refine ⟨?_, h5, h6⟩
  rw [u64_id (show num a < 2 ^ 64 by omega), u64_id (show num b < 2 ^ 64 by omega), show ((num a : Nat) : Int) * 4294967296 = ((num a * 2 ^ 32 : Nat) : Int) by simp, u64_id (by omega), or_u64 _ _ (by omega) (by omega), hj, he]

set_option maxHeartbeats 2000000 in
set_option maxRecDepth 100000 in
theorem one_calls (g off : Nat) (key : List Bool) (n : Nat) (hn : n < 2 ^ 64) (back : Bool) (w : World) (hc : ∀ i, i < 16 → w.cell? ⟨g, off + i, none⟩ = some (.int .u64 ((num (keyAt key i) : Nat) : Int))) :
    Calls Try.prog 90 #[.pointer (some ⟨g, off, none⟩), .int .u64 (n : Int), .bool back] w fun e w' => e = .returned (.int .u64 ((num (oneB key back (bitsN 64 n)) : Nat) : Int)) ∧ Below w.heap.size w w' := by
  have HC := Aside0.mk hc
  have hg : g < w.heap.size := World.block_lt_of_cell? w _ (hc 0 (by decide))
  have HG := Aside0.mk hg
  have hT := fun A c W hC hc => take_any tIn 64 64 n rfl (by decide) (by decide) hn (by decide) A c W hC hc
  generalize bitsN 64 n = x at *
  have HT0 := Aside0.mk hT
  clear hc hg hn hT
  go_enter Try.func90, Try.ntmps90
  go_wp2_with fail
  refine (enter_any _).mono ?_
  rintro e w1 ⟨A1, c1, rfl, hC1, hc1, hb1⟩
  have B1 := Aside0.mk hb1
  have C1 := Aside0.mk hC1
  have D1 := Aside0.mk hc1
  clear hb1 hC1 hc1
  go_wp2_with fail
  refine (HT0.out A1 c1 _ C1.out D1.out).mono ?_
  rintro e w2 ⟨rfl, hb2⟩
  replace B1 := Aside0.mk (B1.out.trans (hb2.mono B1.out.size))
  clear hb2 C1 D1 HT0
  go_wp2_with fail
  refine (spread_any _).mono ?_
  rintro e w3 ⟨A3, c3, rfl, hC3, hc3, hb3⟩
  replace B1 := Aside0.mk (B1.out.trans (hb3.mono B1.out.size))
  have C3 := Aside0.mk hC3
  have D3 := Aside0.mk hc3
  clear hb3 hC3 hc3
  have S1 := split64 (sel tIn x) (by rw [sel_length]; rfl)
  rw [S1.1, S1.2]
  clear S1
  go_wp2_with fail
  go_loopw [7, 8, 21] (fun v7 v8 v21 wr => ∃ i : Nat, i ≤ 16 ∧ v21 = .int .i64 i ∧ v7 = .int .u32 ((num (st key back x i).1 : Nat) : Int) ∧ v8 = .int .u32 ((num (st key back x i).2 : Nat) : Int) ∧
      Aside0 (Kd.C (Kd.int .u8) wr A3 32 (ns tP)) ∧ Aside0 (Below w.heap.size w wr)) (fun _ _ i _ => 16 - (intOf i).toNat)
  case atStart => exact ⟨0, by omega, rfl, rfl, rfl, C3, B1⟩
  case round =>
    clear C3 B1
    obtain ⟨i, hi, rfl, rfl, rfl, C3, B1⟩ := hrel
    by_cases hlt : i < 16
    · have HL := Aside0.mk (st_length key back x i)
      have hM := mixed_sum (st key back x i).1 (st key back x i).2 (keyAt key (if back then 15 - i else i)) HL.out.1 HL.out.2 (keyAt_lt _ _)
      have HS := Aside0.mk (st_succ key back x i hlt)
      have hcell : wr.cell? ⟨g, off + (if back then 15 - i else i), none⟩ = some (.int .u64 ((num (keyAt key (if back then 15 - i else i)) : Nat) : Int)) :=
        (B1.out.cell (p := ⟨g, _, none⟩) HG.out).trans (HC.out _ (by cases back <;> simp <;> omega))
      have hcell2 : wr.cell? ⟨g, off + i, none⟩ = some (.int .u64 ((num (keyAt key i) : Nat) : Int)) :=
        (B1.out.cell (p := ⟨g, _, none⟩) HG.out).trans (HC.out _ hlt)
      cases back
      · simp only [Bool.false_eq_true, if_false] at hM hcell
        have HM := Aside0.mk hM
        clear hM hcell2
        go_wp2_with fail
        refine (HM.out.1 A3 c3 _ C3.out D3.out).mono ?_
        rintro e w4 ⟨rfl, hb4⟩
        replace C3 := Aside0.mk (Kd.C_below C3.out hb4)
        replace B1 := Aside0.mk (B1.out.trans (hb4.mono B1.out.size))
        clear hb4 hcell
        have hx := HM.out.2
        go_wp2_with fail
        go_roundw
        case rel => exact ⟨i + 1, by omega, by go_num, by rw [HS.out], by rw [HS.out]; rfl, C3, B1⟩
        case measure => simp [intOf]; omega
      · simp only [if_true] at hM hcell
        have HM := Aside0.mk hM
        clear hM
        have hj : ((15 : Int) - (i : Int)).toNat = 15 - i := by omega
        have hj0 : (0 : Int) ≤ (15 : Int) - (i : Int) := by omega
        go_wp2_with fail
        refine (HM.out.1 A3 c3 _ C3.out D3.out).mono ?_
        rintro e w4 ⟨rfl, hb4⟩
        replace C3 := Aside0.mk (Kd.C_below C3.out hb4)
        replace B1 := Aside0.mk (B1.out.trans (hb4.mono B1.out.size))
        clear hb4 hcell hcell2
        have hx := HM.out.2
        go_wp2_with fail
        go_roundw
        case rel => exact ⟨i + 1, by omega, by go_num, by rw [HS.out], by rw [HS.out]; rfl, C3, B1⟩
        case measure => simp [intOf]; omega
    · obtain rfl : i = 16 := by omega
      have HL := Aside0.mk (st_length key back x 16)
      have HJ := Aside0.mk (join64 (st key back x 16).2 (st key back x 16).1 HL.out.2 HL.out.1)
      have HT := Aside0.mk (st_last key back x)
      go_wp2_with fail
      refine (leave_any _).mono ?_
      rintro e w4 ⟨A4, c4, rfl, hC4, hc4, hb4⟩
      have C4 := Aside0.mk hC4
      have D4 := Aside0.mk hc4
      replace B1 := Aside0.mk (B1.out.trans (hb4.mono B1.out.size))
      clear hb4 hC4 hc4
      go_wp2_with fail
      rw [HJ.out.1]
      refine (take_any tOut 64 64 _ rfl (by decide) (by decide) HJ.out.2.1 (by decide) A4 c4 _ C4.out D4.out).mono ?_
      rintro e w5 ⟨rfl, hb5⟩
      rw [HJ.out.2.2, ← HT.out]
      replace B1 := Aside0.mk (B1.out.trans (hb5.mono B1.out.size))
      clear hb5
      go_wp2_with fail
      go_ret
      exact ⟨rfl, B1.out⟩
end Go.Proofs.Ytopobangjpehnaa.Walk
