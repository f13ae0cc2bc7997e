/- cipher.scheduled: the sixteen round keys of a part, as the document has them. -/
import Derived.Test.YtopobangjpehnaaBase
set_option linter.unusedVariables false
set_option linter.unusedSimpArgs false
namespace Go.Proofs.Ytopobangjpehnaa.Walk
open Go.RowKit Go.Proofs.YtopobangjpehnaaW.PrintWords Go.Proofs.YtopobangjpehnaaW.PrintLast Go.Proofs.YtopobangjpehnaaW.PrintMore Pr Des Num
def halves (key : List Bool) : Nat → List Bool × List Bool
  | 0 => ((sel tK1 key).take 28, (sel tK1 key).drop 28)
  | i + 1 => (rot (shifts.getD i 0) (halves key i).1, rot (shifts.getD i 0) (halves key i).2)
def keyAt (key : List Bool) (i : Nat) : List Bool := sel tK2 ((halves key (i + 1)).1 ++ (halves key (i + 1)).2)
theorem sched_eq (key : List Bool) : sched key = (List.range 16).map (keyAt key) := rfl
theorem halves_length (key : List Bool) (i : Nat) : (halves key i).1.length = 28 ∧ (halves key i).2.length = 28 := by
  induction i with
  | zero => simp [halves, sel_length, tK1]
  | succ i ih => simp only [halves, rot_length]; exact ih
/-- The row of the round keys behind i rounds. -/
def keyCells (key : List Bool) (i : Nat) : Array Value := ((List.range 16).map fun j => if j < i then Value.int .u64 ((num (keyAt key j) : Nat) : Int) else .int .u64 0).toArray
theorem keyCells_size (key : List Bool) (i : Nat) : (keyCells key i).size = 16 := by simp [keyCells]
theorem keyCells_set (key : List Bool) (i : Nat) (h : i < 16) : (keyCells key i).setIfInBounds i (.int .u64 ((num (keyAt key i) : Nat) : Int)) = keyCells key (i + 1) := by
  apply Array.ext
  · simp [keyCells]
  · intro j h1 h2
    simp only [keyCells, List.setIfInBounds_toArray, List.getElem_toArray, List.getElem_set, List.getElem_map, List.getElem_range]
    by_cases e : i = j
    · subst e; simp
    · rw [if_neg e]
      by_cases hj : j < i
      · rw [if_pos hj, if_pos (by omega)]
      · rw [if_neg hj, if_neg (by omega)]

theorem half_int (n : Nat) (s : Int) (l : List Bool) (hl : l.length = 28) (hn : num l = n) (hs : s = 1 ∨ s = 2) (W : World) :
    Calls Try.prog 86 #[.int .u64 (n : Int), .int .i64 s] W fun e w' => e = .returned (.int .u64 ((num (rot s.toNat l) : Nat) : Int)) ∧ Below W.heap.size W w' := by
  have hlt := num_lt l
  have hb := bitsN_num l
  rw [hl] at hlt hb
  subst hn
  rcases hs with rfl | rfl
  · have := half_any (num l) 1 hlt (.inl rfl) W
    rw [hb] at this
    exact this
  · have := half_any (num l) 2 hlt (.inr rfl) W
    rw [hb] at this
    exact this
theorem join_halves (a b : List Bool) (ha : a.length = 28) (hb : b.length = 28) :
    Go.bits .or .u64 (IntKind.u64.wrap (((num a : Nat) : Int) * 268435456)) ((num b : Nat) : Int) = ((num (a ++ b) : Nat) : Int) := by
  have h1 := num_lt a
  have h2 := num_lt b
  have hj := join (num a) (num b) 28 (by rw [hb] at h2; exact h2)
  have he := num_append a b
  rw [ha] at h1
  rw [hb] at h2 he
  rw [show ((num a : Nat) : Int) * 268435456 = ((num a * 2 ^ 28 : Nat) : Int) by simp, u64_id (by omega), or_u64 _ _ (by omega) (by omega), hj, he]
theorem split_halves (l : List Bool) (h : l.length = 56) : ((num l : Nat) : Int) / 268435456 = ((num (l.take 28) : Nat) : Int) ∧ Go.bits .and .u64 ((num l : Nat) : Int) 268435455 = ((num (l.drop 28) : Nat) : Int) := by
  have h1 := num_take_drop 28 l
  have h2 := num_lt (l.drop 28)
  have h3 := num_lt l
  rw [h] at h1 h3
  rw [List.length_drop, h] at h2
  have hm := Nat.and_two_pow_sub_one_eq_mod (num l) 28
  rw [show (2 : Nat) ^ 28 - 1 = 268435455 from rfl] at hm
  constructor
  · omega
  · rw [show (268435455 : Int) = ((268435455 : Nat) : Int) from rfl, and_u64 _ _ (by omega) (by decide), hm]
    congr 1
    omega
theorem shift_at (i : Nat) (h : i < 16) : shifts.getD i 0 = if i = 0 ∨ i = 1 ∨ i = 8 ∨ i = 15 then 1 else 2 := by
  revert i; decide

set_option maxHeartbeats 1000000 in
set_option maxRecDepth 100000 in
theorem scheduled_calls (s : ByteArray) (hs : s.size = 8) (w : World) :
    Calls Try.prog 58 #[.string s] w fun e w' => e = .returned (.agg (keyCells (bitsB s.data.toList) 16)) ∧ Below w.heap.size w w' := by
  have hlen : (bitsB s.data.toList).length = 64 := by rw [bitsB_length, Array.length_toList]; show 8 * s.size = 64; omega
  have htake : s.data.toList.take 8 = s.data.toList := List.take_of_length_le (by rw [Array.length_toList]; show s.size ≤ 8; omega)
  have hN := number_any s (by omega)
  rw [htake] at hN
  have hnlt : num (bitsB s.data.toList) < 2 ^ 64 := by have := num_lt (bitsB s.data.toList); rwa [hlen] at this
  have hbits : bitsN 64 (num (bitsB s.data.toList)) = bitsB s.data.toList := by have := bitsN_num (bitsB s.data.toList); rwa [hlen] at this
  generalize bitsB s.data.toList = key at *
  have HN := Aside0.mk hN
  have HL := Aside0.mk hnlt
  have HB := Aside0.mk hbits
  clear hs hlen htake hN hnlt hbits
  go_enter Try.func58, Try.ntmps58
  go_wp2_with fail
  refine (first_any _).mono ?_
  rintro e w1 ⟨A1, c1, rfl, hC1, hc1, hb1⟩
  have G2 := Aside0.mk (((Blk.new w 69 (keyCells key 0)).alloc (.cells (keyCells key 0) 69)).step hb1)
  have G3 := Aside0.mk (by have := (Blk.new (w.alloc (.cells (keyCells key 0) 69)) 69 (keyCells key 0)).step hb1; rwa [size_alloc] at this)
  have B1 := Aside0.mk ((((Below.refl w.heap.size w).alloc (Nat.le_refl _) (.cells (keyCells key 0) 69)).alloc (by simp) (.cells (keyCells key 0) 69)).trans (hb1.mono (by simp; omega)))
  have C1 := Aside0.mk hC1
  have D1 := Aside0.mk hc1
  clear hb1 hC1 hc1
  go_wp2_with fail
  refine (HN.out _).mono ?_
  rintro e w2 ⟨rfl, hb2⟩
  replace G2 := Aside0.mk (G2.out.step hb2)
  replace G3 := Aside0.mk (G3.out.step hb2)
  replace B1 := Aside0.mk (B1.out.trans (hb2.mono B1.out.size))
  replace C1 := Aside0.mk (Kd.C_below C1.out hb2)
  clear hb2 HN
  go_wp2_with fail
  refine (take_any tK1 56 64 _ rfl (by decide) (by decide) HL.out (by decide) A1 c1 _ C1.out D1.out).mono ?_
  rintro e w3 ⟨rfl, hb3⟩
  replace G2 := Aside0.mk (G2.out.step hb3)
  replace G3 := Aside0.mk (G3.out.step hb3)
  replace B1 := Aside0.mk (B1.out.trans (hb3.mono B1.out.size))
  clear hb3 C1 D1
  rw [HB.out]
  go_wp2_with fail
  have HS1 := Aside0.mk (split_halves (sel tK1 key) (by rw [sel_length]; rfl))
  rw [HS1.out.1, HS1.out.2]
  go_loopw [5, 6, 17] (fun v5 v6 v17 wr => ∃ i : Nat, i ≤ 16 ∧ v17 = .int .i64 i ∧ v5 = .int .u64 ((num (halves key i).1 : Nat) : Int) ∧ v6 = .int .u64 ((num (halves key i).2 : Nat) : Int) ∧
      Aside0 (Blk wr w.heap.size 69 (keyCells key 0)) ∧ Aside0 (Blk wr (w.heap.size + 1) 69 (keyCells key i)) ∧ Aside0 (Below w.heap.size w wr)) (fun _ _ i _ => 16 - (intOf i).toNat)
  case atStart => exact ⟨0, by omega, rfl, rfl, rfl, G2, G3, B1⟩
  case round =>
    clear G2 G3 B1
    obtain ⟨i, hi, rfl, rfl, rfl, G2, G3, B1⟩ := hrel
    by_cases hlt : i < 16
    · have hl1 := Aside0.mk (halves_length key i)
      have hl2 := Aside0.mk (halves_length key (i + 1))
      have hfive : ∃ s : Int, Aside0 ((s = 1 ∨ s = 2) ∧ s.toNat = shifts.getD i 0) ∧ (s = 1 ∧ ((i : Int) == 0) = true ∨ s = 1 ∧ ((i : Int) == 0) = false ∧ ((i : Int) == 1) = true ∨ s = 1 ∧ ((i : Int) == 0) = false ∧ ((i : Int) == 1) = false ∧ ((i : Int) == 8) = true ∨
          s = 1 ∧ ((i : Int) == 0) = false ∧ ((i : Int) == 1) = false ∧ ((i : Int) == 8) = false ∧ ((i : Int) == 15) = true ∨ s = 2 ∧ ((i : Int) == 0) = false ∧ ((i : Int) == 1) = false ∧ ((i : Int) == 8) = false ∧ ((i : Int) == 15) = false) := by
        have := shift_at i hlt
        simp only [beq_iff_eq, beq_eq_false_iff_ne]
        by_cases h : i = 0 ∨ i = 1 ∨ i = 8 ∨ i = 15
        · rw [if_pos h] at this
          exact ⟨1, ⟨.inl rfl, by rw [this]; rfl⟩, by omega⟩
        · rw [if_neg h] at this
          exact ⟨2, ⟨.inr rfl, by rw [this]; rfl⟩, by omega⟩
      obtain ⟨s1, HS2, hfive⟩ := hfive
      have HA : Aside0 (∀ W : World, Calls Try.prog 86 #[.int .u64 ((num (halves key i).1 : Nat) : Int), .int .i64 s1] W fun e w' => e = .returned (.int .u64 ((num (halves key (i + 1)).1 : Nat) : Int)) ∧ Below W.heap.size W w') :=
        ⟨fun W => by have := half_int _ s1 (halves key i).1 hl1.out.1 rfl HS2.out.1 W; rw [HS2.out.2] at this; exact this⟩
      have HB2 : Aside0 (∀ W : World, Calls Try.prog 86 #[.int .u64 ((num (halves key i).2 : Nat) : Int), .int .i64 s1] W fun e w' => e = .returned (.int .u64 ((num (halves key (i + 1)).2 : Nat) : Int)) ∧ Below W.heap.size W w') :=
        ⟨fun W => by have := half_int _ s1 (halves key i).2 hl1.out.2 rfl HS2.out.1 W; rw [HS2.out.2] at this; exact this⟩
      have HJ := Aside0.mk (join_halves (halves key (i + 1)).1 (halves key (i + 1)).2 hl2.out.1 hl2.out.2)
      have HK : Aside0 (num ((halves key (i + 1)).1 ++ (halves key (i + 1)).2) < 2 ^ 64 ∧ bitsN 56 (num ((halves key (i + 1)).1 ++ (halves key (i + 1)).2)) = (halves key (i + 1)).1 ++ (halves key (i + 1)).2) := by
        have h1 := num_lt ((halves key (i + 1)).1 ++ (halves key (i + 1)).2)
        have h2 := bitsN_num ((halves key (i + 1)).1 ++ (halves key (i + 1)).2)
        rw [List.length_append, hl2.out.1, hl2.out.2] at h1 h2
        exact ⟨Nat.lt_of_lt_of_le h1 (by decide), h2⟩
      have hcell : ∃ v0, (keyCells key i)[i]? = some v0 := ⟨_, Array.getElem?_eq_getElem (by rw [keyCells_size]; exact hlt)⟩
      obtain ⟨v0, hcell⟩ := hcell
      have HC := Aside0.mk hcell
      have HW := Aside0.mk (keyCells_set key i hlt)
      clear hcell
      rcases hfive with ⟨rfl, b0⟩ | ⟨rfl, b0, b1⟩ | ⟨rfl, b0, b1, b8⟩ | ⟨rfl, b0, b1, b8, b15⟩ | ⟨rfl, b0, b1, b8, b15⟩
      all_goals
        go_wp2_with fail
        refine (HA.out _).mono ?_
        rintro e w4 ⟨rfl, hb4⟩
        replace G2 := Aside0.mk (G2.out.step hb4)
        replace G3 := Aside0.mk (G3.out.step hb4)
        replace B1 := Aside0.mk (B1.out.trans (hb4.mono B1.out.size))
        clear hb4
        go_wp2_with fail
        refine (HB2.out _).mono ?_
        rintro e w5 ⟨rfl, hb5⟩
        replace G2 := Aside0.mk (G2.out.step hb5)
        replace G3 := Aside0.mk (G3.out.step hb5)
        replace B1 := Aside0.mk (B1.out.trans (hb5.mono B1.out.size))
        clear hb5
        go_wp2_with fail
      all_goals
        refine (second_any _).mono ?_
        rintro e w6 ⟨A6, c6, rfl, hC6, hc6, hb6⟩
        replace G2 := Aside0.mk (G2.out.step hb6)
        replace G3 := Aside0.mk (G3.out.step hb6)
        replace B1 := Aside0.mk (B1.out.trans (hb6.mono B1.out.size))
        have C6 := Aside0.mk hC6
        have D6 := Aside0.mk hc6
        clear hb6 hC6 hc6
        go_wp2_with fail
        rw [HJ.out]
        refine (take_any tK2 48 56 _ rfl (by decide) (by decide) HK.out.1 (by decide) A6 c6 _ C6.out D6.out).mono ?_
        rintro e w7 ⟨rfl, hb7⟩
        rw [HK.out.2]
        replace G2 := Aside0.mk (G2.out.step hb7)
        replace G3 := Aside0.mk (G3.out.step hb7)
        replace B1 := Aside0.mk (B1.out.trans (hb7.mono B1.out.size))
        clear hb7 C6 D6
        have q1 : w7.cell? ⟨w.heap.size + 1, i, none⟩ = some v0 := (G3.out.cell i).trans HC.out
        have q2 : w7.frozen? ⟨w.heap.size + 1, i, none⟩ = false := G3.out.frozen i
        go_wp2
        go_roundw
        case rel => exact ⟨i + 1, by omega, by go_num, rfl, rfl, ⟨G2.out.far (by simp) _⟩, ⟨by have := G3.out.set_ i (.int .u64 ((num (keyAt key i) : Nat) : Int)); rw [HW.out] at this; exact this⟩, ⟨B1.out.setCell (by simp) _⟩⟩
        case measure => simp [intOf]; omega
    · obtain rfl : i = 16 := by omega
      have hone : ∀ v ∈ (keyCells key 16).toList, v.oneCell' = true := by
        intro v hv
        simp only [keyCells, List.toList_toArray, List.mem_map, List.mem_range] at hv
        obtain ⟨j, hj, rfl⟩ := hv
        rw [if_pos hj]; rfl
      have HO := Aside0.mk hone
      clear hone
      have HSZ := Aside0.mk (keyCells_size key 0)
      have HSY := Aside0.mk (keyCells_size key 16)
      have HT := Aside0.mk (extract_whole HSY.out)
      go_wp2_with (first | (refine wpList_load_part rfl 69 (.tmp 3) rfl rfl G3.out (o := 0) (n := 16) (Nat.le_of_eq HSY.out.symm) Try.underlying69 rfl size69 ?_; rw [HT.out]) | (refine wpList_store_part rfl 69 (.tmp 2) (.tmp 49) rfl (o := 0) rfl rfl G2.out (by rw [HSZ.out, HSY.out]; decide) (by rw [HSY.out]; exact size69) HO.out ?_))
      rw [row_whole (HSZ.out.trans HSY.out.symm)]
      refine bodyPost_ret (results_cell_row rfl _ _ w.heap.size 69 (keyCells key 16) (0, 0) _ rfl (G2.out.setRow _) Try.underlying69 rfl (by rw [HSY.out]; exact size69)) rfl ⟨rfl, below_setRow' B1.out (Nat.le_refl _) _⟩
end Go.Proofs.Ytopobangjpehnaa.Walk
