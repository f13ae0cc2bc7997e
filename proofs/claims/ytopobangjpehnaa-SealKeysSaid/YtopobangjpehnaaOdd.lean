/- cipher.Odd: each byte's lowest bit such that its ones are odd. -/
import Derived.Test.YtopobangjpehnaaWeak
set_option linter.unusedVariables false
set_option linter.unusedSimpArgs false
namespace Go.Proofs.Ytopobangjpehnaa.Walk
open Go.RowKit Go.Proofs.YtopobangjpehnaaW.PrintWords Go.Proofs.YtopobangjpehnaaW.PrintLast Go.Proofs.YtopobangjpehnaaW.PrintMore Pr Des Num
/-- How many ones a number below 256 has. -/
def popN (n : Nat) : Nat := (bitsN 8 n).count true
def popTab : ByteArray := ⟨#[0, 1, 1, 2, 1, 2, 2, 3, 1, 2, 2, 3, 2, 3, 3, 4, 1, 2, 2, 3, 2, 3, 3, 4, 2, 3, 3, 4, 3, 4, 4, 5, 1, 2, 2, 3, 2, 3, 3, 4, 2, 3, 3, 4, 3, 4, 4, 5, 2, 3, 3, 4, 3, 4, 4, 5, 3, 4, 4, 5, 4, 5, 5, 6, 1, 2, 2, 3, 2, 3, 3, 4, 2, 3, 3, 4, 3, 4, 4, 5, 2, 3, 3, 4, 3, 4, 4, 5, 3, 4, 4, 5, 4, 5, 5, 6, 2, 3, 3, 4, 3, 4, 4, 5, 3, 4, 4, 5, 4, 5, 5, 6, 3, 4, 4, 5, 4, 5, 5, 6, 4, 5, 5, 6, 5, 6, 6, 7, 1, 2, 2, 3, 2, 3, 3, 4, 2, 3, 3, 4, 3, 4, 4, 5, 2, 3, 3, 4, 3, 4, 4, 5, 3, 4, 4, 5, 4, 5, 5, 6, 2, 3, 3, 4, 3, 4, 4, 5, 3, 4, 4, 5, 4, 5, 5, 6, 3, 4, 4, 5, 4, 5, 5, 6, 4, 5, 5, 6, 5, 6, 6, 7, 2, 3, 3, 4, 3, 4, 4, 5, 3, 4, 4, 5, 4, 5, 5, 6, 3, 4, 4, 5, 4, 5, 5, 6, 4, 5, 5, 6, 5, 6, 6, 7, 3, 4, 4, 5, 4, 5, 5, 6, 4, 5, 5, 6, 5, 6, 6, 7, 4, 5, 5, 6, 5, 6, 6, 7, 5, 6, 6, 7, 6, 7, 7, 8]⟩
theorem popTab_all : ∀ n : Fin 256, (popTab.data.toList.getD n 0).toNat = popN n := by decide +kernel
theorem popTab_at (n : Nat) (h : n < 256) (hn : n < popTab.size) : wrap64 (((popTab[n]'hn).toNat : Nat) : Int) = ((popN n : Nat) : Int) := by
  have h1 := popTab_all ⟨n, h⟩
  have e : popTab.data.toList.getD n 0 = popTab[n]'hn := by
    have hl : n < popTab.data.toList.length := by rw [Array.length_toList]; exact hn
    rw [List.getD_eq_getElem?_getD, List.getElem?_eq_getElem hl]
    rfl
  rw [e] at h1
  have h2 := (popTab[n]'hn).toNat_lt
  rw [w64_id (by omega) (by omega)]
  exact congrArg Int.ofNat h1
set_option maxHeartbeats 1000000 in
set_option maxRecDepth 100000 in
theorem ones_any (c : UInt8) (w : World) : Calls Try.prog 73 #[.int .u8 ((c.toNat : Nat) : Int)] w fun e w' => e = .returned (.int .i64 ((popN c.toNat : Nat) : Int)) ∧ Below w.heap.size w w' := by
  have h0 : (0 : Int) ≤ ((c.toNat : Nat) : Int) := by omega
  have h1 : ((c.toNat : Nat) : Int) < 256 := by have := c.toNat_lt; omega
  have h2 : c.toNat < 256 := c.toNat_lt
  have HP := Aside0.mk (popTab_at c.toNat h2 h2)
  go_enter Try.func73, Try.ntmps73
  go_wp2
  go_ret
  exact ⟨congrArg (fun x => Ending.returned (.int .i64 x)) HP.out, Below.refl _ _⟩

theorem ones_odd : ∀ n : Fin 256, ((((popN n : Nat) : Int) % 2 == 0) = decide (popN n % 2 = 0)) := by decide +kernel
/-- A byte with its last bit so that its ones are odd. -/
def oddB (c : UInt8) : UInt8 := if popN c.toNat % 2 = 0 then c ^^^ 1 else c
def oddL (l : List UInt8) : List UInt8 := l.map oddB
def oddS (s : ByteArray) : ByteArray := ⟨(oddL s.data.toList).toArray⟩
def oddTo (l : List UInt8) (i : Nat) : List UInt8 := oddL (l.take i) ++ l.drop i
theorem oddTo_length (l : List UInt8) (i : Nat) : (oddTo l i).length = l.length := by
  simp only [oddTo, oddL, List.length_append, List.length_map, List.length_take, List.length_drop]; omega
theorem oddTo_get (l : List UInt8) (i : Nat) (hi : i < l.length) : (oddTo l i)[i]'(by rw [oddTo_length]; exact hi) = l[i] := by
  have hl : (oddL (l.take i)).length = i := by simp only [oddL, List.length_map, List.length_take]; omega
  unfold oddTo
  rw [List.getElem_append_right (by omega)]
  simp [hl]
theorem oddTo_succ (l : List UInt8) (i : Nat) (hi : i < l.length) : (oddTo l i).set i (oddB l[i]) = oddTo l (i + 1) := by
  have hl : (oddL (l.take i)).length = i := by simp only [oddL, List.length_map, List.length_take]; omega
  have e1 : l.drop i = l[i] :: l.drop (i + 1) := List.drop_eq_getElem_cons hi
  have e2 : oddL (l.take (i + 1)) = oddL (l.take i) ++ [oddB l[i]] := by
    rw [List.take_succ_eq_append_getElem hi]
    unfold oddL
    rw [List.map_append]
    rfl
  unfold oddTo
  rw [e1, e2, List.append_assoc]
  conv => lhs; rw [List.set_append_right _ _ (by omega)]
  rw [hl, Nat.sub_self]
  rfl
theorem set_same (l : List UInt8) (i : Nat) (hi : i < l.length) (x : UInt8) (h : l[i] = x) : l.set i x = l := by
  subst h
  exact List.set_getElem_self hi
theorem xor_one (c : UInt8) : Go.bits .xor .u8 ((c.toNat : Nat) : Int) 1 = (((c ^^^ 1).toNat : Nat) : Int) := xor_u8s c 1

set_option maxHeartbeats 2000000 in
set_option maxRecDepth 100000 in
theorem odd_any (a : ByteArray) (hm : a.size ≤ 140737488355000) (w : World) :
    Calls Try.prog 48 #[.string a] w fun e w' => e = .returned (.string (oddS a)) ∧ Below w.heap.size w w' := by
  have hla : a.data.toList.length = a.size := by rw [Array.length_toList]; rfl
  have HL := Aside0.mk hla
  have hcv := print_bytes (P := Try.prog) 9 53 5 Try.underlying9 Try.underlying53 Try.underlying5 a w
  have R0 := Aside0.mk (BRow.new w a)
  have B0 := Aside0.mk (bytes_below (Below.refl w.heap.size w) (Nat.le_refl _) 5 a)
  clear hla
  generalize Lib.bytesWorld w 5 a = w1 at *
  generalize grownCap w a.size 0 5 = cp at *
  go_enter Try.func48, Try.ntmps48
  go_wp2_with fail
  clear hcv
  go_loopw [10] (fun v10 wr => ∃ i : Nat, i ≤ a.size ∧ v10 = .int .i64 i ∧ Aside0 (BRow wr w.heap.size (oddTo a.data.toList i)) ∧ Aside0 (Below w.heap.size w wr)) (fun i _ => a.size - (intOf i).toNat)
  case atStart => exact ⟨0, Nat.zero_le _, rfl, ⟨by simpa [oddTo, oddL] using R0.out⟩, B0⟩
  case round =>
    clear R0 B0
    obtain ⟨i, hi, rfl, R, B⟩ := hrel
    by_cases hlt : i < a.size
    · have hi2 : i < a.data.toList.length := by rw [HL.out]; exact hlt
      obtain ⟨x, hx⟩ : ∃ x : UInt8, a.data.toList[i] = x := ⟨_, rfl⟩
      have hlen : i < (oddTo a.data.toList i).length := by rw [oddTo_length]; exact hi2
      have hget : (oddTo a.data.toList i)[i] = x := by rw [oddTo_get _ i hi2, hx]
      have q1 : wr.cell? ⟨w.heap.size, i, none⟩ = some (.int .u8 ((x.toNat : Nat) : Int)) := by
        rw [R.out.cell i hlen, hget]
      have HO := Aside0.mk (ones_odd ⟨x.toNat, x.toNat_lt⟩)
      have HX : Aside0 ((oddTo a.data.toList i).set i (oddB x) = oddTo a.data.toList (i + 1)) := ⟨by rw [← oddTo_succ _ i hi2, hx]⟩
      have HS : Aside0 (∀ y, y = x → (oddTo a.data.toList i).set i y = oddTo a.data.toList i) := ⟨fun y hy => set_same _ i hlen y (hget.trans hy.symm)⟩
      have hx1 := xor_one x
      by_cases hp : popN x.toNat % 2 = 0
      · have hb : (((popN x.toNat : Nat) : Int) % 2 == 0) = true := by have := HO.out; simp only at this; rw [this]; simpa using hp
        have HB : Aside0 (oddB x = x ^^^ 1) := ⟨by unfold oddB; rw [if_pos hp]⟩
        clear hx hi2 hget hp hlen
        go_wp2_with fail
        refine (ones_any x _).mono ?_
        rintro e w4 ⟨rfl, hb4⟩
        replace R := Aside0.mk (R.out.step hb4)
        replace B := Aside0.mk (B.out.trans (hb4.mono B.out.size))
        clear hb4 q1
        have hln : i < (oddTo a.data.toList i).length := by rw [oddTo_length, HL.out]; exact hlt
        have q3 : w4.cell? ⟨w.heap.size, i, none⟩ = some (.int .u8 (((oddTo a.data.toList i)[i].toNat : Nat) : Int)) := R.out.cell i hln
        have q2 : w4.frozen? ⟨w.heap.size, i, none⟩ = false := R.out.frozen i hln
        generalize (oddTo a.data.toList i)[i] = z at q3
        clear hln
        go_wp2_with fail
        have R2 := R.out.set_ i (x ^^^ 1)
        rw [← HB.out, HX.out, HB.out, UInt8.toNat_xor] at R2
        exact ⟨⟨i + 1, by omega, by go_num, ⟨R2⟩, ⟨B.out.setCell (p := ⟨w.heap.size, i, none⟩) (Nat.le_refl _) _⟩⟩, by simp [intOf]; omega⟩
      · have hb : (((popN x.toNat : Nat) : Int) % 2 == 0) = false := by have := HO.out; simp only at this; rw [this]; simpa using hp
        have HB : Aside0 (oddB x = x) := ⟨by unfold oddB; rw [if_neg hp]⟩
        clear hx hi2 hget hp hlen hx1
        go_wp2_with fail
        refine (ones_any x _).mono ?_
        rintro e w4 ⟨rfl, hb4⟩
        have hX := HX.out
        rw [HS.out _ HB.out] at hX
        replace R := Aside0.mk (R.out.step hb4)
        rw [hX] at R
        replace B := Aside0.mk (B.out.trans (hb4.mono B.out.size))
        clear hb4 q1 hX
        go_wp2_with fail
        exact ⟨⟨i + 1, by omega, by go_num, R, B⟩, by simp [intOf]; omega⟩
    · obtain rfl : i = a.size := by omega
      have hfin : oddTo a.data.toList a.size = oddL a.data.toList := by
        unfold oddTo
        rw [List.take_of_length_le (by rw [HL.out]; exact Nat.le_refl _), List.drop_of_length_le (by rw [HL.out]; exact Nat.le_refl _), List.append_nil]
      have hlen : (oddL a.data.toList).length = a.size := by simp only [oddL, List.length_map]; exact HL.out
      have hR := R.out
      rw [hfin] at hR
      have hcv := hR.string (c := cp) (by rw [hlen]; omega)
      rw [hlen] at hcv
      have hcv2 : (convert 53 9 (.slice (some ⟨w.heap.size, 0, none⟩) a.size cp)).run Try.prog wr = .ok (.string (oddS a)) wr := hcv
      clear hcv hR hfin hlen R
      go_wp2_with fail
      go_ret
      exact ⟨rfl, B.out⟩
theorem oddL_hi7 (l : List UInt8) : hi7 (oddL l) = hi7 l := by
  have h : ∀ n : Fin 256, (oddB (UInt8.ofNat n)).toNat / 2 = (n : Nat) / 2 := by decide +kernel
  unfold hi7 oddL
  rw [List.map_map]
  apply List.map_congr_left
  intro b _
  have := h ⟨b.toNat, b.toNat_lt⟩
  simpa using this
theorem oddS_size (s : ByteArray) : (oddS s).size = s.size := by
  show (oddL s.data.toList).toArray.size = s.data.size
  simp [oddL]
end Go.Proofs.Ytopobangjpehnaa.Walk
