/- cipher.Xor. -/
import Derived.Test.YtopobangjpehnaaPlainB
import Derived.StillTailTactics
set_option linter.unusedVariables false
set_option linter.unusedSimpArgs false
namespace Go.Proofs.Ytopobangjpehnaa.Walk
open Go.RowKit Go.Proofs.YtopobangjpehnaaW.PrintWords Go.Proofs.YtopobangjpehnaaW.PrintLast Go.Proofs.YtopobangjpehnaaW.PrintMore Pr Des Num

/-- A row of bytes that the call has made of a text. -/
def BRow (w : World) (g : Nat) (l : List UInt8) : Prop :=
  ∃ cs : Array Value, w.heap[g]? = some (.cells cs 5 (cs.size, cs.size + 1)) ∧ l.length ≤ cs.size ∧ ∀ (j : Nat) (h : j < l.length), cs[j]? = some (.int .u8 ((l[j].toNat : Nat) : Int))
theorem BRow.new (w : World) (s : ByteArray) : BRow (Lib.bytesWorld w 5 s) w.heap.size s.data.toList := by
  have hl : s.data.toList.length = s.size := by rw [Array.length_toList]; rfl
  refine ⟨Lib.bytesCells w 5 s, Lib.bytesWorld_at_new w 5 s, ?_, fun j h => ?_⟩
  · rcases Nat.eq_zero_or_pos s.size with h0 | h0
    · omega
    · have := Lib.bytesWorld_cell w 5 s (s.size - 1) (by omega)
      rw [cell_of_row _ _ _ _ _ _ (Lib.bytesWorld_at_new w 5 s)] at this
      have := (Array.getElem?_eq_some_iff.1 this).1
      omega
  · have := Lib.bytesWorld_cell w 5 s j (by omega)
    rw [cell_of_row _ _ _ _ _ _ (Lib.bytesWorld_at_new w 5 s)] at this
    rw [this]
    congr 3
    rw [List.getD_eq_getElem?_getD, List.getElem?_eq_getElem h]
    rfl
theorem BRow.cell {w : World} {g : Nat} {l : List UInt8} (h : BRow w g l) (j : Nat) (hj : j < l.length) : w.cell? ⟨g, j, none⟩ = some (.int .u8 ((l[j].toNat : Nat) : Int)) := by
  obtain ⟨cs, h1, h2, h3⟩ := h
  rw [cell_of_row _ _ _ _ _ _ h1, h3 j hj]
theorem BRow.frozen {w : World} {g : Nat} {l : List UInt8} (h : BRow w g l) (j : Nat) (hj : j < l.length) : w.frozen? ⟨g, j, none⟩ = false := by
  obtain ⟨cs, h1, h2, h3⟩ := h
  simp [World.frozen?, h1]
  omega
theorem BRow.set_ {w : World} {g : Nat} {l : List UInt8} (h : BRow w g l) (j : Nat) (b : UInt8) : BRow (w.setCell ⟨g, j, none⟩ (.int .u8 ((b.toNat : Nat) : Int))) g (l.set j b) := by
  obtain ⟨cs, h1, h2, h3⟩ := h
  refine ⟨cs.setIfInBounds j (.int .u8 ((b.toNat : Nat) : Int)), ?_, ?_, fun i hi => ?_⟩
  · simp [World.setCell, Array.getElem?_modify, h1]
  · rw [List.length_set, Array.size_setIfInBounds]; exact h2
  · rw [List.length_set] at hi
    rw [Array.getElem?_setIfInBounds]
    by_cases e : j = i
    · subst e
      rw [if_pos rfl, if_pos (by omega)]
      simp
    · rw [if_neg e, h3 i hi]
      simp [List.getElem_set, e]
theorem BRow.step {w w' : World} {g : Nat} {l : List UInt8} (h : BRow w g l) (hb : Below w.heap.size w w') : BRow w' g l := by
  obtain ⟨cs, h1, h2, h3⟩ := h
  have hlt : g < w.heap.size := by
    rcases Nat.lt_or_ge g w.heap.size with hlt | hge
    · exact hlt
    · rw [Array.getElem?_eq_none hge] at h1; cases h1
  exact ⟨cs, (hb.block g hlt).trans h1, h2, h3⟩
theorem BRow.drew {w : World} {g : Nat} {l : List UInt8} (h : BRow w g l) : BRow w.drew g l := h
/-- The row as a text. -/
theorem BRow.string {w : World} {g c : Nat} {l : List UInt8} (h : BRow w g l) (hm : l.length ≤ 9223372036854775807) : (convert 53 9 (.slice (some ⟨g, 0, none⟩) l.length c)).run Try.prog w = .ok (.string ⟨l.toArray⟩) w := by
  have hr : ReadsInt w .u8 (some ⟨g, 0, none⟩) l.length (ints l) := by
    refine ⟨by simp [ints], hm, fun h0 => ⟨_, rfl, fun j hj => ?_⟩⟩
    rw [addr_add, Nat.zero_add, h.cell j hj]
    congr 2
    simp [ints, List.getD_eq_getElem?_getD, hj]
  rw [string_of_reads Try.underlying53 Try.underlying5 Try.underlying9 hr, strOfNums_ints]
theorem xor_u8s (a b : UInt8) : Go.bits .xor .u8 ((a.toNat : Nat) : Int) ((b.toNat : Nat) : Int) = (((a ^^^ b).toNat : Nat) : Int) := by
  have ha := a.toNat_lt
  have hb := b.toNat_lt
  show IntKind.u8.wrap (((BitVec.ofInt 8 (a.toNat : Int) ^^^ BitVec.ofInt 8 (b.toNat : Int) : BitVec 8).toNat : Nat) : Int) = _
  rw [BitVec.toNat_xor, BitVec.ofInt_natCast, BitVec.ofInt_natCast, BitVec.toNat_ofNat, BitVec.toNat_ofNat, Nat.mod_eq_of_lt ha, Nat.mod_eq_of_lt hb, IntKind.wrap_u8, UInt8.toNat_xor]
  have h : a.toNat ^^^ b.toNat < 2 ^ 8 := Nat.xor_lt_two_pow ha hb
  omega

/-- The sum of two texts, byte by byte. -/
def xorL (a b : List UInt8) : List UInt8 := List.zipWith (· ^^^ ·) a b
def xorS (a b : ByteArray) : ByteArray := ⟨(xorL a.data.toList b.data.toList).toArray⟩
/-- So far. -/
def xorTo (a b : List UInt8) (i : Nat) : List UInt8 := xorL (a.take i) (b.take i) ++ a.drop i
theorem xorTo_length (a b : List UInt8) (h : a.length = b.length) (i : Nat) : (xorTo a b i).length = a.length := by
  simp only [xorTo, xorL, List.length_append, List.length_zipWith, List.length_take, List.length_drop]; omega
theorem xorTo_get (a b : List UInt8) (h : a.length = b.length) (i : Nat) (hi : i < a.length) : (xorTo a b i)[i]'(by rw [xorTo_length a b h]; exact hi) = a[i] := by
  have hl : (xorL (a.take i) (b.take i)).length = i := by simp only [xorL, List.length_zipWith, List.length_take]; omega
  unfold xorTo
  rw [List.getElem_append_right (by omega)]
  simp [hl]
theorem xorTo_succ (a b : List UInt8) (h : a.length = b.length) (i : Nat) (hi : i < a.length) : (xorTo a b i).set i (a[i] ^^^ b[i]'(by omega)) = xorTo a b (i + 1) := by
  have hl : (xorL (a.take i) (b.take i)).length = i := by simp only [xorL, List.length_zipWith, List.length_take]; omega
  have e1 : a.drop i = a[i] :: a.drop (i + 1) := List.drop_eq_getElem_cons hi
  have e2 : xorL (a.take (i + 1)) (b.take (i + 1)) = xorL (a.take i) (b.take i) ++ [a[i] ^^^ b[i]'(by omega)] := by
    rw [List.take_succ_eq_append_getElem hi, List.take_succ_eq_append_getElem (by omega)]
    unfold xorL
    rw [List.zipWith_append (by simp; omega)]
    rfl
  unfold xorTo
  rw [e1, e2, List.append_assoc]
  conv => lhs; rw [List.set_append_right _ _ (by omega)]
  rw [hl, Nat.sub_self]
  rfl

set_option maxHeartbeats 1000000 in
set_option maxRecDepth 100000 in
theorem xor_no (a b : ByteArray) (h : a.size ≠ b.size) (w : World) :
    Calls Try.prog 33 #[.string a, .string b] w fun e w' => e = .returned (.tuple #[.string ⟨#[]⟩, .int .i64 1]) ∧ Below w.heap.size w w' := by
  have hb : ((a.size : Int) != (b.size : Int)) = true := by rw [bne_iff_ne]; omega
  clear h
  go_enter Try.func33, Try.ntmps33
  go_wp2_with fail
  go_ret2
  exact ⟨rfl, Below.refl _ _⟩
set_option maxHeartbeats 1000000 in
set_option maxRecDepth 100000 in
theorem xor_yes (a b : ByteArray) (h : a.size = b.size) (hm : a.size ≤ 140737488355000) (w : World) :
    Calls Try.prog 33 #[.string a, .string b] w fun e w' => e = .returned (.tuple #[.string (xorS a b), .int .i64 0]) ∧ Below w.heap.size w w' := by
  have HS := Aside0.mk h
  have hla : a.data.toList.length = a.size := by rw [Array.length_toList]; rfl
  have hlb : b.data.toList.length = b.size := by rw [Array.length_toList]; rfl
  have HL := Aside0.mk (show a.data.toList.length = a.size ∧ b.data.toList.length = b.size ∧ a.data.toList.length = b.data.toList.length from ⟨hla, hlb, by omega⟩)
  have hb : ((a.size : Int) != (b.size : Int)) = false := by rw [bne_eq_false_iff_eq]; omega
  have hcv := print_bytes (P := Try.prog) 9 53 5 Try.underlying9 Try.underlying53 Try.underlying5 a w
  have R0 := Aside0.mk (BRow.new w a)
  have B0 := Aside0.mk (bytes_below (Below.refl w.heap.size w) (Nat.le_refl _) 5 a)
  clear h hla hlb
  generalize Lib.bytesWorld w 5 a = w1 at *
  generalize grownCap w a.size 0 5 = cp at *
  go_enter Try.func33, Try.ntmps33
  go_wp2_with fail
  clear hcv
  go_loopw [17] (fun v17 wr => ∃ i : Nat, i ≤ a.size ∧ v17 = .int .i64 i ∧ Aside0 (BRow wr w.heap.size (xorTo a.data.toList b.data.toList i)) ∧ Aside0 (Below w.heap.size w wr)) (fun i _ => a.size - (intOf i).toNat)
  case atStart => exact ⟨0, Nat.zero_le _, rfl, ⟨by simpa [xorTo, xorL] using R0.out⟩, B0⟩
  case round =>
    clear R0 B0
    obtain ⟨i, hi, rfl, R, B⟩ := hrel
    by_cases hlt : i < a.size
    · have hi2 : i < a.data.toList.length := by rw [HL.out.1]; exact hlt
      have hbi : i < b.size := by have := HS.out; omega
      have hb2 : i < b.data.toList.length := by rw [HL.out.2.1]; exact hbi
      obtain ⟨x, hx⟩ : ∃ x : UInt8, a.data.toList[i] = x := ⟨_, rfl⟩
      obtain ⟨y, hy⟩ : ∃ y : UInt8, b.data.toList[i] = y := ⟨_, rfl⟩
      have q1 : wr.cell? ⟨w.heap.size, i, none⟩ = some (.int .u8 ((x.toNat : Nat) : Int)) := by
        rw [R.out.cell i (by rw [xorTo_length _ _ HL.out.2.2]; exact hi2), xorTo_get _ _ HL.out.2.2 i hi2, hx]
      have q2 : wr.frozen? ⟨w.heap.size, i, none⟩ = false := R.out.frozen i (by rw [xorTo_length _ _ HL.out.2.2]; exact hi2)
      have hyb : b[i]'hbi = y := hy
      have hxy := xor_u8s x y
      have HX : Aside0 ((xorTo a.data.toList b.data.toList i).set i (x ^^^ y) = xorTo a.data.toList b.data.toList (i + 1)) := ⟨by rw [← xorTo_succ _ _ HL.out.2.2 i hi2, hx, hy]⟩
      clear hx hy hi2 hb2
      go_wp2_with fail
      go_still_tail 9, (by kernel_rfl)
      change wpList _ _ _ _ _ wr.drew
      have R2 := Aside0.mk (R.out.drew.set_ i (x ^^^ y))
      rw [HX.out] at R2
      replace B := Aside0.mk (B.out.drew.setCell (p := ⟨w.heap.size, i, none⟩) (Nat.le_refl _) (.int .u8 (((x ^^^ y).toNat : Nat) : Int)))
      clear R HX
      go_wp2
      go_roundw
      case rel => exact ⟨i + 1, by omega, by go_num, R2, B⟩
      case measure => simp [intOf]; omega
    · obtain rfl : i = a.size := by omega
      have hfin : xorTo a.data.toList b.data.toList a.size = xorL a.data.toList b.data.toList := by
        unfold xorTo
        rw [List.take_of_length_le (by rw [HL.out.1]; exact Nat.le_refl _), List.take_of_length_le (by rw [HL.out.2.1, HS.out]; exact Nat.le_refl _), List.drop_of_length_le (by rw [HL.out.1]; exact Nat.le_refl _), List.append_nil]
      have hlen : (xorL a.data.toList b.data.toList).length = a.size := by
        simp only [xorL, List.length_zipWith]; have := HL.out; omega
      have hR := R.out
      rw [hfin] at hR
      have hcv := hR.string (c := cp) (by rw [hlen]; omega)
      rw [hlen] at hcv
      have hcv2 : (convert 53 9 (.slice (some ⟨w.heap.size, 0, none⟩) a.size cp)).run Try.prog wr = .ok (.string (xorS a b)) wr := hcv
      clear hcv hR hfin hlen R
      go_wp2_with fail
      go_ret2
      exact ⟨rfl, B.out⟩
end Go.Proofs.Ytopobangjpehnaa.Walk
