/- Xor of bytes; block by block. -/
import Derived.Test.YtopobangjpehnaaGreatMethAll
import Derived.StillTailTactics
set_option linter.unusedVariables false
set_option linter.unusedSimpArgs false
namespace Go.Proofs.YtopobangjpehnaaGreat.Walk
open Go.RowKit Go.Proofs.YtopobangjpehnaaGreatW.PrintWords Go.Proofs.YtopobangjpehnaaGreatW.PrintLast Go.Proofs.YtopobangjpehnaaGreatW.PrintMore Pr Des Num

/-- A row of bytes that the call has made of a text. -/
def BRow (w : World) (g : Nat) (l : List UInt8) : Prop :=
  ∃ cs : Array Value, w.heap[g]? = some (.cells cs 5 (cs.size, cs.size + 1)) ∧ l.length ≤ cs.size ∧ ∀ (j : Nat) (h : j < l.length), cs[j]? = some (.int .u8 ((l[j].toNat : Nat) : Int))
theorem BRow.new (w : World) (s : ByteArray) : BRow (Lib.bytesWorld w 5 s) w.heap.size s.data.toList := by
  have hl : s.data.toList.length = s.size := by rw [Array.length_toList]; rfl
  refine ⟨Lib.bytesCells w 5 s, Lib.bytesWorld_at_new w 5 s, ?_, fun j h => ?_⟩
  · rcases Nat.eq_zero_or_pos s.size with h0 | h0
    · omega
    · have := Lib.bytesWorld_cell w 5 s (s.size - 1) (by omega)
      rw [cell_of_row _ _ _ _ _ _ (Lib.bytesWorld_at_new w 5 s)] at this
      have := (Array.getElem?_eq_some_iff.1 this).1
      omega
  · have := Lib.bytesWorld_cell w 5 s j (by omega)
    rw [cell_of_row _ _ _ _ _ _ (Lib.bytesWorld_at_new w 5 s)] at this
    rw [this]
    congr 3
    rw [List.getD_eq_getElem?_getD, List.getElem?_eq_getElem h]
    rfl
theorem BRow.cell {w : World} {g : Nat} {l : List UInt8} (h : BRow w g l) (j : Nat) (hj : j < l.length) : w.cell? ⟨g, j, none⟩ = some (.int .u8 ((l[j].toNat : Nat) : Int)) := by
  obtain ⟨cs, h1, h2, h3⟩ := h
  rw [cell_of_row _ _ _ _ _ _ h1, h3 j hj]
theorem BRow.frozen {w : World} {g : Nat} {l : List UInt8} (h : BRow w g l) (j : Nat) (hj : j < l.length) : w.frozen? ⟨g, j, none⟩ = false := by
  obtain ⟨cs, h1, h2, h3⟩ := h
  simp [World.frozen?, h1]
  omega
theorem BRow.set_ {w : World} {g : Nat} {l : List UInt8} (h : BRow w g l) (j : Nat) (b : UInt8) : BRow (w.setCell ⟨g, j, none⟩ (.int .u8 ((b.toNat : Nat) : Int))) g (l.set j b) := by
  obtain ⟨cs, h1, h2, h3⟩ := h
  refine ⟨cs.setIfInBounds j (.int .u8 ((b.toNat : Nat) : Int)), ?_, ?_, fun i hi => ?_⟩
  · simp [World.setCell, Array.getElem?_modify, h1]
  · rw [List.length_set, Array.size_setIfInBounds]; exact h2
  · rw [List.length_set] at hi
    rw [Array.getElem?_setIfInBounds]
    by_cases e : j = i
    · subst e
      rw [if_pos rfl, if_pos (by omega)]
      simp
    · rw [if_neg e, h3 i hi]
      simp [List.getElem_set, e]
theorem BRow.step {w w' : World} {g : Nat} {l : List UInt8} (h : BRow w g l) (hb : Below w.heap.size w w') : BRow w' g l := by
  obtain ⟨cs, h1, h2, h3⟩ := h
  have hlt : g < w.heap.size := by
    rcases Nat.lt_or_ge g w.heap.size with hlt | hge
    · exact hlt
    · rw [Array.getElem?_eq_none hge] at h1; cases h1
  exact ⟨cs, (hb.block g hlt).trans h1, h2, h3⟩
theorem BRow.drew {w : World} {g : Nat} {l : List UInt8} (h : BRow w g l) : BRow w.drew g l := h
/-- The row as a text. -/
theorem BRow.string {w : World} {g c : Nat} {l : List UInt8} (h : BRow w g l) (hm : l.length ≤ 9223372036854775807) : (convert 68 9 (.slice (some ⟨g, 0, none⟩) l.length c)).run Tryz.prog w = .ok (.string ⟨l.toArray⟩) w := by
  have hr : ReadsInt w .u8 (some ⟨g, 0, none⟩) l.length (ints l) := by
    refine ⟨by simp [ints], hm, fun h0 => ⟨_, rfl, fun j hj => ?_⟩⟩
    rw [addr_add, Nat.zero_add, h.cell j hj]
    congr 2
    simp [ints, List.getD_eq_getElem?_getD, hj]
  rw [string_of_reads Tryz.underlying68 Tryz.underlying5 Tryz.underlying9 hr, strOfNums_ints]
theorem xor_u8s (a b : UInt8) : Go.bits .xor .u8 ((a.toNat : Nat) : Int) ((b.toNat : Nat) : Int) = (((a ^^^ b).toNat : Nat) : Int) := by
  have ha := a.toNat_lt
  have hb := b.toNat_lt
  show IntKind.u8.wrap (((BitVec.ofInt 8 (a.toNat : Int) ^^^ BitVec.ofInt 8 (b.toNat : Int) : BitVec 8).toNat : Nat) : Int) = _
  rw [BitVec.toNat_xor, BitVec.ofInt_natCast, BitVec.ofInt_natCast, BitVec.toNat_ofNat, BitVec.toNat_ofNat, Nat.mod_eq_of_lt ha, Nat.mod_eq_of_lt hb, IntKind.wrap_u8, UInt8.toNat_xor]
  have h : a.toNat ^^^ b.toNat < 2 ^ 8 := Nat.xor_lt_two_pow ha hb
  omega

/-- The sum of two texts, byte by byte. -/
def xorL (a b : List UInt8) : List UInt8 := List.zipWith (· ^^^ ·) a b
def xorS (a b : ByteArray) : ByteArray := ⟨(xorL a.data.toList b.data.toList).toArray⟩
/-- So far. -/
def xorTo (a b : List UInt8) (i : Nat) : List UInt8 := xorL (a.take i) (b.take i) ++ a.drop i
theorem xorTo_length (a b : List UInt8) (h : a.length = b.length) (i : Nat) : (xorTo a b i).length = a.length := by
  simp only [xorTo, xorL, List.length_append, List.length_zipWith, List.length_take, List.length_drop]; omega
theorem xorTo_get (a b : List UInt8) (h : a.length = b.length) (i : Nat) (hi : i < a.length) : (xorTo a b i)[i]'(by rw [xorTo_length a b h]; exact hi) = a[i] := by
  have hl : (xorL (a.take i) (b.take i)).length = i := by simp only [xorL, List.length_zipWith, List.length_take]; omega
  unfold xorTo
  rw [List.getElem_append_right (by omega)]
  simp [hl]
theorem xorTo_succ (a b : List UInt8) (h : a.length = b.length) (i : Nat) (hi : i < a.length) : (xorTo a b i).set i (a[i] ^^^ b[i]'(by omega)) = xorTo a b (i + 1) := by
  have hl : (xorL (a.take i) (b.take i)).length = i := by simp only [xorL, List.length_zipWith, List.length_take]; omega
  have e1 : a.drop i = a[i] :: a.drop (i + 1) := List.drop_eq_getElem_cons hi
  have e2 : xorL (a.take (i + 1)) (b.take (i + 1)) = xorL (a.take i) (b.take i) ++ [a[i] ^^^ b[i]'(by omega)] := by
    rw [List.take_succ_eq_append_getElem hi, List.take_succ_eq_append_getElem (by omega)]
    unfold xorL
    rw [List.zipWith_append (by simp; omega)]
    rfl
  unfold xorTo
  rw [e1, e2, List.append_assoc]
  conv => lhs; rw [List.set_append_right _ _ (by omega)]
  rw [hl, Nat.sub_self]
  rfl

end Go.Proofs.YtopobangjpehnaaGreat.Walk

set_option linter.unusedVariables false
set_option linter.unusedSimpArgs false
namespace Go.Proofs.YtopobangjpehnaaGreat.Walk
open Go.RowKit Go.Proofs.YtopobangjpehnaaGreatW.PrintWords Go.Proofs.YtopobangjpehnaaGreatW.PrintLast Go.Proofs.YtopobangjpehnaaGreatW.PrintMore Pr Des Num

def lst (l : List UInt8) : ByteArray := ⟨l.toArray⟩
theorem lst_list (l : List UInt8) : (lst l).data.toList = l := rfl
theorem lst_size (l : List UInt8) : (lst l).size = l.length := by
  show l.toArray.size = l.length
  simp
theorem lst_append (a b : List UInt8) : lst a ++ lst b = lst (a ++ b) := by
  apply byteArray_ext
  rw [ByteArray.data_append]; simp [lst]
/-- What a block becomes. -/
def blk8 (key : List UInt8) (x : List Bool) : List UInt8 := bytes8 (num (turnB key false x))
theorem one_block (key : List UInt8) (back : Bool) (s : ByteArray) (h : s.size = 8) : blocksStr (ecbB key back s) s = lst (bytes8 (num (turnB key back (bitsB s.data.toList)))) := by
  apply byteArray_ext
  rw [blocksStr_list, lst_list, h]
  show bytes8 (num (ecbB key back s 0)) ++ [] = _
  rw [List.append_nil]
  unfold ecbB blockAt
  rw [Nat.mul_zero, List.drop_zero, List.take_of_length_le (by rw [Array.length_toList]; show s.size ≤ 8; omega)]
theorem xo_comm (a b : List Bool) : xo a b = xo b a := by
  unfold xo
  rw [List.zipWith_comm]
  congr 1; funext x y; cases x <;> cases y <;> rfl
theorem bitsN_xor (w a b : Nat) : bitsN w (a ^^^ b) = xo (bitsN w a) (bitsN w b) := by
  induction w with
  | zero => rfl
  | succ w ih => simp only [bitsN, ih, Nat.testBit_xor, xo, List.zipWith_cons_cons]
theorem bitsB_xor : ∀ (a b : List UInt8), a.length = b.length → bitsB (xorL a b) = xo (bitsB a) (bitsB b)
  | [], [], _ => rfl
  | x :: a, y :: b, h => by
    have ih := bitsB_xor a b (by simpa using h)
    simp only [xorL, List.zipWith_cons_cons, bitsB, List.flatMap_cons] at ih ⊢
    rw [ih, UInt8.toNat_xor, bitsN_xor]
    unfold xo
    rw [List.zipWith_append (by rw [bitsN_length, bitsN_length])]
theorem xorS_size (a b : ByteArray) (h : a.size = b.size) : (xorS a b).size = a.size := by
  have e1 : a.data.toList.length = a.size := by rw [Array.length_toList]; rfl
  have e2 : b.data.toList.length = b.size := by rw [Array.length_toList]; rfl
  show (xorL a.data.toList b.data.toList).toArray.size = a.size
  rw [List.size_toArray]; unfold xorL; rw [List.length_zipWith]; omega
theorem xorS_list (a b : ByteArray) : (xorS a b).data.toList = xorL a.data.toList b.data.toList := rfl
theorem block_str (t : ByteArray) (q : Nat) (h : 8 * q + 8 ≤ t.size) : (t.extract (8 * q) (8 * q + 8)).size = 8 ∧ bitsB (t.extract (8 * q) (8 * q + 8)).data.toList = blockAt t q := by
  refine ⟨by rw [ByteArray.size_extract]; omega, ?_⟩
  rw [Go.Lib.extract_data, show 8 * q + 8 - 8 * q = 8 by omega]; rfl

theorem slice_block (s : ByteArray) (i : Nat) (h : 8 * i + 8 ≤ s.size) (w : World) :
    (Instr.slice 9 (.string s) (some (.int .i64 (8 * (i : Int)))) (some (.int .i64 (8 * (i : Int) + 8))) none).run Tryz.prog w = .ok (.string (s.extract (8 * i) (8 * i + 8))) w := by
  rw [run_slice_string (P := Tryz.prog) w 9 s .i64 .i64 _ _ Tryz.underlying9 (by omega) (by omega) (by omega)]
  congr 3
end Go.Proofs.YtopobangjpehnaaGreat.Walk
