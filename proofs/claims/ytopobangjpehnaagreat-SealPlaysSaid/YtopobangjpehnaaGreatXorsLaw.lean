/- The walk of the law CipherXors. -/
import Derived.Test.YtopobangjpehnaaGreatPrD
import Derived.Test.YtopobangjpehnaaGreatXorAll
set_option linter.unusedVariables false
set_option linter.unusedSimpArgs false
namespace Go.Proofs.YtopobangjpehnaaGreat.Walk
open Go.RowKit Go.Proofs.YtopobangjpehnaaGreatW.PrintWords Go.Proofs.YtopobangjpehnaaGreatW.PrintLast Go.Proofs.YtopobangjpehnaaGreatW.PrintMore Pr Des Num

theorem bt_list (s : ByteArray) (i : Nat) (h : i < s.data.toList.length) : bt s (i : Int) = ((s.data.toList[i].toNat : Nat) : Int) := by
  have h' : i < s.size := by rw [Array.length_toList] at h; exact h
  rw [← bt_at s (i : Int) h']
  rfl
theorem refXor_go (a b : ByteArray) (h : a.size = b.size) (hm : a.size ≤ 100000) : ∀ (n i : Nat), i + n = a.size → ∀ k, n < k →
    turnstileref3_Xor.l0 k a b (ints (xorL (a.data.toList.take i) (b.data.toList.take i))) (i : Int) = some (xorS a b, 0) := by
  have hla : a.data.toList.length = a.size := by rw [Array.length_toList]; rfl
  have hlb : b.data.toList.length = b.size := by rw [Array.length_toList]; rfl
  intro n
  induction n with
  | zero =>
    intro i hi k hk
    obtain ⟨k, rfl⟩ : ∃ k', k = k' + 1 := ⟨k - 1, by omega⟩
    unfold turnstileref3_Xor.l0
    rw [if_neg (by omega), strOfNums_ints, List.take_of_length_le (by omega), List.take_of_length_le (by omega)]
    rfl
  | succ n ih =>
    intro i hi k hk
    obtain ⟨k, rfl⟩ : ∃ k', k = k' + 1 := ⟨k - 1, by omega⟩
    have hia : i < a.data.toList.length := by omega
    have hib : i < b.data.toList.length := by omega
    have hlen : (ints (xorL (a.data.toList.take i) (b.data.toList.take i))).length < 140737488355328 := by
      simp only [ints, xorL, List.length_map, List.length_zipWith, List.length_take]; omega
    have hnext : ints (xorL (a.data.toList.take i) (b.data.toList.take i)) ++ [Go.bits .xor .u8 (bt a (i : Int)) (bt b (i : Int))] = ints (xorL (a.data.toList.take (i + 1)) (b.data.toList.take (i + 1))) := by
      rw [bt_list a i hia, bt_list b i hib, xor_u8s, List.take_succ_eq_append_getElem hia, List.take_succ_eq_append_getElem hib]
      unfold xorL ints
      rw [List.zipWith_append (by simp only [List.length_take]; omega), List.map_append]
      rfl
    have hw : wrap64 ((i : Int) + 1) = ((i + 1 : Nat) : Int) := by
      rw [w64_id (x := (i : Int) + 1) (by omega) (by omega)]; push_cast; rfl
    unfold turnstileref3_Xor.l0
    rw [if_pos (by omega), if_pos (by omega), if_pos (by omega), if_pos hlen, hnext, hw]
    exact ih (i + 1) (by omega) k (by omega)
/-- What Xor answers. -/
def xorT (a b : ByteArray) : ByteArray := if a.size = b.size then xorS a b else ⟨#[]⟩
def xorE (a b : ByteArray) : Int := if a.size = b.size then 0 else 1
theorem refXor_any (a b : ByteArray) (hm : a.size ≤ 100000) (w : World) :
    Calls Tryz.prog 71 #[.string a, .string b] w fun e w' => e = .returned (.tuple #[.string (xorT a b), .int .i64 (xorE a b)]) ∧ Below w.heap.size w w' := by
  refine turnstileref3_Xor.calls (a.size + 1) a b _ _ w ?_
  unfold turnstileref3_Xor.f xorT xorE
  by_cases h : a.size = b.size
  · rw [if_pos (by omega), if_pos h, if_pos h]
    exact refXor_go a b h hm a.size 0 (by omega) _ (by omega)
  · rw [if_neg (by omega), if_neg h, if_neg h]
end Go.Proofs.YtopobangjpehnaaGreat.Walk
