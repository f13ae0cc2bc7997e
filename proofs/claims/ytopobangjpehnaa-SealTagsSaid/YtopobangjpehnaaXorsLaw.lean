/- The walk of the law CipherXors. -/
import Derived.Test.YtopobangjpehnaaPrD
import Derived.Test.YtopobangjpehnaaXor
import Derived.Test.YtopobangjpehnaaTurned
set_option linter.unusedVariables false
set_option linter.unusedSimpArgs false
namespace Go.Proofs.Ytopobangjpehnaa.Walk
open Go.RowKit Go.Proofs.YtopobangjpehnaaW.PrintWords Go.Proofs.YtopobangjpehnaaW.PrintLast Go.Proofs.YtopobangjpehnaaW.PrintMore Pr Des Num

theorem bt_list (s : ByteArray) (i : Nat) (h : i < s.data.toList.length) : bt s (i : Int) = ((s.data.toList[i].toNat : Nat) : Int) := by
  have h' : i < s.size := by rw [Array.length_toList] at h; exact h
  rw [← bt_at s (i : Int) h']
  rfl
theorem refXor_go (a b : ByteArray) (h : a.size = b.size) (hm : a.size ≤ 100000) : ∀ (n i : Nat), i + n = a.size → ∀ k, n < k →
    turnstileref3_Xor.l0 k a b (ints (xorL (a.data.toList.take i) (b.data.toList.take i))) (i : Int) = some (xorS a b, 0) := by
  have hla : a.data.toList.length = a.size := by rw [Array.length_toList]; rfl
  have hlb : b.data.toList.length = b.size := by rw [Array.length_toList]; rfl
  intro n
  induction n with
  | zero =>
    intro i hi k hk
    obtain ⟨k, rfl⟩ : ∃ k', k = k' + 1 := ⟨k - 1, by omega⟩
    unfold turnstileref3_Xor.l0
    rw [if_neg (by omega), strOfNums_ints, List.take_of_length_le (by omega), List.take_of_length_le (by omega)]
    rfl
  | succ n ih =>
    intro i hi k hk
    obtain ⟨k, rfl⟩ : ∃ k', k = k' + 1 := ⟨k - 1, by omega⟩
    have hia : i < a.data.toList.length := by omega
    have hib : i < b.data.toList.length := by omega
    have hlen : (ints (xorL (a.data.toList.take i) (b.data.toList.take i))).length < 140737488355328 := by
      simp only [ints, xorL, List.length_map, List.length_zipWith, List.length_take]; omega
    have hnext : ints (xorL (a.data.toList.take i) (b.data.toList.take i)) ++ [Go.bits .xor .u8 (bt a (i : Int)) (bt b (i : Int))] = ints (xorL (a.data.toList.take (i + 1)) (b.data.toList.take (i + 1))) := by
      rw [bt_list a i hia, bt_list b i hib, xor_u8s, List.take_succ_eq_append_getElem hia, List.take_succ_eq_append_getElem hib]
      unfold xorL ints
      rw [List.zipWith_append (by simp only [List.length_take]; omega), List.map_append]
      rfl
    have hw : wrap64 ((i : Int) + 1) = ((i + 1 : Nat) : Int) := by
      rw [w64_id (x := (i : Int) + 1) (by omega) (by omega)]; push_cast; rfl
    unfold turnstileref3_Xor.l0
    rw [if_pos (by omega), if_pos (by omega), if_pos (by omega), if_pos hlen, hnext, hw]
    exact ih (i + 1) (by omega) k (by omega)
/-- What Xor answers. -/
def xorT (a b : ByteArray) : ByteArray := if a.size = b.size then xorS a b else ⟨#[]⟩
def xorE (a b : ByteArray) : Int := if a.size = b.size then 0 else 1
theorem xor_any (a b : ByteArray) (hm : a.size ≤ 140737488355000) (w : World) :
    Calls Try.prog 33 #[.string a, .string b] w fun e w' => e = .returned (.tuple #[.string (xorT a b), .int .i64 (xorE a b)]) ∧ Below w.heap.size w w' := by
  unfold xorT xorE
  by_cases h : a.size = b.size
  · rw [if_pos h, if_pos h]; exact xor_yes a b h hm w
  · rw [if_neg h, if_neg h]; exact xor_no a b h w
theorem refXor_any (a b : ByteArray) (hm : a.size ≤ 100000) (w : World) :
    Calls Try.prog 34 #[.string a, .string b] w fun e w' => e = .returned (.tuple #[.string (xorT a b), .int .i64 (xorE a b)]) ∧ Below w.heap.size w w' := by
  refine turnstileref3_Xor.calls (a.size + 1) a b _ _ w ?_
  unfold turnstileref3_Xor.f xorT xorE
  by_cases h : a.size = b.size
  · rw [if_pos (by omega), if_pos h, if_pos h]
    exact refXor_go a b h hm a.size 0 (by omega) _ (by omega)
  · rw [if_neg (by omega), if_neg h, if_neg h]
set_option maxHeartbeats 4000000 in
set_option maxRecDepth 100000 in
theorem xors_law (a : ByteArray) (ha : a.size ≤ 140737488351232) (b : ByteArray) (hb : b.size ≤ 140737488351232) (w : World) :
    Calls Try.prog 6 #[.string a, .string b] w fun e w' => e = .returned (.bool true) ∧ Below w.heap.size w w' := by
  have S1 := Aside0.mk (some_any a 2000)
  have S2 := Aside0.mk (some_any b 2000)
  have h1 := someS_size a 2000
  have X1 := Aside0.mk (xor_any (someS a 2000) (someS b 2000) (by omega))
  have X2 := Aside0.mk (refXor_any (someS a 2000) (someS b 2000) (by omega))
  generalize xorT (someS a 2000) (someS b 2000) = T at *
  generalize xorE (someS a 2000) (someS b 2000) = E at *
  generalize someS a 2000 = x at *
  generalize someS b 2000 = y at *
  clear h1 ha hb
  go_enter Try.func6, Try.ntmps6
  go_wp2_with fail
  refine (known_any _).mono ?_
  rintro e w1 ⟨rfl, hb⟩
  have B := Aside0.mk hb
  clear hb
  go_wp2_with fail
  refine (S1.out _).mono ?_
  rintro e w2 ⟨rfl, hb⟩
  replace B := Aside0.mk (B.out.trans (hb.mono B.out.size))
  clear hb
  go_wp2_with fail
  refine (S2.out _).mono ?_
  rintro e w3 ⟨rfl, hb⟩
  replace B := Aside0.mk (B.out.trans (hb.mono B.out.size))
  clear hb
  go_wp2_with fail
  refine (X1.out _).mono ?_
  rintro e w4 ⟨rfl, hb⟩
  replace B := Aside0.mk (B.out.trans (hb.mono B.out.size))
  clear hb
  go_wp2_with fail
  refine (X2.out _).mono ?_
  rintro e w5 ⟨rfl, hb⟩
  replace B := Aside0.mk (B.out.trans (hb.mono B.out.size))
  clear hb
  go_wp2_with fail
  go_ret
  exact ⟨by simp, B.out⟩
end Go.Proofs.Ytopobangjpehnaa.Walk
