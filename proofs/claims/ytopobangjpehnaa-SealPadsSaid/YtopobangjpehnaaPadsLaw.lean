/- The walk of the law SealPads. -/
import Derived.Test.YtopobangjpehnaaPad
set_option linter.unusedVariables false
set_option linter.unusedSimpArgs false
namespace Go.Proofs.Ytopobangjpehnaa.Seal
open Go.RowKit Go.Proofs.YtopobangjpehnaaW.PrintWords Go.Proofs.YtopobangjpehnaaW.PrintLast Go.Proofs.YtopobangjpehnaaW.PrintMore Pr Des Num Walk

theorem pad_abc : padS 2 ⟨#[97, 98, 99]⟩ = ⟨#[97, 98, 99, 128, 0, 0, 0, 0]⟩ := rfl
set_option maxHeartbeats 4000000 in
set_option maxRecDepth 100000 in
theorem pads_law (m : Int) (h0 : (Lit.int .i64 m).wf = true) (s : ByteArray) (hs : s.size ≤ 140737488351232) (t : ByteArray) (ht : t.size ≤ 140737488351232) (w : World) :
    Calls Try.prog 4 #[.int .i64 m, .string s, .string t] w fun e w' => e = .returned (.bool true) ∧ Below w.heap.size w w' := by
  have P0 := Aside0.mk (pad_two ⟨#[97, 98, 99]⟩ (by decide))
  rw [pad_abc] at P0
  have P1 := Aside0.mk (pad_all m s (by omega))
  have P2 := Aside0.mk (refPad_all m s (by omega))
  have S0 := Aside0.mk (same_any ⟨#[97]⟩ ⟨#[97]⟩ (by decide))
  have S1 := Aside0.mk (same_any s t (by omega))
  have S2 := Aside0.mk (same_any s s (by omega))
  rw [decide_eq_true rfl] at S0 S2
  have hst : (s.toList == t.toList) = decide (s = t) := by
    rw [ByteArray.toList_eq, ByteArray.toList_eq, Bool.eq_iff_iff, beq_iff_eq, decide_eq_true_iff]
    exact ⟨fun h => byteArray_ext h, fun h => by rw [h]⟩
  generalize decide (s = t) = X at *
  generalize padT m s = T at *
  generalize padE m = E at *
  clear h0 hs ht
  go_enter Try.func4, Try.ntmps4
  go_wp2_with fail
  refine (P0.out _).mono ?_
  rintro e w1 ⟨rfl, hb⟩
  have B := Aside0.mk hb
  clear hb
  go_wp2_with fail
  refine (P1.out _).mono ?_
  rintro e w2 ⟨rfl, hb⟩
  replace B := Aside0.mk (B.out.trans (hb.mono B.out.size))
  clear hb
  go_wp2_with fail
  refine (P2.out _).mono ?_
  rintro e w3 ⟨rfl, hb⟩
  replace B := Aside0.mk (B.out.trans (hb.mono B.out.size))
  clear hb
  go_wp2_with fail
  refine (S0.out _).mono ?_
  rintro e w4 ⟨rfl, hb⟩
  replace B := Aside0.mk (B.out.trans (hb.mono B.out.size))
  clear hb
  go_wp2_with fail
  refine (S1.out _).mono ?_
  rintro e w5 ⟨rfl, hb⟩
  replace B := Aside0.mk (B.out.trans (hb.mono B.out.size))
  clear hb
  go_wp2_with fail
  refine (S2.out _).mono ?_
  rintro e w6 ⟨rfl, hb⟩
  replace B := Aside0.mk (B.out.trans (hb.mono B.out.size))
  clear hb
  go_wp2_with fail
  go_ret
  exact ⟨by simp [hst], B.out⟩
end Go.Proofs.Ytopobangjpehnaa.Seal
