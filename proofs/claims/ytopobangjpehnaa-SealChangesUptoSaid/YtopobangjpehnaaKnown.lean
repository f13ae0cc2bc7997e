/- cipher.Check, and the first example of the chapter. -/
import Derived.Test.YtopobangjpehnaaMeth
set_option linter.unusedVariables false
set_option linter.unusedSimpArgs false
namespace Go.Proofs.Ytopobangjpehnaa.Walk
open Go.RowKit Go.Proofs.YtopobangjpehnaaW.PrintWords Go.Proofs.YtopobangjpehnaaW.PrintLast Go.Proofs.YtopobangjpehnaaW.PrintMore Pr Des Num

/-- A key's check value. -/
def checkB (key : List UInt8) : List UInt8 := (bytes8 (num (turnB key false (bitsN 64 0)))).take 3

set_option maxHeartbeats 1000000 in
set_option maxRecDepth 100000 in
theorem check_no (s : ByteArray) (hk : kindOf s.data.toList = 0) (w : World) :
    Calls Try.prog 41 #[.string s] w fun e w' => e = .returned (.tuple #[.string ⟨#[]⟩, .int .i64 30]) ∧ Below w.heap.size w w' := by
  have HN := Aside0.mk (new_no s hk)
  clear hk
  go_enter Try.func41, Try.ntmps41
  go_wp2_with fail
  refine (HN.out _).mono ?_
  rintro e w1 ⟨rfl, hb1⟩
  have B1 := Aside0.mk hb1
  clear hb1
  go_wp2_with fail
  go_ret2
  exact ⟨rfl, B1.out⟩
set_option maxHeartbeats 1000000 in
set_option maxRecDepth 100000 in
theorem check_yes (s : ByteArray) (hk : 1 ≤ kindOf s.data.toList) (w : World) :
    Calls Try.prog 41 #[.string s] w fun e w' => e = .returned (.tuple #[.string ⟨(checkB s.data.toList).toArray⟩, .int .i64 0]) ∧ Below w.heap.size w w' := by
  have HN := Aside0.mk (new_yes s hk)
  clear hk
  unfold checkB
  have hT := fun g (W : World) hg => turn_calls g s.data.toList 0 (by decide) false W hg
  have HT := Aside0.mk hT
  clear hT
  generalize turnB s.data.toList false (bitsN 64 0) = r at HT ⊢
  go_enter Try.func41, Try.ntmps41
  go_wp2_with fail
  refine (HN.out _).mono ?_
  rintro e w1 ⟨g, rfl, hge, hg, hb1⟩
  have B1 := Aside0.mk hb1
  have G1 := Aside0.mk hg
  clear hb1 hg hge
  go_wp2_with fail
  refine (HT.out g w1 G1.out).mono ?_
  rintro e w2 ⟨rfl, hb2⟩
  replace B1 := Aside0.mk (B1.out.trans (hb2.mono B1.out.size))
  clear hb2 HT HN G1
  go_wp2_with fail
  refine (cipher_bytes.calls 9 (fun _ => True) (.slice none 0 0) [] _ _ w2 w2 (Below.refl _ _) (Kd.R_nil _ _ _ _ _) (bytes_eval [] (num r) 9 (by decide) (by decide))).mono ?_
  rintro e w3 ⟨v, rfl, hR, hb3, _⟩
  obtain ⟨A, c, rfl⟩ := Kd.R_slice hR
  have hC := (Kd.R_reads' hR).2
  rw [List.nil_append] at hC
  have hl : (ints (bytes8 (num r))).length = 8 := by simp [ints, bytes8]
  have hc8 : (8 : Nat) ≤ c := by rw [← hl]; exact hC.1
  have hC3 := Kd.C_take (m := 3) hC.2 (by rw [hl]; decide)
  have hl3 : ((ints (bytes8 (num r))).take 3).length = 3 := by rw [List.length_take, hl]; rfl
  rw [hl3] at hC3
  have hcv := Kd.C_string (P := Try.prog) (c := c) Try.underlying53 Try.underlying5 Try.underlying9 hC3
  rw [show (ints (bytes8 (num r))).take 3 = ints ((bytes8 (num r)).take 3) by unfold ints; rw [List.map_take], strOfNums_ints] at hcv
  replace B1 := Aside0.mk (B1.out.trans (hb3.mono B1.out.size))
  clear hb3 hR hC hl hC3 hl3
  go_wp2_with fail
  go_ret2
  exact ⟨rfl, B1.out⟩

theorem known_enc : outBytes (ecbB [19, 52, 87, 121, 155, 188, 223, 241] false ⟨#[1, 35, 69, 103, 137, 171, 205, 239]⟩) 1 = [133, 232, 19, 84, 15, 10, 180, 5] := by decide +kernel
theorem known_check : checkB [0, 0, 0, 0, 0, 0, 0, 0] = [140, 166, 77] := by decide +kernel
set_option maxHeartbeats 1000000 in
set_option maxRecDepth 100000 in
theorem known_any (w : World) : Calls Try.prog 20 #[] w fun e w' => e = .returned (.bool true) ∧ Below w.heap.size w w' := by
  have HN := Aside0.mk (new_yes ⟨#[19, 52, 87, 121, 155, 188, 223, 241]⟩ (by decide))
  have HE := Aside0.mk (fun g (W : World) hg => encrypt_yes g [19, 52, 87, 121, 155, 188, 223, 241] ⟨#[1, 35, 69, 103, 137, 171, 205, 239]⟩ (by decide) (by decide) W hg)
  have HC := Aside0.mk (check_yes ⟨#[0, 0, 0, 0, 0, 0, 0, 0]⟩ (by decide))
  have e1 : blocksStr (ecbB [19, 52, 87, 121, 155, 188, 223, 241] false ⟨#[1, 35, 69, 103, 137, 171, 205, 239]⟩) ⟨#[1, 35, 69, 103, 137, 171, 205, 239]⟩ = ⟨#[133, 232, 19, 84, 15, 10, 180, 5]⟩ := by
    unfold blocksStr
    rw [show (⟨#[1, 35, 69, 103, 137, 171, 205, 239]⟩ : ByteArray).size / 8 = 1 from rfl, known_enc]
  rw [e1] at HE
  rw [show (⟨#[0, 0, 0, 0, 0, 0, 0, 0]⟩ : ByteArray).data.toList = [0, 0, 0, 0, 0, 0, 0, 0] from rfl, known_check] at HC
  clear e1
  go_enter Try.func20, Try.ntmps20
  go_wp2_with fail
  refine (HN.out _).mono ?_
  rintro e w1 ⟨g, rfl, hge, hg, hb1⟩
  have B1 := Aside0.mk hb1
  have G1 := Aside0.mk hg
  clear hb1 hg hge HN
  go_wp2_with fail
  refine (HE.out g w1 G1.out).mono ?_
  rintro e w2 ⟨rfl, hb2⟩
  replace B1 := Aside0.mk (B1.out.trans (hb2.mono B1.out.size))
  clear hb2 HE G1
  go_wp2_with fail
  refine (HC.out _).mono ?_
  rintro e w3 ⟨rfl, hb3⟩
  replace B1 := Aside0.mk (B1.out.trans (hb3.mono B1.out.size))
  clear hb3 HC
  go_wp2_with fail
  go_ret
  exact ⟨by simp, B1.out⟩
end Go.Proofs.Ytopobangjpehnaa.Walk
