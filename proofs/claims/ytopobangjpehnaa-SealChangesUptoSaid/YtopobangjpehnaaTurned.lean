/- The walk of the law CipherTurned. -/
import Derived.Test.YtopobangjpehnaaPlain
set_option linter.unusedVariables false
set_option linter.unusedSimpArgs false
namespace Go.Proofs.Ytopobangjpehnaa.Walk
open Go.RowKit Go.Proofs.YtopobangjpehnaaW.PrintWords Go.Proofs.YtopobangjpehnaaW.PrintLast Go.Proofs.YtopobangjpehnaaW.PrintMore Pr Des Num

theorem wf_i64 {c : Int} (h : (Lit.int .i64 c).wf = true) : -9223372036854775808 ≤ c ∧ c ≤ 9223372036854775807 := by
  simpa [Lit.wf, IntKind.min, IntKind.max, IntKind.signed, IntKind.bits] using h
set_option maxHeartbeats 1000000 in
set_option maxRecDepth 100000 in
theorem turned_law (raw : ByteArray) (hr : raw.size ≤ 140737488351232) (parts : Int) (hp : (Lit.int .i64 parts).wf = true) (s : ByteArray) (hs : s.size ≤ 140737488351232) (w : World) :
    Calls Try.prog 3 #[.string raw, .int .i64 parts, .string s] w fun e w' => e = .returned (.bool true) ∧ Below w.heap.size w w' := by
  obtain ⟨p, hp3, HP⟩ := pick_any parts 3 (wf_i64 hp) (by decide) (by decide)
  obtain ⟨key, hkey, HF⟩ := fit_any raw (8 + 8 * (p : Int)) (by omega) (by omega) (by omega)
  obtain ⟨t, ht, hts, HW⟩ := whole_any s 20 (by decide) (by omega)
  have hk : key.size = 8 ∨ key.size = 16 ∨ key.size = 24 := by omega
  have hk1 := (kind_of_size hk).1
  have hU1 := under_any key t hk ht (by omega)
  have hU2 := under_any (overS key) (overS t) (by rw [overS_size]; exact hk) (by rw [overS_size]; exact ht) (by rw [overS_size]; omega)
  rw [under_over key t hk1 ht] at hU2
  have hsz : (underS key t).size = t.size := blocksStr_size _ _ ht
  have hO1 := over_any key (by omega)
  have hO2 := over_any t (by omega)
  have hO3 := over_any (underS key t) (by omega)
  have h0 : 0 ≤ (p : Int) := by omega
  have HP' := Aside0.mk HP
  have HF' := Aside0.mk HF
  have HW' := Aside0.mk HW
  have H1 := Aside0.mk hU1
  have H2 := Aside0.mk hU2
  have H3 := Aside0.mk hO1
  have H4 := Aside0.mk hO2
  have H5 := Aside0.mk hO3
  have H6 := Aside0.mk hsz
  clear HP HF HW hU1 hU2 hO1 hO2 hO3 hkey ht hts hk hk1 hr hs hp hsz
  go_enter Try.func3, Try.ntmps3
  go_wp2_with fail
  refine (known_any _).mono ?_
  rintro e w1 ⟨rfl, hb1⟩
  have B := Aside0.mk hb1
  clear hb1
  go_wp2_with fail
  refine (HP'.out _).mono ?_
  rintro e w2 ⟨rfl, hb⟩
  replace B := Aside0.mk (B.out.trans (hb.mono B.out.size))
  clear hb
  go_wp2_with fail
  refine (HF'.out _).mono ?_
  rintro e w3 ⟨rfl, hb⟩
  replace B := Aside0.mk (B.out.trans (hb.mono B.out.size))
  clear hb
  go_wp2_with fail
  refine (HW'.out _).mono ?_
  rintro e w4 ⟨rfl, hb⟩
  replace B := Aside0.mk (B.out.trans (hb.mono B.out.size))
  clear hb
  go_wp2_with fail
  refine (H1.out _).mono ?_
  rintro e w5 ⟨rfl, hb⟩
  replace B := Aside0.mk (B.out.trans (hb.mono B.out.size))
  clear hb
  go_wp2_with fail
  refine (H3.out _).mono ?_
  rintro e w6 ⟨rfl, hb⟩
  replace B := Aside0.mk (B.out.trans (hb.mono B.out.size))
  clear hb
  go_wp2_with fail
  refine (H4.out _).mono ?_
  rintro e w7 ⟨rfl, hb⟩
  replace B := Aside0.mk (B.out.trans (hb.mono B.out.size))
  clear hb
  go_wp2_with fail
  refine (H2.out _).mono ?_
  rintro e w8 ⟨rfl, hb⟩
  replace B := Aside0.mk (B.out.trans (hb.mono B.out.size))
  clear hb
  have hq : (((underS key t).size : Int) == (t.size : Int)) = true := by rw [H6.out]; exact beq_self_eq_true _
  go_wp2_with fail
  refine (H5.out _).mono ?_
  rintro e w9 ⟨rfl, hb⟩
  replace B := Aside0.mk (B.out.trans (hb.mono B.out.size))
  clear hb
  go_wp2_with fail
  go_ret
  exact ⟨by simp, B.out⟩
end Go.Proofs.Ytopobangjpehnaa.Walk
