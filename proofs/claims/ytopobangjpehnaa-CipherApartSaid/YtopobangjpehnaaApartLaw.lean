/- The walk of the law CipherApart. -/
import Derived.Test.YtopobangjpehnaaTurnsLaw
set_option linter.unusedVariables false
set_option linter.unusedSimpArgs false
namespace Go.Proofs.Ytopobangjpehnaa.Ref
open Go.RowKit Go.Proofs.YtopobangjpehnaaW.PrintWords Go.Proofs.YtopobangjpehnaaW.PrintLast Go.Proofs.YtopobangjpehnaaW.PrintMore Pr Des Num Walk

set_option maxHeartbeats 4000000 in
set_option maxRecDepth 100000 in
theorem apart_no (key : ByteArray) (other : ByteArray) (first : ByteArray) (s : ByteArray) (h : ¬ (fitsB key = true ∧ fitsB other = true)) (w : World) :
    Calls Try.prog 12 #[.string key, .string other, .string first, .string s] w fun e w' => e = .returned (.bool true) ∧ Below w.heap.size w w' := by
  have L1 := Aside0.mk (refLength_any key)
  have L2 := Aside0.mk (refLength_any other)
  cases h1 : fitsB key
  · rw [h1] at L1
    have N1 := Aside0.mk (new_fits_no key h1)
    cases h2 : fitsB other
    · rw [h2] at L2
      have N2 := Aside0.mk (new_fits_no other h2)
      clear h h1 h2
      go_enter Try.func12, Try.ntmps12
      go_wp2_with fail
      refine (known_any _).mono ?_
      rintro e w1 ⟨rfl, hb⟩
      have B := Aside0.mk hb
      clear hb
      go_wp2_with fail
      refine (N1.out _).mono ?_
      rintro e w2 ⟨rfl, hb⟩
      replace B := Aside0.mk (B.out.trans (hb.mono B.out.size))
      clear hb
      go_wp2_with fail
      refine (N2.out _).mono ?_
      rintro e w3 ⟨rfl, hb⟩
      replace B := Aside0.mk (B.out.trans (hb.mono B.out.size))
      clear hb
      go_wp2_with fail
      refine (N1.out _).mono ?_
      rintro e w4 ⟨rfl, hb⟩
      replace B := Aside0.mk (B.out.trans (hb.mono B.out.size))
      clear hb
      go_wp2_with fail
      refine (L1.out _).mono ?_
      rintro e w5 ⟨rfl, hb⟩
      replace B := Aside0.mk (B.out.trans (hb.mono B.out.size))
      clear hb
      go_wp2_with fail
      refine (L2.out _).mono ?_
      rintro e w6 ⟨rfl, hb⟩
      replace B := Aside0.mk (B.out.trans (hb.mono B.out.size))
      clear hb
      go_wp2_with fail
      go_ret
      exact ⟨by simp, B.out⟩
    · rw [h2] at L2
      have N2 := Aside0.mk (new_fits other h2)
      clear h h1 h2
      go_enter Try.func12, Try.ntmps12
      go_wp2_with fail
      refine (known_any _).mono ?_
      rintro e w1 ⟨rfl, hb⟩
      have B := Aside0.mk hb
      clear hb
      go_wp2_with fail
      refine (N1.out _).mono ?_
      rintro e w2 ⟨rfl, hb⟩
      replace B := Aside0.mk (B.out.trans (hb.mono B.out.size))
      clear hb
      go_wp2_with fail
      refine (N2.out _).mono ?_
      rintro e w3 ⟨g, rfl, hge, hg, hb⟩
      replace B := Aside0.mk (B.out.trans (hb.mono B.out.size))
      clear hb hg hge N2
      go_wp2_with fail
      refine (N1.out _).mono ?_
      rintro e w4 ⟨rfl, hb⟩
      replace B := Aside0.mk (B.out.trans (hb.mono B.out.size))
      clear hb
      go_wp2_with fail
      refine (L1.out _).mono ?_
      rintro e w5 ⟨rfl, hb⟩
      replace B := Aside0.mk (B.out.trans (hb.mono B.out.size))
      clear hb
      go_wp2_with fail
      refine (L2.out _).mono ?_
      rintro e w6 ⟨rfl, hb⟩
      replace B := Aside0.mk (B.out.trans (hb.mono B.out.size))
      clear hb
      go_wp2_with fail
      go_ret
      exact ⟨by simp, B.out⟩
  · rw [h1] at L1
    have N1 := Aside0.mk (new_fits key h1)
    have h2 : fitsB other = false := by
      cases h2 : fitsB other
      · rfl
      · exact absurd ⟨h1, h2⟩ h
    rw [h2] at L2
    have N2 := Aside0.mk (new_fits_no other h2)
    clear h h1 h2
    go_enter Try.func12, Try.ntmps12
    go_wp2_with fail
    refine (known_any _).mono ?_
    rintro e w1 ⟨rfl, hb⟩
    have B := Aside0.mk hb
    clear hb
    go_wp2_with fail
    refine (N1.out _).mono ?_
    rintro e w2 ⟨g, rfl, hge, hg, hb⟩
    replace B := Aside0.mk (B.out.trans (hb.mono B.out.size))
    clear hb hg hge
    go_wp2_with fail
    refine (N2.out _).mono ?_
    rintro e w3 ⟨rfl, hb⟩
    replace B := Aside0.mk (B.out.trans (hb.mono B.out.size))
    clear hb
    go_wp2_with fail
    refine (N1.out _).mono ?_
    rintro e w4 ⟨g4, rfl, hge, hg, hb⟩
    replace B := Aside0.mk (B.out.trans (hb.mono B.out.size))
    clear hb hg hge
    go_wp2_with fail
    refine (L1.out _).mono ?_
    rintro e w5 ⟨rfl, hb⟩
    replace B := Aside0.mk (B.out.trans (hb.mono B.out.size))
    clear hb
    go_wp2_with fail
    refine (L2.out _).mono ?_
    rintro e w6 ⟨rfl, hb⟩
    replace B := Aside0.mk (B.out.trans (hb.mono B.out.size))
    clear hb
    go_wp2_with fail
    go_ret
    exact ⟨by simp, B.out⟩
set_option maxHeartbeats 4000000 in
set_option maxRecDepth 100000 in
theorem apart_yes (key : ByteArray) (other : ByteArray) (first : ByteArray) (s : ByteArray) (h1 : fitsB key = true) (h2 : fitsB other = true) (w : World) :
    Calls Try.prog 12 #[.string key, .string other, .string first, .string s] w fun e w' => e = .returned (.bool true) ∧ Below w.heap.size w w' := by
  have N1 := Aside0.mk (new_fits key h1)
  have N2 := Aside0.mk (new_fits other h2)
  have S := Aside0.mk (some_any s 160)
  have ht := someS_size s 160
  have T1 := Aside0.mk (fun g bk W hg => turned_any g key (someS s 160) h1 (by omega) bk W hg)
  have T2 := Aside0.mk (fun g bk W hg => turned_any g other (someS s 160) h2 (by omega) bk W hg)
  have C1 := Aside0.mk (fun g bk W hg => chained_any g key first (someS s 160) h1 (by omega) bk W hg)
  generalize someS s 160 = t at *
  clear h1 h2 ht
  go_enter Try.func12, Try.ntmps12
  go_wp2_with fail
  refine (known_any _).mono ?_
  rintro e w1 ⟨rfl, hb⟩
  have B := Aside0.mk hb
  clear hb
  go_wp2_with fail
  refine (N1.out _).mono ?_
  rintro e w2 ⟨a, rfl, hge, hg, hb⟩
  replace B := Aside0.mk (B.out.trans (hb.mono B.out.size))
  have GA := Aside0.mk hg
  clear hb hg hge
  go_wp2_with fail
  refine (N2.out _).mono ?_
  rintro e w3 ⟨b, rfl, hge, hg, hb⟩
  replace B := Aside0.mk (B.out.trans (hb.mono B.out.size))
  replace GA := Aside0.mk (GA.out.step hb)
  have GB := Aside0.mk hg
  clear hb hg hge
  go_wp2_with fail
  refine (N1.out _).mono ?_
  rintro e w4 ⟨c, rfl, hge, hg, hb⟩
  replace B := Aside0.mk (B.out.trans (hb.mono B.out.size))
  replace GA := Aside0.mk (GA.out.step hb)
  replace GB := Aside0.mk (GB.out.step hb)
  have GC := Aside0.mk hg
  clear hb hg hge N1 N2
  go_wp2_with fail
  refine (S.out _).mono ?_
  rintro e w5 ⟨rfl, hb⟩
  replace B := Aside0.mk (B.out.trans (hb.mono B.out.size))
  replace GA := Aside0.mk (GA.out.step hb)
  replace GB := Aside0.mk (GB.out.step hb)
  replace GC := Aside0.mk (GC.out.step hb)
  clear hb
  go_wp2_with fail
  go_loopw [19] (fun v19 wr => ∃ i : Nat, i ≤ 2 ∧ v19 = .int .i64 (i : Int) ∧ Aside0 (BlockOf wr a key) ∧ Aside0 (BlockOf wr b other) ∧ Aside0 (BlockOf wr c key) ∧ Aside0 (Below w.heap.size w wr)) (fun v19 _ => 2 - (intOf v19).toNat)
  case atStart => exact ⟨0, by omega, rfl, GA, GB, GC, B⟩
  case round =>
    clear B GA GB GC
    obtain ⟨i, hi, rfl, GA, GB, GC, B⟩ := hrel
    by_cases hlt : i < 2
    · go_wp2_with fail
      refine (T1.out a false _ GA.out).mono ?_
      rintro e x1 ⟨rfl, hb⟩
      replace B := Aside0.mk (B.out.trans (hb.mono B.out.size))
      replace GA := Aside0.mk (GA.out.step hb)
      replace GB := Aside0.mk (GB.out.step hb)
      replace GC := Aside0.mk (GC.out.step hb)
      clear hb
      go_wp2_with fail
      refine (T2.out b true _ GB.out).mono ?_
      rintro e x2 ⟨rfl, hb⟩
      replace B := Aside0.mk (B.out.trans (hb.mono B.out.size))
      replace GA := Aside0.mk (GA.out.step hb)
      replace GB := Aside0.mk (GB.out.step hb)
      replace GC := Aside0.mk (GC.out.step hb)
      clear hb
      go_wp2_with fail
      refine (C1.out a false _ GA.out).mono ?_
      rintro e x3 ⟨rfl, hb⟩
      replace B := Aside0.mk (B.out.trans (hb.mono B.out.size))
      replace GA := Aside0.mk (GA.out.step hb)
      replace GB := Aside0.mk (GB.out.step hb)
      replace GC := Aside0.mk (GC.out.step hb)
      clear hb
      go_wp2_with fail
      refine (T2.out b false _ GB.out).mono ?_
      rintro e x4 ⟨rfl, hb⟩
      replace B := Aside0.mk (B.out.trans (hb.mono B.out.size))
      replace GA := Aside0.mk (GA.out.step hb)
      replace GB := Aside0.mk (GB.out.step hb)
      replace GC := Aside0.mk (GC.out.step hb)
      clear hb
      go_wp2_with fail
      refine (C1.out c true _ GC.out).mono ?_
      rintro e x5 ⟨rfl, hb⟩
      replace B := Aside0.mk (B.out.trans (hb.mono B.out.size))
      replace GA := Aside0.mk (GA.out.step hb)
      replace GB := Aside0.mk (GB.out.step hb)
      replace GC := Aside0.mk (GC.out.step hb)
      clear hb
      go_wp2_with fail
      go_roundw
      case rel => exact ⟨i + 1, by omega, by go_num, GA, GB, GC, B⟩
      case measure => simp [intOf]; omega
    · obtain rfl : i = 2 := by omega
      go_wp2_with fail
      go_ret
      exact ⟨rfl, B.out⟩
theorem apart_law (key : ByteArray) (h0 : key.size ≤ 140737488351232) (other : ByteArray) (h1 : other.size ≤ 140737488351232) (first : ByteArray) (h2 : first.size ≤ 140737488351232) (s : ByteArray) (h3 : s.size ≤ 140737488351232) (w : World) :
    Calls Try.prog 12 #[.string key, .string other, .string first, .string s] w fun e w' => e = .returned (.bool true) ∧ Below w.heap.size w w' := by
  by_cases h : fitsB key = true ∧ fitsB other = true
  · exact apart_yes key other first s h.1 h.2 w
  · exact apart_no key other first s h w
end Go.Proofs.Ytopobangjpehnaa.Ref
