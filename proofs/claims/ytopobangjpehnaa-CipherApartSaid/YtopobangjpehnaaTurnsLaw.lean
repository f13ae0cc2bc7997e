/- The walks of the laws CipherTurns, CipherChains. -/
import Derived.Test.YtopobangjpehnaaRefB
set_option linter.unusedVariables false
set_option linter.unusedSimpArgs false
namespace Go.Proofs.Ytopobangjpehnaa.Ref
open Go.RowKit Go.Proofs.YtopobangjpehnaaW.PrintWords Go.Proofs.YtopobangjpehnaaW.PrintLast Go.Proofs.YtopobangjpehnaaW.PrintMore Pr Des Num Walk

theorem new_fits (key : ByteArray) (hk : fitsB key = true) (w : World) :
    Calls Try.prog 29 #[.string key] w fun e w' => ∃ g, e = .returned (.tuple #[.pointer (some ⟨g, 0, none⟩), .int .i64 0]) ∧ w.heap.size ≤ g ∧ BlockOf w' g key ∧ Below w.heap.size w w' := new_yes key ((fits_kind key).1 hk) w
theorem new_fits_no (key : ByteArray) (hk : fitsB key = false) (w : World) :
    Calls Try.prog 29 #[.string key] w fun e w' => e = .returned (.tuple #[.pointer none, .int .i64 30]) ∧ Below w.heap.size w w' := new_no key ((fits_kind key).2 hk) w

set_option maxHeartbeats 4000000 in
set_option maxRecDepth 100000 in
theorem turns_law (key : ByteArray) (hk : key.size ≤ 140737488351232) (s : ByteArray) (hs : s.size ≤ 140737488351232) (w : World) :
    Calls Try.prog 5 #[.string key, .string s] w fun e w' => e = .returned (.bool true) ∧ Below w.heap.size w w' := by
  have L := Aside0.mk (refLength_any key)
  clear hk hs
  cases hf : fitsB key
  · rw [hf] at L
    have N := Aside0.mk (new_fits_no key hf)
    clear hf
    go_enter Try.func5, Try.ntmps5
    go_wp2_with fail
    refine (known_any _).mono ?_
    rintro e w1 ⟨rfl, hb⟩
    have B := Aside0.mk hb
    clear hb
    go_wp2_with fail
    refine (N.out _).mono ?_
    rintro e w2 ⟨rfl, hb⟩
    replace B := Aside0.mk (B.out.trans (hb.mono B.out.size))
    clear hb
    go_wp2_with fail
    refine (L.out _).mono ?_
    rintro e w3 ⟨rfl, hb⟩
    replace B := Aside0.mk (B.out.trans (hb.mono B.out.size))
    clear hb
    go_wp2_with fail
    go_ret
    exact ⟨by simp, B.out⟩
  · rw [hf] at L
    have N := Aside0.mk (new_fits key hf)
    have S := Aside0.mk (some_any s 800)
    have ht := someS_size s 800
    have T := Aside0.mk (fun g bk W hg => turned_any g key (someS s 800) hf (by omega) bk W hg)
    generalize someS s 800 = t at *
    clear hf ht
    go_enter Try.func5, Try.ntmps5
    go_wp2_with fail
    refine (known_any _).mono ?_
    rintro e w1 ⟨rfl, hb⟩
    have B := Aside0.mk hb
    clear hb
    go_wp2_with fail
    refine (N.out _).mono ?_
    rintro e w2 ⟨g, rfl, hge, hg, hb⟩
    replace B := Aside0.mk (B.out.trans (hb.mono B.out.size))
    have G := Aside0.mk hg
    clear hb hg hge N
    go_wp2_with fail
    refine (L.out _).mono ?_
    rintro e w3 ⟨rfl, hb⟩
    replace B := Aside0.mk (B.out.trans (hb.mono B.out.size))
    replace G := Aside0.mk (G.out.step hb)
    clear hb
    go_wp2_with fail
    refine (S.out _).mono ?_
    rintro e w4 ⟨rfl, hb⟩
    replace B := Aside0.mk (B.out.trans (hb.mono B.out.size))
    replace G := Aside0.mk (G.out.step hb)
    clear hb
    go_wp2_with fail
    refine (T.out g false _ G.out).mono ?_
    rintro e w5 ⟨rfl, hb⟩
    replace B := Aside0.mk (B.out.trans (hb.mono B.out.size))
    replace G := Aside0.mk (G.out.step hb)
    clear hb
    go_wp2_with fail
    refine (T.out g true _ G.out).mono ?_
    rintro e w6 ⟨rfl, hb⟩
    replace B := Aside0.mk (B.out.trans (hb.mono B.out.size))
    replace G := Aside0.mk (G.out.step hb)
    clear hb
    go_wp2_with fail
    go_ret
    exact ⟨by simp, B.out⟩
set_option maxHeartbeats 4000000 in
set_option maxRecDepth 100000 in
theorem chains_law (key : ByteArray) (hk : key.size ≤ 140737488351232) (first : ByteArray) (hf0 : first.size ≤ 140737488351232) (s : ByteArray) (hs : s.size ≤ 140737488351232) (w : World) :
    Calls Try.prog 10 #[.string key, .string first, .string s] w fun e w' => e = .returned (.bool true) ∧ Below w.heap.size w w' := by
  clear hk hs hf0
  cases hf : fitsB key
  · have N := Aside0.mk (new_fits_no key hf)
    clear hf
    go_enter Try.func10, Try.ntmps10
    go_wp2_with fail
    refine (known_any _).mono ?_
    rintro e w1 ⟨rfl, hb⟩
    have B := Aside0.mk hb
    clear hb
    go_wp2_with fail
    refine (N.out _).mono ?_
    rintro e w2 ⟨rfl, hb⟩
    replace B := Aside0.mk (B.out.trans (hb.mono B.out.size))
    clear hb
    go_wp2_with fail
    go_ret
    exact ⟨by simp, B.out⟩
  · have N := Aside0.mk (new_fits key hf)
    have S := Aside0.mk (some_any s 800)
    have ht := someS_size s 800
    have T := Aside0.mk (fun g bk W hg => chained_any g key first (someS s 800) hf (by omega) bk W hg)
    generalize someS s 800 = t at *
    clear hf ht
    go_enter Try.func10, Try.ntmps10
    go_wp2_with fail
    refine (known_any _).mono ?_
    rintro e w1 ⟨rfl, hb⟩
    have B := Aside0.mk hb
    clear hb
    go_wp2_with fail
    refine (N.out _).mono ?_
    rintro e w2 ⟨g, rfl, hge, hg, hb⟩
    replace B := Aside0.mk (B.out.trans (hb.mono B.out.size))
    have G := Aside0.mk hg
    clear hb hg hge N
    go_wp2_with fail
    refine (S.out _).mono ?_
    rintro e w4 ⟨rfl, hb⟩
    replace B := Aside0.mk (B.out.trans (hb.mono B.out.size))
    replace G := Aside0.mk (G.out.step hb)
    clear hb
    go_wp2_with fail
    refine (T.out g false _ G.out).mono ?_
    rintro e w5 ⟨rfl, hb⟩
    replace B := Aside0.mk (B.out.trans (hb.mono B.out.size))
    replace G := Aside0.mk (G.out.step hb)
    clear hb
    go_wp2_with fail
    refine (T.out g true _ G.out).mono ?_
    rintro e w6 ⟨rfl, hb⟩
    replace B := Aside0.mk (B.out.trans (hb.mono B.out.size))
    replace G := Aside0.mk (G.out.step hb)
    clear hb
    go_wp2_with fail
    go_ret
    exact ⟨by simp, B.out⟩
end Go.Proofs.Ytopobangjpehnaa.Ref
