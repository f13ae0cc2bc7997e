/- turnstileref4's Slots: Tag, Right, Round, Put. -/
import Derived.Test.YtopobangjpehnaaGreatRefSlots
set_option linter.unusedVariables false
set_option linter.unusedSimpArgs false
namespace Go.Proofs.YtopobangjpehnaaGreat.Seal
open Go.RowKit Go.Proofs.YtopobangjpehnaaGreatW.PrintWords Go.Proofs.YtopobangjpehnaaGreatW.PrintLast Go.Proofs.YtopobangjpehnaaGreatW.PrintMore Pr Des Num Walk

theorem at_out' (g b : Nat) (L : List SlotD) (i : Int) (hi : i < 0 ∨ (L.length : Int) ≤ i) (w : World) (h : RefAt w g b L) :
    Calls Tryz.prog 24 #[.pointer (some ⟨g, 0, none⟩), .int .i64 i] w fun e w' => e = .returned (.tuple #[.agg #[.bool false, .int .i64 0, .int .i64 0, .string ⟨#[]⟩, .string ⟨#[]⟩, .int .i64 0], .bool false]) ∧ Below w.heap.size w w' := rat_out g b L i hi w h
theorem at_in' (g b : Nat) (L : List SlotD) (i : Nat) (hi : i < L.length) (w : World) (h : RefAt w g b L) :
    Calls Tryz.prog 24 #[.pointer (some ⟨g, 0, none⟩), .int .i64 (i : Int)] w fun e w' => e = .returned (.tuple #[.agg #[.bool (L[i].alg != 0), .int .i64 L[i].alg, .int .i64 L[i].method, .string L[i].key, .string L[i].exchange, .int .i64 L[i].round], .bool (L[i].alg != 0)]) ∧ Below w.heap.size w w' := rat_in g b L i hi w h

/-! ### Tag -/
set_option maxHeartbeats 2000000 in
set_option maxRecDepth 100000 in
theorem rtag_out (g b : Nat) (L : List SlotD) (i : Int) (hi : i < 0 ∨ (L.length : Int) ≤ i) (s : ByteArray) (w : World) (h : RefAt w g b L) :
    Calls Tryz.prog 9 #[.pointer (some ⟨g, 0, none⟩), .int .i64 i, .string s] w fun e w' => e = .returned (.tuple #[.string ⟨#[]⟩, .int .i64 40]) ∧ Below w.heap.size w w' := by
  have AT := Aside0.mk (at_out' g b L i hi w h)
  clear h hi
  go_enter Tryz.func9, Tryz.ntmps9
  go_wp2_with fail
  refine (AT.out).mono ?_
  rintro e w1 ⟨rfl, hb⟩
  have B := Aside0.mk hb
  clear hb
  go_wp2_with fail
  go_ret2
  exact ⟨rfl, below_alloc B.out _⟩
set_option maxHeartbeats 2000000 in
set_option maxRecDepth 100000 in
theorem rtag_empty (g b : Nat) (L : List SlotD) (i : Nat) (hi : i < L.length) (h0 : L[i].alg = 0) (s : ByteArray) (w : World) (h : RefAt w g b L) :
    Calls Tryz.prog 9 #[.pointer (some ⟨g, 0, none⟩), .int .i64 (i : Int), .string s] w fun e w' => e = .returned (.tuple #[.string ⟨#[]⟩, .int .i64 40]) ∧ Below w.heap.size w w' := by
  have AT := Aside0.mk (at_in' g b L i hi w h)
  rw [h0, show ((0 : Int) != 0) = false from rfl] at AT
  generalize L[i] = x at *
  clear h hi h0
  go_enter Tryz.func9, Tryz.ntmps9
  go_wp2_with fail
  refine (AT.out).mono ?_
  rintro e w1 ⟨rfl, hb⟩
  have B := Aside0.mk hb
  clear hb
  go_wp2_with fail
  go_ret2
  exact ⟨rfl, below_alloc B.out _⟩
set_option maxHeartbeats 2000000 in
set_option maxRecDepth 100000 in
theorem rtag_in (g b : Nat) (L : List SlotD) (i : Nat) (hi : i < L.length) (h0 : L[i].alg ≠ 0) (s : ByteArray) (hs : s.size ≤ 140737488354000) (w : World) (h : RefAt w g b L) :
    Calls Tryz.prog 9 #[.pointer (some ⟨g, 0, none⟩), .int .i64 (i : Int), .string s] w fun e w' => e = .returned (.tuple #[.string (tagT L[i].alg L[i].method L[i].key s), .int .i64 (tagE L[i].alg L[i].method L[i].key)]) ∧ Below w.heap.size w w' := by
  have AT := Aside0.mk (at_in' g b L i hi w h)
  have T := Aside0.mk (refTag_all L[i].alg L[i].method L[i].key s hs)
  rw [show (L[i].alg != 0) = true by rw [bne_iff_ne]; exact h0] at AT
  generalize L[i] = x at *
  clear h hi h0 hs
  go_enter Tryz.func9, Tryz.ntmps9
  go_wp2_with fail
  refine (AT.out).mono ?_
  rintro e w1 ⟨rfl, hb⟩
  have B := Aside0.mk hb
  clear hb
  go_wp2_with fail
  refine (T.out _).mono ?_
  rintro e w2 ⟨rfl, hb⟩
  have b2 := below_alloc B.out (.cells #[.bool true, .int .i64 x.alg, .int .i64 x.method, .string x.key, .string x.exchange, .int .i64 x.round] 65)
  replace B := Aside0.mk (b2.trans (hb.mono b2.size))
  clear b2 hb
  go_wp2_with fail
  go_ret2
  exact ⟨rfl, B.out⟩

/-! ### Round -/
set_option maxHeartbeats 2000000 in
set_option maxRecDepth 100000 in
theorem rround_out (g b : Nat) (L : List SlotD) (i : Int) (hi : i < 0 ∨ (L.length : Int) ≤ i) (w : World) (h : RefAt w g b L) :
    Calls Tryz.prog 11 #[.pointer (some ⟨g, 0, none⟩), .int .i64 i] w fun e w' => e = .returned (.int .i64 0) ∧ Below w.heap.size w w' := by
  have AT := Aside0.mk (at_out' g b L i hi w h)
  clear h hi
  go_enter Tryz.func11, Tryz.ntmps11
  go_wp2_with fail
  refine (AT.out).mono ?_
  rintro e w1 ⟨rfl, hb⟩
  have B := Aside0.mk hb
  clear hb
  go_wp2_with fail
  go_ret
  exact ⟨rfl, below_alloc B.out _⟩
set_option maxHeartbeats 2000000 in
set_option maxRecDepth 100000 in
theorem rround_in (g b : Nat) (L : List SlotD) (i : Nat) (hi : i < L.length) (w : World) (h : RefAt w g b L) :
    Calls Tryz.prog 11 #[.pointer (some ⟨g, 0, none⟩), .int .i64 (i : Int)] w fun e w' => e = .returned (.int .i64 L[i].round) ∧ Below w.heap.size w w' := by
  have AT := Aside0.mk (at_in' g b L i hi w h)
  generalize L[i] = x at *
  clear h hi
  go_enter Tryz.func11, Tryz.ntmps11
  go_wp2_with fail
  refine (AT.out).mono ?_
  rintro e w1 ⟨rfl, hb⟩
  have B := Aside0.mk hb
  clear hb
  go_wp2_with fail
  go_ret
  exact ⟨rfl, below_alloc B.out _⟩

/-! ### Right -/
set_option maxHeartbeats 2000000 in
set_option maxRecDepth 100000 in
theorem rright_of (p : Value) (n : Int) (s t T : ByteArray) (E : Int) (w : World) (h : Calls Tryz.prog 9 #[p, .int .i64 n, .string s] w fun e w' => e = .returned (.tuple #[.string T, .int .i64 E]) ∧ Below w.heap.size w w') :
    Calls Tryz.prog 18 #[p, .int .i64 n, .string s, .string t] w fun e w' => e = .returned (.tuple #[.bool (decide (E = 0 ∧ T = t)), .int .i64 E]) ∧ Below w.heap.size w w' := by
  have C := Aside0.mk h
  clear h
  by_cases h0 : E = 0
  · subst h0
    have e : decide ((0 : Int) = 0 ∧ T = t) = (T.toList == t.toList) := by
      rw [Bool.eq_iff_iff, decide_eq_true_iff, beq_iff_eq]
      constructor
      · rintro ⟨_, h⟩; rw [h]
      · intro h
        refine ⟨rfl, byteArray_ext ?_⟩
        rw [ByteArray.toList_eq, ByteArray.toList_eq] at h
        exact h
    rw [e]
    clear e
    go_enter Tryz.func18, Tryz.ntmps18
    go_wp2_with fail
    refine (C.out).mono ?_
    rintro e w1 ⟨rfl, hb⟩
    have B := Aside0.mk hb
    clear hb
    go_wp2_with fail
    go_ret2
    exact ⟨rfl, B.out⟩
  · rw [decide_eq_false (fun x => h0 x.1)]
    have b1 : (E != 0) = true := by rw [bne_iff_ne]; exact h0
    clear h0
    go_enter Tryz.func18, Tryz.ntmps18
    go_wp2_with fail
    refine (C.out).mono ?_
    rintro e w1 ⟨rfl, hb⟩
    have B := Aside0.mk hb
    clear hb
    go_wp2_with fail
    go_ret2
    exact ⟨rfl, B.out⟩

/-! ### Put -/
set_option maxHeartbeats 4000000 in
set_option maxRecDepth 100000 in
theorem rput_out (g b : Nat) (L : List SlotD) (i alg m : Int) (key exch : ByteArray) (hi : i < 0 ∨ (L.length : Int) ≤ i) (w : World) (h : RefAt w g b L) :
    Calls Tryz.prog 14 #[.pointer (some ⟨g, 0, none⟩), .int .i64 i, .int .i64 alg, .int .i64 m, .string key, .string exch] w fun e w' => e = .returned (.int .i64 40) ∧ Below w.heap.size w w' := by
  have c0 := h.cell0
  clear h
  generalize L.length = n at *
  rcases hi with hi | hi
  · go_enter Tryz.func14, Tryz.ntmps14
    go_wp2
    go_ret
    exact ⟨rfl, Below.refl _ _⟩
  · have hi0 : ¬ i < 0 := by omega
    go_enter Tryz.func14, Tryz.ntmps14
    go_wp2
    go_ret
    exact ⟨rfl, Below.refl _ _⟩
set_option maxHeartbeats 4000000 in
set_option maxRecDepth 100000 in
theorem rput_arg (g b : Nat) (L : List SlotD) (i : Nat) (alg m : Int) (key exch : ByteArray) (hi : i < L.length) (hw : wantsN alg m = 0) (w : World) (h : RefAt w g b L) :
    Calls Tryz.prog 14 #[.pointer (some ⟨g, 0, none⟩), .int .i64 (i : Int), .int .i64 alg, .int .i64 m, .string key, .string exch] w fun e w' => e = .returned (.int .i64 1) ∧ Below w.heap.size w w' := by
  have c0 := h.cell0
  have Z := Aside0.mk (refSize_any alg)
  have h2 : (sizeN alg == 0) = true ∨ (sizeN alg == 0) = false ∧ m < 1 ∨ (sizeN alg == 0) = false ∧ ¬ m < 1 ∧ 2 < m := by
    rw [beq_iff_eq, beq_eq_false_iff_ne]
    unfold wantsN at hw
    unfold sizeN
    by_cases hm : m = 1 ∨ m = 2
    · rw [if_pos hm] at hw
      exact .inl hw
    · by_cases hz : (if alg = 1 then (8 : Int) else if alg = 3 then 16 else 0) = 0
      · exact .inl hz
      · by_cases h1 : m < 1
        · exact .inr (.inl ⟨hz, h1⟩)
        · exact .inr (.inr ⟨hz, h1, by omega⟩)
  generalize sizeN alg = z at *
  generalize L.length = n at *
  clear h hw
  rcases h2 with b1 | ⟨b1, b2⟩ | ⟨b1, b2, b3⟩
  all_goals
    go_enter Tryz.func14, Tryz.ntmps14
    go_wp2_with fail
    refine (Z.out _).mono ?_
    rintro e w1 ⟨rfl, hb⟩
    have B := Aside0.mk hb
    clear hb
    go_wp2_with fail
    go_ret
    exact ⟨rfl, B.out⟩
set_option maxHeartbeats 4000000 in
set_option maxRecDepth 100000 in
theorem rput_key (g b : Nat) (L : List SlotD) (i : Nat) (alg m : Int) (key exch : ByteArray) (hi : i < L.length) (hw : wantsN alg m ≠ 0) (hk : (key.size : Int) ≠ wantsN alg m ∨ exch.size ≠ 0 ∧ exch.size ≠ 16) (w : World) (h : RefAt w g b L) :
    Calls Tryz.prog 14 #[.pointer (some ⟨g, 0, none⟩), .int .i64 (i : Int), .int .i64 alg, .int .i64 m, .string key, .string exch] w fun e w' => e = .returned (.int .i64 30) ∧ Below w.heap.size w w' := by
  have c0 := h.cell0
  have Z := Aside0.mk (refSize_any alg)
  have hm := (wants_ok hw).1
  rw [wants_size hw] at hk hw
  generalize sizeN alg = z at *
  have m1 : ¬ m < 1 := by omega
  have m2 : ¬ 2 < m := by omega
  have b0 : (z == 0) = false := by rw [beq_eq_false_iff_ne]; exact hw
  have hk2 : ((key.size : Int) != z) = true ∨ ((key.size : Int) != z) = false ∧ ((exch.size : Int) != 0) = true ∧ ((exch.size : Int) != 16) = true := by
    rw [bne_iff_ne, bne_eq_false_iff_eq, bne_iff_ne, bne_iff_ne]
    omega
  generalize L.length = n at *
  clear h hk hm hw
  rcases hk2 with b1 | ⟨b1, b2, b3⟩
  all_goals
    go_enter Tryz.func14, Tryz.ntmps14
    go_wp2_with fail
    refine (Z.out _).mono ?_
    rintro e w1 ⟨rfl, hb⟩
    have B := Aside0.mk hb
    clear hb
    go_wp2_with fail
    refine (Z.out _).mono ?_
    rintro e w2 ⟨rfl, hb⟩
    replace B := Aside0.mk (B.out.trans (hb.mono B.out.size))
    clear hb
    go_wp2_with fail
    go_ret
    exact ⟨rfl, B.out⟩
set_option maxHeartbeats 8000000 in
set_option maxRecDepth 100000 in
theorem rput_yes (g b : Nat) (L : List SlotD) (i : Nat) (alg m : Int) (key exch : ByteArray) (hi : i < L.length) (hw : wantsN alg m ≠ 0) (hk : (key.size : Int) = wantsN alg m) (he : exch.size = 0 ∨ exch.size = 16) (w : World) (h : RefAt w g b L) :
    Calls Tryz.prog 14 #[.pointer (some ⟨g, 0, none⟩), .int .i64 (i : Int), .int .i64 alg, .int .i64 m, .string key, .string exch] w fun e w' => e = .returned (.int .i64 0) ∧ RefAt w' g b (L.set i ⟨alg, m, key, exch, 0⟩) ∧ Kp w.heap.size b w w' := by
  have H := Aside0.mk h
  have c0 := h.cell0
  have Z := Aside0.mk (refSize_any alg)
  have ha : alg ≠ 0 := by have := (wants_ok hw).2; omega
  have hm := (wants_ok hw).1
  have HP := Aside0.mk (allRef_put L i hi ⟨alg, m, key, exch, 0⟩)
  have HZ := Aside0.mk (allRef_size L)
  have HI := Aside0.mk hi
  have HV : Aside0 (refCells ⟨alg, m, key, exch, 0⟩ = [.bool true, .int .i64 alg, .int .i64 m, .string key, .string exch, .int .i64 0]) := ⟨by
    unfold refCells
    rw [show (alg != 0) = true by rw [bne_iff_ne]; exact ha]⟩
  have HL : Aside0 ((L.set i ⟨alg, m, key, exch, 0⟩).length = L.length) := ⟨List.length_set⟩
  rw [wants_size hw] at hk hw
  generalize sizeN alg = z at *
  have m1 : ¬ m < 1 := by omega
  have m2 : ¬ 2 < m := by omega
  have b0 : (z == 0) = false := by rw [beq_eq_false_iff_ne]; exact hw
  have b1 : ((key.size : Int) != z) = false := by rw [bne_eq_false_iff_eq]; exact hk
  have he2 : ((exch.size : Int) != 0) = false ∨ ((exch.size : Int) != 0) = true ∧ ((exch.size : Int) != 16) = false := by
    rw [bne_eq_false_iff_eq, bne_iff_ne, bne_eq_false_iff_eq]
    omega
  generalize hn : L.length = n at *
  have HN := Aside0.mk hn
  clear h hk hm hw hn he ha
  rcases he2 with b2 | ⟨b2, b3⟩
  all_goals
    go_enter Tryz.func14, Tryz.ntmps14
    go_wp2_with fail
    refine (Z.out _).mono ?_
    rintro e w1 ⟨rfl, hb⟩
    have B := Aside0.mk hb
    replace H := Aside0.mk (H.out.step hb)
    clear hb
    go_wp2_with fail
    refine (Z.out _).mono ?_
    rintro e w2 ⟨rfl, hb⟩
    replace B := Aside0.mk (B.out.trans (hb.mono B.out.size))
    replace H := Aside0.mk (H.out.step hb)
    clear hb
    have c2 := H.out.cell0
    rw [HN.out] at c2
    clear c0
    go_wp2_with (refine wpList_store_part (vs := (refCells ⟨alg, m, key, exch, 0⟩).toArray) rfl 65 (.tmp 60) (.tmp 59) rfl (o := i * 6) rfl (by rw [HV.out]; rfl) H.out.body (by rw [HZ.out]; show i * 6 + 6 ≤ _; have := HI.out; have := HN.out; omega) size65 (by intro v hv; simp only [HV.out, List.toList_toArray, List.mem_cons, List.mem_nil_iff, or_false] at hv; rcases hv with rfl | rfl | rfl | rfl | rfl | rfl <;> rfl) ?_)
    rw [HP.out]
    have H2 : Aside0 (RefAt (w2.setRow b (allRef (L.set i ⟨alg, m, key, exch, 0⟩))) g b (L.set i ⟨alg, m, key, exch, 0⟩)) := ⟨⟨by rw [HL.out, ← HN.out]; exact H.out.head.farRow H.out.ne _, H.out.body.setRow _⟩⟩
    have K2 : Aside0 (Kp w.heap.size b w (w2.setRow b (allRef (L.set i ⟨alg, m, key, exch, 0⟩)))) := ⟨(Kp.of_below B.out).trans ⟨rfl, rfl, rfl, by simp, fun k hk hc => setRow_other w2 b k _ hc⟩⟩
    clear H B HP HZ HI
    generalize w2.setRow b (allRef (L.set i ⟨alg, m, key, exch, 0⟩)) = w4 at *
    go_wp2_with fail
    go_ret
    exact ⟨rfl, H2.out, K2.out⟩
end Go.Proofs.YtopobangjpehnaaGreat.Seal
