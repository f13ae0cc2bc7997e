/- seal.Slots: NewSlots, Right, Round, Put. -/
import Derived.Test.YtopobangjpehnaaGreatSlots
set_option linter.unusedVariables false
set_option linter.unusedSimpArgs false
namespace Go.Proofs.YtopobangjpehnaaGreat.Seal
open Go.RowKit Go.Proofs.YtopobangjpehnaaGreatW.PrintWords Go.Proofs.YtopobangjpehnaaGreatW.PrintLast Go.Proofs.YtopobangjpehnaaGreatW.PrintMore Pr Des Num Walk
open Go.MuLone

theorem slotCells_length (x : SlotD) : (slotCells x).length = 5 := rfl
theorem flat_set : ∀ (L : List SlotD) (i j : Nat) (hi : i < L.length) (hj : j < 5) (v : Value) (x : SlotD), slotCells x = (slotCells L[i]).set j v → (L.flatMap slotCells).set (i * 5 + j) v = (L.set i x).flatMap slotCells
  | [], i, j, hi, _, _, _, _ => by simp at hi
  | y :: L, 0, j, hi, hj, v, x, h => by
    have h' : slotCells x = (slotCells y).set j v := h
    rw [List.flatMap_cons, Nat.zero_mul, Nat.zero_add, List.set_append_left _ _ (by rw [slotCells_length]; exact hj), List.set_cons_zero, List.flatMap_cons, h']
  | y :: L, i + 1, j, hi, hj, v, x, h => by
    rw [List.flatMap_cons, List.set_append_right _ _ (by rw [slotCells_length]; omega), slotCells_length, show (i + 1) * 5 + j - 5 = i * 5 + j by omega, List.set_cons_succ, List.flatMap_cons,
      flat_set L i j (by simpa using hi) hj v x (by simpa using h)]
theorem allCells_set (L : List SlotD) (i j : Nat) (hi : i < L.length) (hj : j < 5) (v : Value) (x : SlotD) (h : slotCells x = (slotCells L[i]).set j v) : (allCells L).setIfInBounds (i * 5 + j) v = allCells (L.set i x) := by
  unfold allCells
  rw [List.setIfInBounds_toArray, flat_set L i j hi hj v x h]
theorem flat_put : ∀ (L : List SlotD) (i : Nat) (hi : i < L.length) (x : SlotD), (L.flatMap slotCells).take (i * 5) ++ slotCells x ++ (L.flatMap slotCells).drop (i * 5 + 5) = (L.set i x).flatMap slotCells
  | [], i, hi, _ => by simp at hi
  | y :: L, 0, hi, x => by
    rw [List.flatMap_cons, Nat.zero_mul, List.take_zero, List.nil_append, Nat.zero_add, List.drop_left' (slotCells_length y), List.set_cons_zero, List.flatMap_cons]
  | y :: L, i + 1, hi, x => by
    have ih := flat_put L i (by simpa using hi) x
    rw [List.flatMap_cons, show (i + 1) * 5 = (slotCells y).length + i * 5 by rw [slotCells_length]; omega, List.take_length_add_append, show (slotCells y).length + i * 5 + 5 = (slotCells y).length + (i * 5 + 5) by omega, List.drop_length_add_append,
      List.set_cons_succ, List.flatMap_cons, ← ih]
    simp only [List.append_assoc]
theorem allCells_put (L : List SlotD) (i : Nat) (hi : i < L.length) (x : SlotD) : ((allCells L).toList.take (i * 5) ++ (slotCells x ++ (allCells L).toList.drop (i * 5 + (slotCells x).length))).toArray = allCells (L.set i x) := by
  unfold allCells
  simp only [slotCells_length]
  rw [← List.append_assoc, flat_put L i hi x]
/-- The lock given back behind a change of the slots. -/
theorem lock_back_kp {w W : World} {g b : Nat} {L L' : List SlotD} (h : SlotsAt w g b L) (hl : L'.length = L.length) (h1 : SlotsIn W g b L' 1) (hb : Kp (w.setCell ⟨g, 0, none⟩ (.int .i32 1)).heap.size b (w.setCell ⟨g, 0, none⟩ (.int .i32 1)) W) :
    SlotsAt (W.setCell ⟨g, 0, none⟩ (.int .i32 0)) g b L' ∧ Kp w.heap.size b w (W.setCell ⟨g, 0, none⟩ (.int .i32 0)) := by
  have hsz : (w.setCell ⟨g, 0, none⟩ (.int .i32 1)).heap.size = w.heap.size := by simp [World.setCell]
  have h0 := h1.lock 0
  refine ⟨h0, hb.os, hb.tape, hb.output, by have := hb.size; rw [hsz] at this; simpa [World.setCell] using this, fun k hk hc => ?_⟩
  by_cases e : k = g
  · subst e
    have e1 := h0.head
    rw [hl] at e1
    exact e1.trans h.head.symm
  · exact (Below.heap_setCell W ⟨g, 0, none⟩ _ k e).trans ((hb.block k (by rw [hsz]; exact hk) hc).trans (Below.heap_setCell w ⟨g, 0, none⟩ _ k e))
theorem SlotsIn.kp {w w' : World} {g b : Nat} {L : List SlotD} {s : Int} {c : Nat} (h : SlotsIn w g b L s) (hb : Kp w.heap.size c w w') (hg : c ≠ g) (hc : c ≠ b) : SlotsIn w' g b L s :=
  ⟨(hb.block g h.head.lt (Ne.symm hg)).trans h.head, (hb.block b h.body.lt (Ne.symm hc)).trans h.body⟩

/-! ### Round -/
set_option maxHeartbeats 4000000 in
set_option maxRecDepth 100000 in
theorem round_in (g b : Nat) (L : List SlotD) (i : Nat) (hi : i < L.length) (w : World) (h : SlotsAt w g b L) :
    Calls Tryz.prog 10 #[.pointer (some ⟨g, 0, none⟩), .int .i64 (i : Int)] w fun e w' => e = .returned (.int .i64 L[i].round) ∧ Below w.heap.size w w' := by
  have c0 := h.cell0
  have f0 := h.head.frozen 0
  have H := Aside0.mk h
  have AT := Aside0.mk (fun W hW => at_in g b L 1 i hi W hW)
  have HS := Aside0.mk (fun W (hW : SlotsIn W g b L 1) => hW.slot i hi)
  generalize L[i] = x at *
  clear h hi
  go_enter_defers Tryz.func10, Tryz.ntmps10
  go_wp2_with fail
  refine (lock_free muLib ⟨g, 0, none⟩ _ c0 f0).mono ?_
  rintro e w1 ⟨rfl, hw1⟩
  have HB := Aside0.mk (fun W (hb : Below w1.heap.size w1 W) => by rw [hw1] at hb; exact lock_back H.out hb)
  have H1 : Aside0 (SlotsIn w1 g b L 1) := ⟨by rw [hw1]; exact H.out.lock 1⟩
  clear hw1 c0 f0 H
  go_wp2_with fail
  refine (AT.out _ H1.out).mono ?_
  rintro e w2 ⟨rfl, hb⟩
  have B := Aside0.mk hb
  replace H1 := Aside0.mk (H1.out.step hb)
  clear hb AT
  obtain ⟨q0, q1, q2, q3, q4⟩ := HS.out _ H1.out
  go_wp2_with fail
  refine leaves_cons (f := 21) (args := #[.pointer (some ⟨g, 0, none⟩)]) (by simp) (by simp [go_sem]) ?_
  refine (unlock_deferred muLib ⟨g, 0, none⟩ .returning _ H1.out.cell0 (H1.out.head.frozen 0)).mono ?_
  rintro e u' wz ⟨rfl, rfl, rfl⟩
  exact ⟨_, results_tmp rfl _ _ _, rfl, HB.out _ B.out⟩
set_option maxHeartbeats 4000000 in
set_option maxRecDepth 100000 in
theorem round_out (g b : Nat) (L : List SlotD) (i : Int) (hi : i < 0 ∨ (L.length : Int) ≤ i) (w : World) (h : SlotsAt w g b L) :
    Calls Tryz.prog 10 #[.pointer (some ⟨g, 0, none⟩), .int .i64 i] w fun e w' => e = .returned (.int .i64 0) ∧ Below w.heap.size w w' := by
  have c0 := h.cell0
  have f0 := h.head.frozen 0
  have H := Aside0.mk h
  have AT := Aside0.mk (fun W hW => at_out g b L 1 i hi W hW)
  clear h hi
  go_enter_defers Tryz.func10, Tryz.ntmps10
  go_wp2_with fail
  refine (lock_free muLib ⟨g, 0, none⟩ _ c0 f0).mono ?_
  rintro e w1 ⟨rfl, hw1⟩
  have HB := Aside0.mk (fun W (hb : Below w1.heap.size w1 W) => by rw [hw1] at hb; exact lock_back H.out hb)
  have H1 : Aside0 (SlotsIn w1 g b L 1) := ⟨by rw [hw1]; exact H.out.lock 1⟩
  clear hw1 c0 f0 H
  go_wp2_with fail
  refine (AT.out _ H1.out).mono ?_
  rintro e w2 ⟨rfl, hb⟩
  have B := Aside0.mk hb
  replace H1 := Aside0.mk (H1.out.step hb)
  clear hb AT
  go_wp2_with fail
  refine leaves_cons (f := 21) (args := #[.pointer (some ⟨g, 0, none⟩)]) (by simp) (by simp [go_sem]) ?_
  refine (unlock_deferred muLib ⟨g, 0, none⟩ .returning _ H1.out.cell0 (H1.out.head.frozen 0)).mono ?_
  rintro e u' wz ⟨rfl, rfl, rfl⟩
  exact ⟨_, results_tmp rfl _ _ _, rfl, HB.out _ B.out⟩

/-! ### Right -/
set_option maxHeartbeats 2000000 in
set_option maxRecDepth 100000 in
theorem right_of (p : Value) (n : Int) (s t T : ByteArray) (E : Int) (hT : T.size ≤ 140737488355328) (w : World) (h : Calls Tryz.prog 8 #[p, .int .i64 n, .string s] w fun e w' => e = .returned (.tuple #[.string T, .int .i64 E]) ∧ Below w.heap.size w w') :
    Calls Tryz.prog 17 #[p, .int .i64 n, .string s, .string t] w fun e w' => e = .returned (.tuple #[.bool (decide (E = 0 ∧ T = t)), .int .i64 E]) ∧ Below w.heap.size w w' := by
  have C := Aside0.mk h
  have S := Aside0.mk (same_any T t hT)
  clear h
  by_cases h0 : E = 0
  · subst h0
    have e : decide ((0 : Int) = 0 ∧ T = t) = decide (T = t) := by simp
    rw [e]
    generalize decide (T = t) = X at *
    clear e
    go_enter Tryz.func17, Tryz.ntmps17
    go_wp2_with fail
    refine (C.out).mono ?_
    rintro e w1 ⟨rfl, hb⟩
    have B := Aside0.mk hb
    clear hb
    go_wp2_with fail
    refine (S.out _).mono ?_
    rintro e w2 ⟨rfl, hb⟩
    replace B := Aside0.mk (B.out.trans (hb.mono B.out.size))
    clear hb
    go_wp2_with fail
    go_ret2
    exact ⟨rfl, B.out⟩
  · rw [decide_eq_false (fun x => h0 x.1)]
    have b1 : (E != 0) = true := by rw [bne_iff_ne]; exact h0
    clear h0
    go_enter Tryz.func17, Tryz.ntmps17
    go_wp2_with fail
    refine (C.out).mono ?_
    rintro e w1 ⟨rfl, hb⟩
    have B := Aside0.mk hb
    clear hb
    go_wp2_with fail
    go_ret2
    exact ⟨rfl, B.out⟩

/-! ### Put -/
set_option maxHeartbeats 4000000 in
set_option maxRecDepth 100000 in
theorem put_out (g b : Nat) (L : List SlotD) (i alg m : Int) (key exch : ByteArray) (hi : i < 0 ∨ (L.length : Int) ≤ i) (w : World) (h : SlotsAt w g b L) :
    Calls Tryz.prog 13 #[.pointer (some ⟨g, 0, none⟩), .int .i64 i, .int .i64 alg, .int .i64 m, .string key, .string exch] w fun e w' => e = .returned (.int .i64 40) ∧ Below w.heap.size w w' := by
  have c0 := h.cell0
  have f0 := h.head.frozen 0
  have H := Aside0.mk h
  have AT := Aside0.mk (fun W hW => at_out g b L 1 i hi W hW)
  have WN := Aside0.mk (wants_any alg m)
  generalize wantsN alg m = wn at *
  clear h hi
  go_enter_defers Tryz.func13, Tryz.ntmps13
  go_wp2_with fail
  refine (lock_free muLib ⟨g, 0, none⟩ _ c0 f0).mono ?_
  rintro e w1 ⟨rfl, hw1⟩
  have HB := Aside0.mk (fun W (hb : Below w1.heap.size w1 W) => by rw [hw1] at hb; exact lock_back H.out hb)
  have H1 : Aside0 (SlotsIn w1 g b L 1) := ⟨by rw [hw1]; exact H.out.lock 1⟩
  clear hw1 c0 f0 H
  go_wp2_with fail
  refine (AT.out _ H1.out).mono ?_
  rintro e w2 ⟨rfl, hb⟩
  have B := Aside0.mk hb
  replace H1 := Aside0.mk (H1.out.step hb)
  clear hb AT
  go_wp2_with fail
  refine (WN.out _).mono ?_
  rintro e w3 ⟨rfl, hb⟩
  replace B := Aside0.mk (B.out.trans (hb.mono B.out.size))
  replace H1 := Aside0.mk (H1.out.step hb)
  clear hb
  go_wp2_with fail
  refine leaves_cons (f := 21) (args := #[.pointer (some ⟨g, 0, none⟩)]) (by simp) (by simp [go_sem]) ?_
  refine (unlock_deferred muLib ⟨g, 0, none⟩ .returning _ H1.out.cell0 (H1.out.head.frozen 0)).mono ?_
  rintro e u' wz ⟨rfl, rfl, rfl⟩
  exact ⟨_, results_tmp rfl _ _ _, rfl, HB.out _ B.out⟩
set_option maxHeartbeats 4000000 in
set_option maxRecDepth 100000 in
theorem put_arg (g b : Nat) (L : List SlotD) (i : Nat) (alg m : Int) (key exch : ByteArray) (hi : i < L.length) (hw : wantsN alg m = 0) (w : World) (h : SlotsAt w g b L) :
    Calls Tryz.prog 13 #[.pointer (some ⟨g, 0, none⟩), .int .i64 (i : Int), .int .i64 alg, .int .i64 m, .string key, .string exch] w fun e w' => e = .returned (.int .i64 1) ∧ Below w.heap.size w w' := by
  have c0 := h.cell0
  have f0 := h.head.frozen 0
  have H := Aside0.mk h
  have AT := Aside0.mk (fun W hW => at_in g b L 1 i hi W hW)
  have WN := Aside0.mk (wants_any alg m)
  rw [hw] at WN
  clear h hi hw
  go_enter_defers Tryz.func13, Tryz.ntmps13
  go_wp2_with fail
  refine (lock_free muLib ⟨g, 0, none⟩ _ c0 f0).mono ?_
  rintro e w1 ⟨rfl, hw1⟩
  have HB := Aside0.mk (fun W (hb : Below w1.heap.size w1 W) => by rw [hw1] at hb; exact lock_back H.out hb)
  have H1 : Aside0 (SlotsIn w1 g b L 1) := ⟨by rw [hw1]; exact H.out.lock 1⟩
  clear hw1 c0 f0 H
  go_wp2_with fail
  refine (AT.out _ H1.out).mono ?_
  rintro e w2 ⟨rfl, hb⟩
  have B := Aside0.mk hb
  replace H1 := Aside0.mk (H1.out.step hb)
  clear hb AT
  go_wp2_with fail
  refine (WN.out _).mono ?_
  rintro e w3 ⟨rfl, hb⟩
  replace B := Aside0.mk (B.out.trans (hb.mono B.out.size))
  replace H1 := Aside0.mk (H1.out.step hb)
  clear hb
  go_wp2_with fail
  refine leaves_cons (f := 21) (args := #[.pointer (some ⟨g, 0, none⟩)]) (by simp) (by simp [go_sem]) ?_
  refine (unlock_deferred muLib ⟨g, 0, none⟩ .returning _ H1.out.cell0 (H1.out.head.frozen 0)).mono ?_
  rintro e u' wz ⟨rfl, rfl, rfl⟩
  exact ⟨_, results_tmp rfl _ _ _, rfl, HB.out _ B.out⟩
set_option maxHeartbeats 8000000 in
set_option maxRecDepth 100000 in
theorem put_key (g b : Nat) (L : List SlotD) (i : Nat) (alg m : Int) (key exch : ByteArray) (hi : i < L.length) (hw : wantsN alg m ≠ 0) (hk : (key.size : Int) ≠ wantsN alg m ∨ exch.size ≠ 0 ∧ exch.size ≠ 16) (w : World) (h : SlotsAt w g b L) :
    Calls Tryz.prog 13 #[.pointer (some ⟨g, 0, none⟩), .int .i64 (i : Int), .int .i64 alg, .int .i64 m, .string key, .string exch] w fun e w' => e = .returned (.int .i64 30) ∧ Below w.heap.size w w' := by
  have c0 := h.cell0
  have f0 := h.head.frozen 0
  have H := Aside0.mk h
  have AT := Aside0.mk (fun W hW => at_in g b L 1 i hi W hW)
  have WN := Aside0.mk (wants_any alg m)
  generalize wantsN alg m = wn at *
  have b0 : (wn == 0) = false := by rw [beq_eq_false_iff_ne]; exact hw
  clear h hi hw
  have hk2 : ((key.size : Int) != wn) = true ∨ ((key.size : Int) != wn) = false ∧ ((exch.size : Int) != 0) = true ∧ ((exch.size : Int) != 16) = true := by
    rw [bne_iff_ne, bne_eq_false_iff_eq, bne_iff_ne, bne_iff_ne]
    omega
  clear hk
  rcases hk2 with b1 | ⟨b1, b2, b3⟩
  all_goals
    go_enter_defers Tryz.func13, Tryz.ntmps13
    go_wp2_with fail
    refine (lock_free muLib ⟨g, 0, none⟩ _ c0 f0).mono ?_
    rintro e w1 ⟨rfl, hw1⟩
    have HB := Aside0.mk (fun W (hb : Below w1.heap.size w1 W) => by rw [hw1] at hb; exact lock_back H.out hb)
    have H1 : Aside0 (SlotsIn w1 g b L 1) := ⟨by rw [hw1]; exact H.out.lock 1⟩
    clear hw1 c0 f0 H
    go_wp2_with fail
    refine (AT.out _ H1.out).mono ?_
    rintro e w2 ⟨rfl, hb⟩
    have B := Aside0.mk hb
    replace H1 := Aside0.mk (H1.out.step hb)
    clear hb AT
    go_wp2_with fail
    refine (WN.out _).mono ?_
    rintro e w3 ⟨rfl, hb⟩
    replace B := Aside0.mk (B.out.trans (hb.mono B.out.size))
    replace H1 := Aside0.mk (H1.out.step hb)
    clear hb
    go_wp2_with fail
    refine leaves_cons (f := 21) (args := #[.pointer (some ⟨g, 0, none⟩)]) (by simp) (by simp [go_sem]) ?_
    refine (unlock_deferred muLib ⟨g, 0, none⟩ .returning _ H1.out.cell0 (H1.out.head.frozen 0)).mono ?_
    rintro e u' wz ⟨rfl, rfl, rfl⟩
    exact ⟨_, results_tmp rfl _ _ _, rfl, HB.out _ B.out⟩
theorem size88 : (Tryz.prog.info? 62).map (·.size) = some 5 := by kernel_rfl
set_option maxHeartbeats 8000000 in
set_option maxRecDepth 100000 in
theorem put_yes (g b : Nat) (L : List SlotD) (i : Nat) (alg m : Int) (key exch : ByteArray) (hi : i < L.length) (hw : wantsN alg m ≠ 0) (hk : (key.size : Int) = wantsN alg m) (he : exch.size = 0 ∨ exch.size = 16) (w : World) (h : SlotsAt w g b L) :
    Calls Tryz.prog 13 #[.pointer (some ⟨g, 0, none⟩), .int .i64 (i : Int), .int .i64 alg, .int .i64 m, .string key, .string exch] w fun e w' => e = .returned (.int .i64 0) ∧ SlotsAt w' g b (L.set i ⟨alg, m, key, exch, 0⟩) ∧ Kp w.heap.size b w w' := by
  have c0 := h.cell0
  have f0 := h.head.frozen 0
  have H := Aside0.mk h
  have AT := Aside0.mk (fun W hW => at_in g b L 1 i hi W hW)
  have WN := Aside0.mk (wants_any alg m)
  have HP := Aside0.mk (allCells_put L i hi ⟨alg, m, key, exch, 0⟩)
  have HZ := Aside0.mk (allCells_size L)
  have HI := Aside0.mk hi
  generalize wantsN alg m = wn at *
  have b0 : (wn == 0) = false := by rw [beq_eq_false_iff_ne]; exact hw
  have b1 : ((key.size : Int) != wn) = false := by rw [bne_eq_false_iff_eq]; exact hk
  have he2 : ((exch.size : Int) != 0) = false ∨ ((exch.size : Int) != 0) = true ∧ ((exch.size : Int) != 16) = false := by
    rw [bne_eq_false_iff_eq, bne_iff_ne, bne_eq_false_iff_eq]
    omega
  clear h hi hw hk he
  rcases he2 with b2 | ⟨b2, b3⟩
  all_goals
    go_enter_defers Tryz.func13, Tryz.ntmps13
    go_wp2_with fail
    refine (lock_free muLib ⟨g, 0, none⟩ _ c0 f0).mono ?_
    rintro e w1 ⟨rfl, hw1⟩
    have H1 : Aside0 (SlotsIn w1 g b L 1) := ⟨by rw [hw1]; exact H.out.lock 1⟩
    have HW1 := Aside0.mk hw1
    clear hw1 c0 f0
    go_wp2_with fail
    refine (AT.out _ H1.out).mono ?_
    rintro e w2 ⟨rfl, hb⟩
    have B := Aside0.mk hb
    replace H1 := Aside0.mk (H1.out.step hb)
    clear hb AT
    go_wp2_with fail
    refine (WN.out _).mono ?_
    rintro e w3 ⟨rfl, hb⟩
    replace B := Aside0.mk (B.out.trans (hb.mono B.out.size))
    replace H1 := Aside0.mk (H1.out.step hb)
    clear hb
    go_wp2_with (refine wpList_store_part (vs := (slotCells ⟨alg, m, key, exch, 0⟩).toArray) rfl 62 (.tmp 55) (.tmp 54) rfl (o := i * 5) rfl rfl H1.out.body (by rw [HZ.out]; show i * 5 + 5 ≤ _; have := HI.out; omega) size88 (by intro v hv; simp only [slotCells, List.toList_toArray, List.mem_cons, List.mem_nil_iff, or_false] at hv; rcases hv with rfl | rfl | rfl | rfl | rfl <;> rfl) ?_)
    rw [HP.out]
    have H2 : Aside0 (SlotsIn (w3.setRow b (allCells (L.set i ⟨alg, m, key, exch, 0⟩))) g b (L.set i ⟨alg, m, key, exch, 0⟩) 1) := ⟨⟨by rw [List.length_set]; exact H1.out.head.farRow H1.out.ne _, H1.out.body.setRow _⟩⟩
    have K2 : Aside0 (Kp w1.heap.size b w1 (w3.setRow b (allCells (L.set i ⟨alg, m, key, exch, 0⟩)))) := ⟨(Kp.of_below B.out).trans ⟨rfl, rfl, rfl, by simp, fun k hk hc => setRow_other w3 b k _ hc⟩⟩
    clear H1 B HP HZ HI WN
    generalize w3.setRow b (allCells (L.set i ⟨alg, m, key, exch, 0⟩)) = w4 at *
    go_wp2_with fail
    refine leaves_cons (f := 21) (args := #[.pointer (some ⟨g, 0, none⟩)]) (by simp) (by simp [go_sem]) ?_
    refine (unlock_deferred muLib ⟨g, 0, none⟩ .returning _ H2.out.cell0 (H2.out.head.frozen 0)).mono ?_
    rintro e u' wz ⟨rfl, rfl, rfl⟩
    have hk := K2.out
    rw [HW1.out] at hk
    have hz := lock_back_kp H.out (by rw [List.length_set]) H2.out hk
    exact ⟨_, results_tmp rfl _ _ _, rfl, hz⟩
end Go.Proofs.YtopobangjpehnaaGreat.Seal
