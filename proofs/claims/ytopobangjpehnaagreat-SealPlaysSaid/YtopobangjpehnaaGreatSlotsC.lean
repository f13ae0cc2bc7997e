/- seal.Slots: Change. -/
import Derived.Test.YtopobangjpehnaaGreatSlotsB
import Derived.Test.YtopobangjpehnaaGreatWeak
set_option linter.unusedVariables false
set_option linter.unusedSimpArgs false
namespace Go.Proofs.YtopobangjpehnaaGreat.Seal
open Go.RowKit Go.Proofs.YtopobangjpehnaaGreatW.PrintWords Go.Proofs.YtopobangjpehnaaGreatW.PrintLast Go.Proofs.YtopobangjpehnaaGreatW.PrintMore Pr Des Num Walk
open Go.MuLone

/-- A round more, up to the greatest. -/
def more (r : Int) : Int := if r = 999999999 then r else r + 1
theorem count_any (r : Int) (h0 : 0 ≤ r) (h1 : r ≤ 999999999) (w : World) :
    Calls Tryz.prog 47 #[.int .i64 r, .int .i64 1, .int .i64 999999999] w fun e w' => e = .returned (.int .i64 (more r)) ∧ Below w.heap.size w w' := by
  refine digits_Count.calls r 1 999999999 (more r) w ?_
  have e1 : mx r 0 = r := by unfold mx; omega
  have e2 : mx 1 0 = 1 := by decide
  have e3 : mx 999999999 0 = 999999999 := by decide
  have e4 : wrap64 (999999999 - r) = 999999999 - r := by unfold wrap64; omega
  have e5 : wrap64 (r + 1) = r + 1 := by unfold wrap64; omega
  unfold digits_Count.f more
  rw [e1, e2, e3, e4, e5, if_neg (by omega)]
  by_cases h : r = 999999999
  · rw [if_pos (by omega), if_pos h, h]
  · rw [if_neg (by omega), if_neg h]
theorem kindOf_key (s : ByteArray) (h : s.size = 8 ∨ s.size = 16) : 1 ≤ kindOf s.data.toList := by
  unfold kindOf; rw [slen]
  rcases h with h | h <;> rw [h] <;> decide

set_option maxHeartbeats 4000000 in
set_option maxRecDepth 100000 in
theorem change_out (g b : Nat) (L : List SlotD) (i : Int) (wrapped check : ByteArray) (hi : i < 0 ∨ (L.length : Int) ≤ i) (w : World) (h : SlotsAt w g b L) :
    Calls Tryz.prog 31 #[.pointer (some ⟨g, 0, none⟩), .int .i64 i, .string wrapped, .string check] w fun e w' => e = .returned (.int .i64 40) ∧ Below w.heap.size w w' := by
  have c0 := h.cell0
  have f0 := h.head.frozen 0
  have H := Aside0.mk h
  have AT := Aside0.mk (fun W hW => at_out g b L 1 i hi W hW)
  clear h hi
  go_enter_defers Tryz.func31, Tryz.ntmps31
  go_wp2_with fail
  refine (lock_free muLib ⟨g, 0, none⟩ _ c0 f0).mono ?_
  rintro e w1 ⟨rfl, hw1⟩
  have HB := Aside0.mk (fun W (hb : Below w1.heap.size w1 W) => by rw [hw1] at hb; exact lock_back H.out hb)
  have H1 : Aside0 (SlotsIn w1 g b L 1) := ⟨by rw [hw1]; exact H.out.lock 1⟩
  have HW1 := Aside0.mk hw1
  clear hw1 c0 f0
  go_wp2_with fail
  refine (AT.out _ H1.out).mono ?_
  rintro e w2 ⟨rfl, hb⟩
  have B := Aside0.mk hb
  replace H1 := Aside0.mk (H1.out.step hb)
  clear hb AT
  go_wp2_with fail
  refine leaves_cons (f := 21) (args := #[.pointer (some ⟨g, 0, none⟩)]) (by simp) (by simp [go_sem]) ?_
  refine (unlock_deferred muLib ⟨g, 0, none⟩ .returning _ H1.out.cell0 (H1.out.head.frozen 0)).mono ?_
  rintro e u' wz ⟨rfl, rfl, rfl⟩
  exact ⟨_, results_tmp rfl _ _ _, rfl, HB.out _ B.out⟩
set_option maxHeartbeats 4000000 in
set_option maxRecDepth 100000 in
theorem change_none (g b : Nat) (L : List SlotD) (i : Nat) (wrapped check : ByteArray) (hi : i < L.length) (hx : L[i].exchange.size = 0) (w : World) (h : SlotsAt w g b L) :
    Calls Tryz.prog 31 #[.pointer (some ⟨g, 0, none⟩), .int .i64 (i : Int), .string wrapped, .string check] w fun e w' => e = .returned (.int .i64 40) ∧ Below w.heap.size w w' := by
  have c0 := h.cell0
  have f0 := h.head.frozen 0
  have H := Aside0.mk h
  have AT := Aside0.mk (fun W hW => at_in g b L 1 i hi W hW)
  have HS := Aside0.mk (fun W (hW : SlotsIn W g b L 1) => hW.slot i hi)
  have he : L[i].exchange.toList.isEmpty = true := by rw [ByteArray.toList_eq, List.isEmpty_iff]; exact List.eq_nil_of_length_eq_zero (by rw [slen]; exact hx)
  generalize L[i] = x at *
  clear h hi hx
  go_enter_defers Tryz.func31, Tryz.ntmps31
  go_wp2_with fail
  refine (lock_free muLib ⟨g, 0, none⟩ _ c0 f0).mono ?_
  rintro e w1 ⟨rfl, hw1⟩
  have HB := Aside0.mk (fun W (hb : Below w1.heap.size w1 W) => by rw [hw1] at hb; exact lock_back H.out hb)
  have H1 : Aside0 (SlotsIn w1 g b L 1) := ⟨by rw [hw1]; exact H.out.lock 1⟩
  have HW1 := Aside0.mk hw1
  clear hw1 c0 f0
  go_wp2_with fail
  refine (AT.out _ H1.out).mono ?_
  rintro e w2 ⟨rfl, hb⟩
  have B := Aside0.mk hb
  replace H1 := Aside0.mk (H1.out.step hb)
  clear hb AT
  obtain ⟨q0, q1, q2, q3, q4⟩ := HS.out _ H1.out
  go_wp2_with fail
  refine leaves_cons (f := 21) (args := #[.pointer (some ⟨g, 0, none⟩)]) (by simp) (by simp [go_sem]) ?_
  refine (unlock_deferred muLib ⟨g, 0, none⟩ .returning _ H1.out.cell0 (H1.out.head.frozen 0)).mono ?_
  rintro e u' wz ⟨rfl, rfl, rfl⟩
  exact ⟨_, results_tmp rfl _ _ _, rfl, HB.out _ B.out⟩
set_option maxHeartbeats 4000000 in
set_option maxRecDepth 100000 in
theorem change_len (g b : Nat) (L : List SlotD) (i : Nat) (wrapped check : ByteArray) (hi : i < L.length) (hx : L[i].exchange.size ≠ 0) (hl : wrapped.size ≠ L[i].key.size) (w : World) (h : SlotsAt w g b L) :
    Calls Tryz.prog 31 #[.pointer (some ⟨g, 0, none⟩), .int .i64 (i : Int), .string wrapped, .string check] w fun e w' => e = .returned (.int .i64 30) ∧ Below w.heap.size w w' := by
  have c0 := h.cell0
  have f0 := h.head.frozen 0
  have H := Aside0.mk h
  have AT := Aside0.mk (fun W hW => at_in g b L 1 i hi W hW)
  have HS := Aside0.mk (fun W (hW : SlotsIn W g b L 1) => hW.slot i hi)
  have he : L[i].exchange.toList.isEmpty = false := by rw [ByteArray.toList_eq, List.isEmpty_eq_false_iff]; exact fun e => hx (by rw [← slen, e]; rfl)
  have b1 : ((wrapped.size : Int) != (L[i].key.size : Int)) = true := by rw [bne_iff_ne]; omega
  generalize L[i] = x at *
  clear h hi hx hl
  go_enter_defers Tryz.func31, Tryz.ntmps31
  go_wp2_with fail
  refine (lock_free muLib ⟨g, 0, none⟩ _ c0 f0).mono ?_
  rintro e w1 ⟨rfl, hw1⟩
  have HB := Aside0.mk (fun W (hb : Below w1.heap.size w1 W) => by rw [hw1] at hb; exact lock_back H.out hb)
  have H1 : Aside0 (SlotsIn w1 g b L 1) := ⟨by rw [hw1]; exact H.out.lock 1⟩
  have HW1 := Aside0.mk hw1
  clear hw1 c0 f0
  go_wp2_with fail
  refine (AT.out _ H1.out).mono ?_
  rintro e w2 ⟨rfl, hb⟩
  have B := Aside0.mk hb
  replace H1 := Aside0.mk (H1.out.step hb)
  clear hb AT
  obtain ⟨q0, q1, q2, q3, q4⟩ := HS.out _ H1.out
  go_wp2_with fail
  refine leaves_cons (f := 21) (args := #[.pointer (some ⟨g, 0, none⟩)]) (by simp) (by simp [go_sem]) ?_
  refine (unlock_deferred muLib ⟨g, 0, none⟩ .returning _ H1.out.cell0 (H1.out.head.frozen 0)).mono ?_
  rintro e u' wz ⟨rfl, rfl, rfl⟩
  exact ⟨_, results_tmp rfl _ _ _, rfl, HB.out _ B.out⟩
set_option maxHeartbeats 4000000 in
set_option maxRecDepth 100000 in
theorem change_weak (g b : Nat) (L : List SlotD) (i : Nat) (wrapped check : ByteArray) (hi : i < L.length) (hx : L[i].exchange.size = 16) (hl : wrapped.size = L[i].key.size) (hk : L[i].key.size = 8 ∨ L[i].key.size = 16)
    (hw : weakB (blocksStr (ecbB L[i].exchange.data.toList true wrapped) wrapped).data.toList = true) (w : World) (h : SlotsAt w g b L) :
    Calls Tryz.prog 31 #[.pointer (some ⟨g, 0, none⟩), .int .i64 (i : Int), .string wrapped, .string check] w fun e w' => e = .returned (.int .i64 42) ∧ Below w.heap.size w w' := by
  have c0 := h.cell0
  have f0 := h.head.frozen 0
  have H := Aside0.mk h
  have AT := Aside0.mk (fun W hW => at_in g b L 1 i hi W hW)
  have HS := Aside0.mk (fun W (hW : SlotsIn W g b L 1) => hW.slot i hi)
  have he : L[i].exchange.toList.isEmpty = false := by rw [ByteArray.toList_eq, List.isEmpty_eq_false_iff]; exact fun e => by rw [← slen, e] at hx; simp at hx
  have b1 : ((wrapped.size : Int) != (L[i].key.size : Int)) = false := by rw [bne_eq_false_iff_eq]; omega
  have N := Aside0.mk (new_yes L[i].exchange (kindOf_key _ (.inr hx)))
  have DC := Aside0.mk (fun gg (W : World) (hg : Blk W gg 101 (keyBlock (L[i]'hi).exchange.data.toList)) => decrypt_yes gg (L[i]'hi).exchange.data.toList wrapped (by omega) (by omega) W hg)
  have hDz := blocksStr_size (ecbB L[i].exchange.data.toList true wrapped) wrapped (by omega)
  generalize blocksStr (ecbB L[i].exchange.data.toList true wrapped) wrapped = D at *
  have WK := Aside0.mk (weak_any D)
  rw [hw] at WK
  generalize L[i] = x at *
  clear h hi hx hl hk hDz hw
  go_enter_defers Tryz.func31, Tryz.ntmps31
  go_wp2_with fail
  refine (lock_free muLib ⟨g, 0, none⟩ _ c0 f0).mono ?_
  rintro e w1 ⟨rfl, hw1⟩
  have HB := Aside0.mk (fun W (hb : Below w1.heap.size w1 W) => by rw [hw1] at hb; exact lock_back H.out hb)
  have H1 : Aside0 (SlotsIn w1 g b L 1) := ⟨by rw [hw1]; exact H.out.lock 1⟩
  have HW1 := Aside0.mk hw1
  clear hw1 c0 f0
  go_wp2_with fail
  refine (AT.out _ H1.out).mono ?_
  rintro e w2 ⟨rfl, hb⟩
  have B := Aside0.mk hb
  replace H1 := Aside0.mk (H1.out.step hb)
  clear hb AT
  obtain ⟨q0, q1, q2, q3, q4⟩ := HS.out _ H1.out
  go_wp2_with fail
  refine (N.out _).mono ?_
  rintro e w3 ⟨gg, rfl, hge, hg, hb⟩
  replace B := Aside0.mk (B.out.trans (hb.mono B.out.size))
  replace H1 := Aside0.mk (H1.out.step hb)
  have G := Aside0.mk hg
  clear hb hg hge N q0 q1 q2 q3 q4
  go_wp2_with fail
  refine (DC.out gg _ G.out).mono ?_
  rintro e w4 ⟨rfl, hb⟩
  replace B := Aside0.mk (B.out.trans (hb.mono B.out.size))
  replace H1 := Aside0.mk (H1.out.step hb)
  clear hb G DC
  go_wp2_with fail
  refine (WK.out _).mono ?_
  rintro e w5 ⟨rfl, hb⟩
  replace B := Aside0.mk (B.out.trans (hb.mono B.out.size))
  replace H1 := Aside0.mk (H1.out.step hb)
  clear hb WK
  go_wp2_with fail
  refine leaves_cons (f := 21) (args := #[.pointer (some ⟨g, 0, none⟩)]) (by simp) (by simp [go_sem]) ?_
  refine (unlock_deferred muLib ⟨g, 0, none⟩ .returning _ H1.out.cell0 (H1.out.head.frozen 0)).mono ?_
  rintro e u' wz ⟨rfl, rfl, rfl⟩
  exact ⟨_, results_tmp rfl _ _ _, rfl, HB.out _ B.out⟩
set_option maxHeartbeats 4000000 in
set_option maxRecDepth 100000 in
theorem change_check (g b : Nat) (L : List SlotD) (i : Nat) (wrapped check : ByteArray) (hi : i < L.length) (hx : L[i].exchange.size = 16) (hl : wrapped.size = L[i].key.size) (hk : L[i].key.size = 8 ∨ L[i].key.size = 16)
    (hw : weakB (blocksStr (ecbB L[i].exchange.data.toList true wrapped) wrapped).data.toList = false) (hc : lst (checkB (blocksStr (ecbB L[i].exchange.data.toList true wrapped) wrapped).data.toList) ≠ check) (w : World) (h : SlotsAt w g b L) :
    Calls Tryz.prog 31 #[.pointer (some ⟨g, 0, none⟩), .int .i64 (i : Int), .string wrapped, .string check] w fun e w' => e = .returned (.int .i64 41) ∧ Below w.heap.size w w' := by
  have c0 := h.cell0
  have f0 := h.head.frozen 0
  have H := Aside0.mk h
  have AT := Aside0.mk (fun W hW => at_in g b L 1 i hi W hW)
  have HS := Aside0.mk (fun W (hW : SlotsIn W g b L 1) => hW.slot i hi)
  have he : L[i].exchange.toList.isEmpty = false := by rw [ByteArray.toList_eq, List.isEmpty_eq_false_iff]; exact fun e => by rw [← slen, e] at hx; simp at hx
  have b1 : ((wrapped.size : Int) != (L[i].key.size : Int)) = false := by rw [bne_eq_false_iff_eq]; omega
  have N := Aside0.mk (new_yes L[i].exchange (kindOf_key _ (.inr hx)))
  have DC := Aside0.mk (fun gg (W : World) (hg : Blk W gg 101 (keyBlock (L[i]'hi).exchange.data.toList)) => decrypt_yes gg (L[i]'hi).exchange.data.toList wrapped (by omega) (by omega) W hg)
  have hDz := blocksStr_size (ecbB L[i].exchange.data.toList true wrapped) wrapped (by omega)
  generalize blocksStr (ecbB L[i].exchange.data.toList true wrapped) wrapped = D at *
  have WK := Aside0.mk (weak_any D)
  rw [hw] at WK
  have CK := Aside0.mk (check_yes D (kindOf_key D (by omega)))
  have SM := Aside0.mk (same_any (lst (checkB D.data.toList)) check (by rw [lst_size]; unfold checkB; rw [List.length_take, bytes8_length]; decide))
  rw [decide_eq_false hc] at SM
  rw [show (⟨(checkB D.data.toList).toArray⟩ : ByteArray) = lst (checkB D.data.toList) from rfl] at CK
  generalize lst (checkB D.data.toList) = cv at *
  generalize L[i] = x at *
  clear h hi hx hl hk hDz hw hc
  go_enter_defers Tryz.func31, Tryz.ntmps31
  go_wp2_with fail
  refine (lock_free muLib ⟨g, 0, none⟩ _ c0 f0).mono ?_
  rintro e w1 ⟨rfl, hw1⟩
  have HB := Aside0.mk (fun W (hb : Below w1.heap.size w1 W) => by rw [hw1] at hb; exact lock_back H.out hb)
  have H1 : Aside0 (SlotsIn w1 g b L 1) := ⟨by rw [hw1]; exact H.out.lock 1⟩
  have HW1 := Aside0.mk hw1
  clear hw1 c0 f0
  go_wp2_with fail
  refine (AT.out _ H1.out).mono ?_
  rintro e w2 ⟨rfl, hb⟩
  have B := Aside0.mk hb
  replace H1 := Aside0.mk (H1.out.step hb)
  clear hb AT
  obtain ⟨q0, q1, q2, q3, q4⟩ := HS.out _ H1.out
  go_wp2_with fail
  refine (N.out _).mono ?_
  rintro e w3 ⟨gg, rfl, hge, hg, hb⟩
  replace B := Aside0.mk (B.out.trans (hb.mono B.out.size))
  replace H1 := Aside0.mk (H1.out.step hb)
  have G := Aside0.mk hg
  clear hb hg hge N q0 q1 q2 q3 q4
  go_wp2_with fail
  refine (DC.out gg _ G.out).mono ?_
  rintro e w4 ⟨rfl, hb⟩
  replace B := Aside0.mk (B.out.trans (hb.mono B.out.size))
  replace H1 := Aside0.mk (H1.out.step hb)
  clear hb G DC
  go_wp2_with fail
  refine (WK.out _).mono ?_
  rintro e w5 ⟨rfl, hb⟩
  replace B := Aside0.mk (B.out.trans (hb.mono B.out.size))
  replace H1 := Aside0.mk (H1.out.step hb)
  clear hb WK
  go_wp2_with fail
  refine (CK.out _).mono ?_
  rintro e w6 ⟨rfl, hb⟩
  replace B := Aside0.mk (B.out.trans (hb.mono B.out.size))
  replace H1 := Aside0.mk (H1.out.step hb)
  clear hb CK
  go_wp2_with fail
  refine (SM.out _).mono ?_
  rintro e w7 ⟨rfl, hb⟩
  replace B := Aside0.mk (B.out.trans (hb.mono B.out.size))
  replace H1 := Aside0.mk (H1.out.step hb)
  clear hb SM
  go_wp2_with fail
  refine leaves_cons (f := 21) (args := #[.pointer (some ⟨g, 0, none⟩)]) (by simp) (by simp [go_sem]) ?_
  refine (unlock_deferred muLib ⟨g, 0, none⟩ .returning _ H1.out.cell0 (H1.out.head.frozen 0)).mono ?_
  rintro e u' wz ⟨rfl, rfl, rfl⟩
  exact ⟨_, results_tmp rfl _ _ _, rfl, HB.out _ B.out⟩
set_option maxHeartbeats 8000000 in
set_option maxRecDepth 100000 in
theorem change_yes (g b : Nat) (L : List SlotD) (i : Nat) (wrapped check : ByteArray) (hi : i < L.length) (hx : L[i].exchange.size = 16) (hl : wrapped.size = L[i].key.size) (hk : L[i].key.size = 8 ∨ L[i].key.size = 16) (hr : 0 ≤ L[i].round ∧ L[i].round ≤ 999999999)
    (hw : weakB (blocksStr (ecbB L[i].exchange.data.toList true wrapped) wrapped).data.toList = false) (hc : lst (checkB (blocksStr (ecbB L[i].exchange.data.toList true wrapped) wrapped).data.toList) = check) (w : World) (h : SlotsAt w g b L) :
    Calls Tryz.prog 31 #[.pointer (some ⟨g, 0, none⟩), .int .i64 (i : Int), .string wrapped, .string check] w fun e w' => e = .returned (.int .i64 0) ∧
      SlotsAt w' g b (L.set i ⟨L[i].alg, L[i].method, blocksStr (ecbB L[i].exchange.data.toList true wrapped) wrapped, L[i].exchange, more L[i].round⟩) ∧ Kp w.heap.size b w w' := by
  have c0 := h.cell0
  have f0 := h.head.frozen 0
  have H := Aside0.mk h
  have AT := Aside0.mk (fun W hW => at_in g b L 1 i hi W hW)
  have HS := Aside0.mk (fun W (hW : SlotsIn W g b L 1) => hW.slot i hi)
  have he : L[i].exchange.toList.isEmpty = false := by rw [ByteArray.toList_eq, List.isEmpty_eq_false_iff]; exact fun e => by rw [← slen, e] at hx; simp at hx
  have b1 : ((wrapped.size : Int) != (L[i].key.size : Int)) = false := by rw [bne_eq_false_iff_eq]; omega
  have N := Aside0.mk (new_yes L[i].exchange (kindOf_key _ (.inr hx)))
  have DC := Aside0.mk (fun gg (W : World) (hg : Blk W gg 101 (keyBlock (L[i]'hi).exchange.data.toList)) => decrypt_yes gg (L[i]'hi).exchange.data.toList wrapped (by omega) (by omega) W hg)
  have hDz := blocksStr_size (ecbB L[i].exchange.data.toList true wrapped) wrapped (by omega)
  generalize blocksStr (ecbB L[i].exchange.data.toList true wrapped) wrapped = D at *
  have WK := Aside0.mk (weak_any D)
  rw [hw] at WK
  have CK := Aside0.mk (check_yes D (kindOf_key D (by omega)))
  have SM := Aside0.mk (same_any (lst (checkB D.data.toList)) check (by rw [lst_size]; unfold checkB; rw [List.length_take, bytes8_length]; decide))
  rw [decide_eq_true hc] at SM
  rw [show (⟨(checkB D.data.toList).toArray⟩ : ByteArray) = lst (checkB D.data.toList) from rfl] at CK
  have CT := Aside0.mk (count_any L[i].round hr.1 hr.2)
  generalize lst (checkB D.data.toList) = cv at *
  have hA1 := allCells_set L i 2 hi (by decide) (.string D) ⟨L[i].alg, L[i].method, D, L[i].exchange, L[i].round⟩ rfl
  have hi2 : i < (L.set i ⟨L[i].alg, L[i].method, D, L[i].exchange, L[i].round⟩).length := by rw [List.length_set]; exact hi
  have hA2 := allCells_set (L.set i ⟨L[i].alg, L[i].method, D, L[i].exchange, L[i].round⟩) i 4 hi2 (by decide) (.int .i64 (more L[i].round)) ⟨L[i].alg, L[i].method, D, L[i].exchange, more L[i].round⟩ (by rw [List.getElem_set_self]; rfl)
  rw [List.set_set] at hA2
  have HA : Aside0 (((allCells L).setIfInBounds (i * 5 + 2) (.string D)).setIfInBounds (i * 5 + 4) (.int .i64 (more L[i].round)) = allCells (L.set i ⟨L[i].alg, L[i].method, D, L[i].exchange, more L[i].round⟩)) := ⟨by rw [hA1, hA2]⟩
  clear hA1 hA2 hi2
  generalize hx' : L[i] = x at *
  clear h hi hx hl hk hDz hw hc hr hx'
  go_enter_defers Tryz.func31, Tryz.ntmps31
  go_wp2_with fail
  refine (lock_free muLib ⟨g, 0, none⟩ _ c0 f0).mono ?_
  rintro e w1 ⟨rfl, hw1⟩
  have HB := Aside0.mk (fun W (hb : Below w1.heap.size w1 W) => by rw [hw1] at hb; exact lock_back H.out hb)
  have H1 : Aside0 (SlotsIn w1 g b L 1) := ⟨by rw [hw1]; exact H.out.lock 1⟩
  have HW1 := Aside0.mk hw1
  clear hw1 c0 f0
  go_wp2_with fail
  refine (AT.out _ H1.out).mono ?_
  rintro e w2 ⟨rfl, hb⟩
  have B := Aside0.mk hb
  replace H1 := Aside0.mk (H1.out.step hb)
  clear hb AT
  obtain ⟨q0, q1, q2, q3, q4⟩ := HS.out _ H1.out
  go_wp2_with fail
  refine (N.out _).mono ?_
  rintro e w3 ⟨gg, rfl, hge, hg, hb⟩
  replace B := Aside0.mk (B.out.trans (hb.mono B.out.size))
  replace H1 := Aside0.mk (H1.out.step hb)
  have G := Aside0.mk hg
  clear hb hg hge N q0 q1 q2 q3 q4
  go_wp2_with fail
  refine (DC.out gg _ G.out).mono ?_
  rintro e w4 ⟨rfl, hb⟩
  replace B := Aside0.mk (B.out.trans (hb.mono B.out.size))
  replace H1 := Aside0.mk (H1.out.step hb)
  clear hb G DC
  go_wp2_with fail
  refine (WK.out _).mono ?_
  rintro e w5 ⟨rfl, hb⟩
  replace B := Aside0.mk (B.out.trans (hb.mono B.out.size))
  replace H1 := Aside0.mk (H1.out.step hb)
  clear hb WK
  go_wp2_with fail
  refine (CK.out _).mono ?_
  rintro e w6 ⟨rfl, hb⟩
  replace B := Aside0.mk (B.out.trans (hb.mono B.out.size))
  replace H1 := Aside0.mk (H1.out.step hb)
  clear hb CK
  go_wp2_with fail
  refine (SM.out _).mono ?_
  rintro e w7 ⟨rfl, hb⟩
  replace B := Aside0.mk (B.out.trans (hb.mono B.out.size))
  replace H1 := Aside0.mk (H1.out.step hb)
  clear hb SM
  obtain ⟨q0, q1, q2, q3, q4⟩ := HS.out _ H1.out
  go_wp2_with fail
  clear q0 q1 q2 q3 q4
  refine (CT.out _).mono ?_
  rintro e w8 ⟨rfl, hb⟩
  replace B := Aside0.mk (B.out.trans (hb.mono B.out.size))
  replace H1 := Aside0.mk (H1.out.step hb)
  clear hb CT
  obtain ⟨q0, q1, q2, q3, q4⟩ := HS.out _ H1.out
  have z2 := H1.out.body.frozen (i * 5 + 2)
  have z4 := H1.out.body.frozen (i * 5 + 4)
  have H2 : Aside0 (SlotsIn ((w8.setCell ⟨b, i * 5 + 2, none⟩ (.string D)).setCell ⟨b, i * 5 + 4, none⟩ (.int .i64 (more x.round))) g b (L.set i ⟨x.alg, x.method, D, x.exchange, more x.round⟩) 1) := ⟨by
    refine ⟨?_, ?_⟩
    · rw [List.length_set]
      exact (H1.out.head.far (p := ⟨b, i * 5 + 2, none⟩) H1.out.ne _).far (p := ⟨b, i * 5 + 4, none⟩) H1.out.ne _
    · have := (H1.out.body.set_ (i * 5 + 2) (.string D)).set_ (i * 5 + 4) (.int .i64 (more x.round))
      rw [HA.out] at this
      exact this⟩
  have K2 : Aside0 (Kp w1.heap.size b w1 ((w8.setCell ⟨b, i * 5 + 2, none⟩ (.string D)).setCell ⟨b, i * 5 + 4, none⟩ (.int .i64 (more x.round)))) :=
    ⟨(Kp.of_below B.out).trans ⟨rfl, rfl, rfl, by simp [World.setCell], fun k hk hc => (Below.heap_setCell _ _ _ _ hc).trans (Below.heap_setCell _ _ _ _ hc)⟩⟩
  clear H1 B HA HS
  go_wp2_with fail
  refine leaves_cons (f := 21) (args := #[.pointer (some ⟨g, 0, none⟩)]) (by simp) (by simp [go_sem]) ?_
  refine (unlock_deferred muLib ⟨g, 0, none⟩ .returning _ H2.out.cell0 (H2.out.head.frozen 0)).mono ?_
  rintro e u' wz ⟨rfl, rfl, rfl⟩
  have hk := K2.out
  rw [HW1.out] at hk
  have hz := lock_back_kp H.out (by rw [List.length_set]) H2.out hk
  exact ⟨_, results_tmp rfl _ _ _, rfl, hz⟩
end Go.Proofs.YtopobangjpehnaaGreat.Seal
