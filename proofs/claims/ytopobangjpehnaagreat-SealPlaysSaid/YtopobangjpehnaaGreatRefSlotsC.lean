/- turnstileref4's Slots: Change, NewSlots; and seal.NewSlots of any size. -/
import Derived.Test.YtopobangjpehnaaGreatRefSlotsB
import Derived.Test.YtopobangjpehnaaGreatSlotsC
import Derived.Test.YtopobangjpehnaaGreatKeysLaw
set_option linter.unusedVariables false
set_option linter.unusedSimpArgs false
namespace Go.Proofs.YtopobangjpehnaaGreat.Seal
open Go.RowKit Go.Proofs.YtopobangjpehnaaGreatW.PrintWords Go.Proofs.YtopobangjpehnaaGreatW.PrintLast Go.Proofs.YtopobangjpehnaaGreatW.PrintMore Pr Des Num Walk

set_option maxHeartbeats 2000000 in
set_option maxRecDepth 100000 in
theorem rchange_out (g b : Nat) (L : List SlotD) (i : Int) (wrapped check : ByteArray) (hi : i < 0 ∨ (L.length : Int) ≤ i) (w : World) (h : RefAt w g b L) :
    Calls Tryz.prog 32 #[.pointer (some ⟨g, 0, none⟩), .int .i64 i, .string wrapped, .string check] w fun e w' => e = .returned (.int .i64 40) ∧ Below w.heap.size w w' := by
  have AT := Aside0.mk (at_out' g b L i hi w h)
  clear h hi
  go_enter Tryz.func32, Tryz.ntmps32
  go_wp2_with fail
  refine (AT.out).mono ?_
  rintro e w1 ⟨rfl, hb⟩
  have B := Aside0.mk hb
  clear hb
  go_wp2_with fail
  go_ret
  exact ⟨rfl, below_alloc B.out _⟩
set_option maxHeartbeats 2000000 in
set_option maxRecDepth 100000 in
theorem rchange_none (g b : Nat) (L : List SlotD) (i : Nat) (wrapped check : ByteArray) (hi : i < L.length) (hx : L[i].exchange.size = 0) (w : World) (h : RefAt w g b L) :
    Calls Tryz.prog 32 #[.pointer (some ⟨g, 0, none⟩), .int .i64 (i : Int), .string wrapped, .string check] w fun e w' => e = .returned (.int .i64 40) ∧ Below w.heap.size w w' := by
  have AT := Aside0.mk (at_in' g b L i hi w h)
  have he : L[i].exchange.toList.isEmpty = true := by rw [ByteArray.toList_eq, List.isEmpty_iff]; exact List.eq_nil_of_length_eq_zero (by rw [slen]; exact hx)
  generalize L[i] = x at *
  clear h hi hx
  rcases hb : (x.alg != 0) with _ | _ <;> rw [hb] at AT <;> clear hb
  all_goals
    go_enter Tryz.func32, Tryz.ntmps32
    go_wp2_with fail
    refine (AT.out).mono ?_
    rintro e w1 ⟨rfl, hb⟩
    have B := Aside0.mk hb
    clear hb
    go_wp2_with fail
    go_ret
    exact ⟨rfl, below_alloc B.out _⟩
set_option maxHeartbeats 4000000 in
set_option maxRecDepth 100000 in
theorem rchange_len (g b : Nat) (L : List SlotD) (i : Nat) (wrapped check : ByteArray) (hi : i < L.length) (ha : L[i].alg ≠ 0) (hx : L[i].exchange.size ≠ 0) (hl : wrapped.size ≠ L[i].key.size) (w : World) (h : RefAt w g b L) :
    Calls Tryz.prog 32 #[.pointer (some ⟨g, 0, none⟩), .int .i64 (i : Int), .string wrapped, .string check] w fun e w' => e = .returned (.int .i64 30) ∧ Below w.heap.size w w' := by
  have H := Aside0.mk h
  have AT := Aside0.mk (at_in' g b L i hi w h)
  rw [show (L[i].alg != 0) = true by rw [bne_iff_ne]; exact ha] at AT
  have he : L[i].exchange.toList.isEmpty = false := by rw [ByteArray.toList_eq, List.isEmpty_eq_false_iff]; exact fun e => hx (by rw [← slen, e]; rfl)
  have b1 : ((wrapped.size : Int) != (L[i].key.size : Int)) = true := by rw [bne_iff_ne]; omega
  generalize L[i] = x at *
  clear h hi hx hl ha H
  go_enter Tryz.func32, Tryz.ntmps32
  go_wp2_with fail
  refine (AT.out).mono ?_
  rintro e w1 ⟨rfl, hb⟩
  have B := Aside0.mk hb
  clear hb
  go_wp2_with fail
  go_ret
  exact ⟨rfl, below_alloc B.out _⟩
set_option maxHeartbeats 4000000 in
set_option maxRecDepth 100000 in
theorem rchange_weak (g b : Nat) (L : List SlotD) (i : Nat) (wrapped check : ByteArray) (hi : i < L.length) (ha : L[i].alg ≠ 0) (hx : L[i].exchange.size = 16) (hl : wrapped.size = L[i].key.size) (hk : L[i].key.size = 8 ∨ L[i].key.size = 16)
    (hw : weakB (blocksStr (ecbB L[i].exchange.data.toList true wrapped) wrapped).data.toList = true) (w : World) (h : RefAt w g b L) :
    Calls Tryz.prog 32 #[.pointer (some ⟨g, 0, none⟩), .int .i64 (i : Int), .string wrapped, .string check] w fun e w' => e = .returned (.int .i64 42) ∧ Below w.heap.size w w' := by
  have H := Aside0.mk h
  have AT := Aside0.mk (at_in' g b L i hi w h)
  rw [show (L[i].alg != 0) = true by rw [bne_iff_ne]; exact ha] at AT
  have he : L[i].exchange.toList.isEmpty = false := by rw [ByteArray.toList_eq, List.isEmpty_eq_false_iff]; exact fun e => by rw [← slen, e] at hx; simp at hx
  have b1 : ((wrapped.size : Int) != (L[i].key.size : Int)) = false := by rw [bne_eq_false_iff_eq]; omega
  have TN := Aside0.mk (Ref.refTurn_yes L[i].exchange wrapped (.inr (.inl hx)) (by omega) (by omega) true)
  have hDz := blocksStr_size (ecbB L[i].exchange.data.toList true wrapped) wrapped (by omega)
  generalize blocksStr (ecbB L[i].exchange.data.toList true wrapped) wrapped = D at *
  have WK := Aside0.mk (Ref.refWeak_any D)
  rw [hw] at WK
  generalize L[i] = x at *
  clear h hi hx hl hk hDz hw ha
  go_enter Tryz.func32, Tryz.ntmps32
  go_wp2_with fail
  refine (AT.out).mono ?_
  rintro e w1 ⟨rfl, hb⟩
  have B := Aside0.mk hb
  replace H := Aside0.mk (H.out.step hb)
  clear hb
  go_upto_region 2 with fail
  have HNE : Aside0 (b ≠ w1.heap.size) := ⟨Nat.ne_of_lt H.out.body.lt⟩
  have G : Aside0 (Blk (w1.alloc (.cells #[.bool true, .int .i64 x.alg, .int .i64 x.method, .string x.key, .string x.exchange, .int .i64 x.round] 65)) w1.heap.size 65 #[.bool true, .int .i64 x.alg, .int .i64 x.method, .string x.key, .string x.exchange, .int .i64 x.round]) := ⟨Blk.new w1 65 _⟩
  replace H := Aside0.mk (H.out.step (below_alloc (Below.refl w1.heap.size w1) (.cells #[.bool true, .int .i64 x.alg, .int .i64 x.method, .string x.key, .string x.exchange, .int .i64 x.round] 65)))
  replace B := Aside0.mk (below_alloc B.out (.cells #[.bool true, .int .i64 x.alg, .int .i64 x.method, .string x.key, .string x.exchange, .int .i64 x.round] 65))
  generalize w1.heap.size = bx at *
  generalize w1.alloc (.cells #[.bool true, .int .i64 x.alg, .int .i64 x.method, .string x.key, .string x.exchange, .int .i64 x.round] 65) = w2 at *
  have d3 : w2.cell? ⟨bx, 3, none⟩ = some (.string x.key) := G.out.cell 3
  have d4 : w2.cell? ⟨bx, 4, none⟩ = some (.string x.exchange) := G.out.cell 4
  go_wp2_with fail
  clear d3 d4
  refine (TN.out _).mono ?_
  rintro e w3 ⟨rfl, hb⟩
  replace B := Aside0.mk (B.out.trans (hb.mono B.out.size))
  replace H := Aside0.mk (H.out.step hb)
  replace G := Aside0.mk (G.out.step hb)
  clear hb TN
  go_wp2_with fail
  refine (WK.out _).mono ?_
  rintro e w4 ⟨rfl, hb⟩
  replace B := Aside0.mk (B.out.trans (hb.mono B.out.size))
  replace H := Aside0.mk (H.out.step hb)
  replace G := Aside0.mk (G.out.step hb)
  clear hb WK
  go_wp2_with fail
  go_ret
  exact ⟨rfl, B.out⟩
theorem neq_list {a b : ByteArray} (h : a ≠ b) : (a.toList == b.toList) = false := by
  rw [beq_eq_false_iff_ne]
  intro e
  rw [ByteArray.toList_eq, ByteArray.toList_eq] at e
  exact h (byteArray_ext e)
set_option maxHeartbeats 4000000 in
set_option maxRecDepth 100000 in
theorem rchange_check (g b : Nat) (L : List SlotD) (i : Nat) (wrapped check : ByteArray) (hi : i < L.length) (ha : L[i].alg ≠ 0) (hx : L[i].exchange.size = 16) (hl : wrapped.size = L[i].key.size) (hk : L[i].key.size = 8 ∨ L[i].key.size = 16)
    (hw : weakB (blocksStr (ecbB L[i].exchange.data.toList true wrapped) wrapped).data.toList = false) (hc : lst (checkB (blocksStr (ecbB L[i].exchange.data.toList true wrapped) wrapped).data.toList) ≠ check) (w : World) (h : RefAt w g b L) :
    Calls Tryz.prog 32 #[.pointer (some ⟨g, 0, none⟩), .int .i64 (i : Int), .string wrapped, .string check] w fun e w' => e = .returned (.int .i64 41) ∧ Below w.heap.size w w' := by
  have H := Aside0.mk h
  have AT := Aside0.mk (at_in' g b L i hi w h)
  rw [show (L[i].alg != 0) = true by rw [bne_iff_ne]; exact ha] at AT
  have he : L[i].exchange.toList.isEmpty = false := by rw [ByteArray.toList_eq, List.isEmpty_eq_false_iff]; exact fun e => by rw [← slen, e] at hx; simp at hx
  have b1 : ((wrapped.size : Int) != (L[i].key.size : Int)) = false := by rw [bne_eq_false_iff_eq]; omega
  have TN := Aside0.mk (Ref.refTurn_yes L[i].exchange wrapped (.inr (.inl hx)) (by omega) (by omega) true)
  have hDz := blocksStr_size (ecbB L[i].exchange.data.toList true wrapped) wrapped (by omega)
  generalize blocksStr (ecbB L[i].exchange.data.toList true wrapped) wrapped = D at *
  have WK := Aside0.mk (Ref.refWeak_any D)
  rw [hw] at WK
  have CK := Aside0.mk (Ref.refCheck_yes D (by unfold Ref.fitsB; rw [decide_eq_true_iff]; omega))
  rw [show (⟨(checkB D.data.toList).toArray⟩ : ByteArray) = lst (checkB D.data.toList) from rfl] at CK
  have b2 := neq_list hc
  generalize lst (checkB D.data.toList) = cv at *
  generalize L[i] = x at *
  clear h hi hx hl hk hDz hw hc ha
  go_enter Tryz.func32, Tryz.ntmps32
  go_wp2_with fail
  refine (AT.out).mono ?_
  rintro e w1 ⟨rfl, hb⟩
  have B := Aside0.mk hb
  replace H := Aside0.mk (H.out.step hb)
  clear hb
  go_upto_region 2 with fail
  have HNE : Aside0 (b ≠ w1.heap.size) := ⟨Nat.ne_of_lt H.out.body.lt⟩
  have G : Aside0 (Blk (w1.alloc (.cells #[.bool true, .int .i64 x.alg, .int .i64 x.method, .string x.key, .string x.exchange, .int .i64 x.round] 65)) w1.heap.size 65 #[.bool true, .int .i64 x.alg, .int .i64 x.method, .string x.key, .string x.exchange, .int .i64 x.round]) := ⟨Blk.new w1 65 _⟩
  replace H := Aside0.mk (H.out.step (below_alloc (Below.refl w1.heap.size w1) (.cells #[.bool true, .int .i64 x.alg, .int .i64 x.method, .string x.key, .string x.exchange, .int .i64 x.round] 65)))
  replace B := Aside0.mk (below_alloc B.out (.cells #[.bool true, .int .i64 x.alg, .int .i64 x.method, .string x.key, .string x.exchange, .int .i64 x.round] 65))
  generalize w1.heap.size = bx at *
  generalize w1.alloc (.cells #[.bool true, .int .i64 x.alg, .int .i64 x.method, .string x.key, .string x.exchange, .int .i64 x.round] 65) = w2 at *
  have d3 : w2.cell? ⟨bx, 3, none⟩ = some (.string x.key) := G.out.cell 3
  have d4 : w2.cell? ⟨bx, 4, none⟩ = some (.string x.exchange) := G.out.cell 4
  go_wp2_with fail
  clear d3 d4
  refine (TN.out _).mono ?_
  rintro e w3 ⟨rfl, hb⟩
  replace B := Aside0.mk (B.out.trans (hb.mono B.out.size))
  replace H := Aside0.mk (H.out.step hb)
  replace G := Aside0.mk (G.out.step hb)
  clear hb TN
  go_wp2_with fail
  refine (WK.out _).mono ?_
  rintro e w4 ⟨rfl, hb⟩
  replace B := Aside0.mk (B.out.trans (hb.mono B.out.size))
  replace H := Aside0.mk (H.out.step hb)
  replace G := Aside0.mk (G.out.step hb)
  clear hb WK
  go_wp2_with fail
  refine (CK.out _).mono ?_
  rintro e w5 ⟨rfl, hb⟩
  replace B := Aside0.mk (B.out.trans (hb.mono B.out.size))
  replace H := Aside0.mk (H.out.step hb)
  clear hb CK
  go_wp2_with fail
  go_ret
  exact ⟨rfl, B.out⟩
set_option maxHeartbeats 8000000 in
set_option maxRecDepth 100000 in
theorem rchange_yes (g b : Nat) (L : List SlotD) (i : Nat) (wrapped check : ByteArray) (hi : i < L.length) (ha : L[i].alg ≠ 0) (hx : L[i].exchange.size = 16) (hl : wrapped.size = L[i].key.size) (hk : L[i].key.size = 8 ∨ L[i].key.size = 16) (hr : 0 ≤ L[i].round ∧ L[i].round ≤ 999999999)
    (hw : weakB (blocksStr (ecbB L[i].exchange.data.toList true wrapped) wrapped).data.toList = false) (hc : lst (checkB (blocksStr (ecbB L[i].exchange.data.toList true wrapped) wrapped).data.toList) = check) (w : World) (h : RefAt w g b L) :
    Calls Tryz.prog 32 #[.pointer (some ⟨g, 0, none⟩), .int .i64 (i : Int), .string wrapped, .string check] w fun e w' => e = .returned (.int .i64 0) ∧
      RefAt w' g b (L.set i ⟨L[i].alg, L[i].method, blocksStr (ecbB L[i].exchange.data.toList true wrapped) wrapped, L[i].exchange, more L[i].round⟩) ∧ Kp w.heap.size b w w' := by
  have H := Aside0.mk h
  have AT := Aside0.mk (at_in' g b L i hi w h)
  rw [show (L[i].alg != 0) = true by rw [bne_iff_ne]; exact ha] at AT
  have he : L[i].exchange.toList.isEmpty = false := by rw [ByteArray.toList_eq, List.isEmpty_eq_false_iff]; exact fun e => by rw [← slen, e] at hx; simp at hx
  have b1 : ((wrapped.size : Int) != (L[i].key.size : Int)) = false := by rw [bne_eq_false_iff_eq]; omega
  have TN := Aside0.mk (Ref.refTurn_yes L[i].exchange wrapped (.inr (.inl hx)) (by omega) (by omega) true)
  have hDz := blocksStr_size (ecbB L[i].exchange.data.toList true wrapped) wrapped (by omega)
  generalize blocksStr (ecbB L[i].exchange.data.toList true wrapped) wrapped = D at *
  have WK := Aside0.mk (Ref.refWeak_any D)
  rw [hw] at WK
  have CK := Aside0.mk (Ref.refCheck_yes D (by unfold Ref.fitsB; rw [decide_eq_true_iff]; omega))
  rw [show (⟨(checkB D.data.toList).toArray⟩ : ByteArray) = lst (checkB D.data.toList) from rfl] at CK
  rw [hc] at CK
  have hA1 := allRef_set L i 3 hi (by decide) (.string D) ⟨L[i].alg, L[i].method, D, L[i].exchange, L[i].round⟩ rfl
  have hi2 : i < (L.set i ⟨L[i].alg, L[i].method, D, L[i].exchange, L[i].round⟩).length := by rw [List.length_set]; exact hi
  have hA2 := allRef_set (L.set i ⟨L[i].alg, L[i].method, D, L[i].exchange, L[i].round⟩) i 5 hi2 (by decide) (.int .i64 (more L[i].round)) ⟨L[i].alg, L[i].method, D, L[i].exchange, more L[i].round⟩ (by rw [List.getElem_set_self]; rfl)
  rw [List.set_set] at hA2
  have HA : Aside0 (((allRef L).setIfInBounds (i * 6 + 3) (.string D)).setIfInBounds (i * 6 + 5) (.int .i64 (more L[i].round)) = allRef (L.set i ⟨L[i].alg, L[i].method, D, L[i].exchange, more L[i].round⟩)) := ⟨by rw [hA1, hA2]⟩
  have HB0 := Aside0.mk h.body.lt
  have HC3 : Aside0 (∃ v, (allRef L)[i * 6 + 3]? = some v) := ⟨⟨_, (allRef_at L i 3 hi (by decide)).trans rfl⟩⟩
  have HC5 : Aside0 (∃ v, (allRef L)[i * 6 + 5]? = some v) := ⟨⟨_, (allRef_at L i 5 hi (by decide)).trans rfl⟩⟩
  have hm : more L[i].round = min (L[i].round + 1) 999999999 := by unfold more; split <;> omega
  obtain ⟨hr0, hr1⟩ := hr
  clear hA1 hA2 hi2
  generalize hx' : L[i] = x at *
  have HL : Aside0 ((L.set i ⟨x.alg, x.method, D, x.exchange, more x.round⟩).length = L.length) := ⟨List.length_set⟩
  clear h hx hl hk hDz hw hc ha hx'
  go_enter Tryz.func32, Tryz.ntmps32
  go_wp2_with fail
  refine (AT.out).mono ?_
  rintro e w1 ⟨rfl, hb⟩
  have B := Aside0.mk hb
  replace H := Aside0.mk (H.out.step hb)
  clear hb
  go_upto_region 2 with fail
  have HNE : Aside0 (b ≠ w1.heap.size) := ⟨Nat.ne_of_lt H.out.body.lt⟩
  have G : Aside0 (Blk (w1.alloc (.cells #[.bool true, .int .i64 x.alg, .int .i64 x.method, .string x.key, .string x.exchange, .int .i64 x.round] 65)) w1.heap.size 65 #[.bool true, .int .i64 x.alg, .int .i64 x.method, .string x.key, .string x.exchange, .int .i64 x.round]) := ⟨Blk.new w1 65 _⟩
  replace H := Aside0.mk (H.out.step (below_alloc (Below.refl w1.heap.size w1) (.cells #[.bool true, .int .i64 x.alg, .int .i64 x.method, .string x.key, .string x.exchange, .int .i64 x.round] 65)))
  replace B := Aside0.mk (below_alloc B.out (.cells #[.bool true, .int .i64 x.alg, .int .i64 x.method, .string x.key, .string x.exchange, .int .i64 x.round] 65))
  generalize w1.heap.size = bx at *
  generalize w1.alloc (.cells #[.bool true, .int .i64 x.alg, .int .i64 x.method, .string x.key, .string x.exchange, .int .i64 x.round] 65) = w2 at *
  have d3 : w2.cell? ⟨bx, 3, none⟩ = some (.string x.key) := G.out.cell 3
  have d4 : w2.cell? ⟨bx, 4, none⟩ = some (.string x.exchange) := G.out.cell 4
  go_wp2_with fail
  clear d3 d4
  refine (TN.out _).mono ?_
  rintro e w3 ⟨rfl, hb⟩
  replace B := Aside0.mk (B.out.trans (hb.mono B.out.size))
  replace H := Aside0.mk (H.out.step hb)
  replace G := Aside0.mk (G.out.step hb)
  clear hb TN
  go_wp2_with fail
  refine (WK.out _).mono ?_
  rintro e w4 ⟨rfl, hb⟩
  replace B := Aside0.mk (B.out.trans (hb.mono B.out.size))
  replace H := Aside0.mk (H.out.step hb)
  replace G := Aside0.mk (G.out.step hb)
  clear hb WK
  go_wp2_with fail
  refine (CK.out _).mono ?_
  rintro e w5 ⟨rfl, hb⟩
  replace B := Aside0.mk (B.out.trans (hb.mono B.out.size))
  replace H := Aside0.mk (H.out.step hb)
  replace G := Aside0.mk (G.out.step hb)
  clear hb CK
  have c0 := H.out.cell0
  have z3 := H.out.body.frozen (i * 6 + 3)
  have q3 := H.out.body.cell (i * 6 + 3)
  obtain ⟨v3, hv3⟩ := HC3.out
  rw [hv3] at q3
  generalize hn : L.length = n at *
  go_upto_region 14 with fail
  have X := Aside0.mk (H.out.body.set_ (i * 6 + 3) (.string D))
  have Y := Aside0.mk (H.out.head.far (p := ⟨b, i * 6 + 3, none⟩) H.out.ne (.string D))
  have Z := Aside0.mk (G.out.far (p := ⟨b, i * 6 + 3, none⟩) (Ne.symm HNE.out) (.string D))
  have K : Aside0 (Kp w.heap.size b w (w5.setCell ⟨b, i * 6 + 3, none⟩ (.string D))) := ⟨(Kp.of_below B.out).trans ⟨rfl, rfl, rfl, by simp [World.setCell], fun k hk hc => Below.heap_setCell w5 ⟨b, i * 6 + 3, none⟩ (.string D) k hc⟩⟩
  have HGB := Aside0.mk H.out.ne
  clear c0 z3 q3 H G B
  generalize w5.setCell ⟨b, i * 6 + 3, none⟩ (.string D) = w6 at *
  have c0 : w6.cell? ⟨g, 0, none⟩ = some (.slice (some ⟨b, 0, none⟩) L.length L.length) := Y.out.cell 0
  rw [hn] at c0
  have d5 : w6.cell? ⟨bx, 5, none⟩ = some (.int .i64 x.round) := Z.out.cell 5
  have z5 := X.out.frozen (i * 6 + 5)
  have q5 := X.out.cell (i * 6 + 5)
  obtain ⟨v5, hv5⟩ := HC5.out
  rw [Array.getElem?_setIfInBounds_ne (by omega), hv5] at q5
  clear hv5 hv3
  go_region
  go_wp2_with fail
  rw [← hm]
  go_ret
  have X2 := (X.out.set_ (i * 6 + 5) (.int .i64 (more x.round))).drew
  rw [HA.out] at X2
  have Y2 := (Y.out.far (p := ⟨b, i * 6 + 5, none⟩) HGB.out (.int .i64 (more x.round))).drew
  rw [hn, ← HL.out] at Y2
  exact ⟨rfl, ⟨Y2, X2⟩, K.out.trans ⟨rfl, rfl, rfl, by simp [World.setCell], fun k hk hc => Below.heap_setCell w6 ⟨b, i * 6 + 5, none⟩ (.int .i64 (more x.round)) k hc⟩⟩

/-! ### NewSlots -/
theorem made_slots (n : Nat) : madeCells #[.int .i64 0, .int .i64 0, .string ⟨#[]⟩, .string ⟨#[]⟩, .int .i64 0] (n * 5) = allCells (List.replicate n emptySlot) := by
  apply Array.ext_getElem?
  intro j
  by_cases hj : j < n * 5
  · have h5 : j % 5 < 5 := Nat.mod_lt _ (by decide)
    have hi : j / 5 < (List.replicate n emptySlot).length := by rw [List.length_replicate]; omega
    have e := allCells_at (List.replicate n emptySlot) (j / 5) (j % 5) hi h5
    rw [show j / 5 * 5 + j % 5 = j by omega, List.getElem_replicate] at e
    rw [e]
    have e2 : (madeCells #[.int .i64 0, .int .i64 0, .string ⟨#[]⟩, .string ⟨#[]⟩, .int .i64 0] (n * 5))[j]? = some ((#[.int .i64 0, .int .i64 0, .string ⟨#[]⟩, .string ⟨#[]⟩, .int .i64 0] : Array Value)[j % 5]!) := by
      simp [madeCells, hj]
    rw [e2]
    generalize j % 5 = r at h5 ⊢
    have : r = 0 ∨ r = 1 ∨ r = 2 ∨ r = 3 ∨ r = 4 := by omega
    rcases this with rfl | rfl | rfl | rfl | rfl <;> rfl
  · rw [Array.getElem?_eq_none (by rw [size_madeCells]; omega), Array.getElem?_eq_none (by rw [allCells_size, List.length_replicate]; omega)]
theorem made_refs (n : Nat) : madeCells #[.bool false, .int .i64 0, .int .i64 0, .string ⟨#[]⟩, .string ⟨#[]⟩, .int .i64 0] (n * 6) = allRef (List.replicate n emptySlot) := by
  apply Array.ext_getElem?
  intro j
  by_cases hj : j < n * 6
  · have h5 : j % 6 < 6 := Nat.mod_lt _ (by decide)
    have hi : j / 6 < (List.replicate n emptySlot).length := by rw [List.length_replicate]; omega
    have e := allRef_at (List.replicate n emptySlot) (j / 6) (j % 6) hi h5
    rw [show j / 6 * 6 + j % 6 = j by omega, List.getElem_replicate] at e
    rw [e]
    have e2 : (madeCells #[.bool false, .int .i64 0, .int .i64 0, .string ⟨#[]⟩, .string ⟨#[]⟩, .int .i64 0] (n * 6))[j]? = some ((#[.bool false, .int .i64 0, .int .i64 0, .string ⟨#[]⟩, .string ⟨#[]⟩, .int .i64 0] : Array Value)[j % 6]!) := by
      simp [madeCells, hj]
    rw [e2]
    generalize j % 6 = r at h5 ⊢
    have : r = 0 ∨ r = 1 ∨ r = 2 ∨ r = 3 ∨ r = 4 ∨ r = 5 := by omega
    rcases this with rfl | rfl | rfl | rfl | rfl | rfl <;> rfl
  · rw [Array.getElem?_eq_none (by rw [size_madeCells]; omega), Array.getElem?_eq_none (by rw [allRef_size, List.length_replicate]; omega)]
theorem infoS : (Tryz.prog.info? 62).map (fun i => (i.zero, i.size, i.bytes)) = some (some (.agg #[.int .i64 0, .int .i64 0, .string ⟨#[]⟩, .string ⟨#[]⟩, .int .i64 0]), 5, 56) := by kernel_rfl
theorem infoR : (Tryz.prog.info? 65).map (fun i => (i.zero, i.size, i.bytes)) = some (some (.agg #[.bool false, .int .i64 0, .int .i64 0, .string ⟨#[]⟩, .string ⟨#[]⟩, .int .i64 0]), 6, 64) := by kernel_rfl
theorem make_slots (n : Nat) (hn : n ≤ 32) (W : World) : (Instr.makeSlice 44 (.int .i64 (n : Int)) (.int .i64 (n : Int))).run Tryz.prog W = .ok (.slice (some ⟨W.heap.size, 0, none⟩) n n) (W.alloc (.cells (allCells (List.replicate n emptySlot)) 62)) := by
  obtain ⟨i, hi, he⟩ := Option.map_eq_some_iff.1 infoS
  simp only [Prod.mk.injEq] at he
  obtain ⟨h1, h2, h3⟩ := he
  have h := run_make (P := Tryz.prog) W 44 62 i _ Tryz.underlying44 hi h1 .i64 .i64 (n : Int) (n : Int) (by omega) (by omega) (by rw [h3]; omega) (by omega)
  rw [h2, Int.toNat_natCast] at h
  rw [← made_slots]
  exact h
theorem make_refs (n : Nat) (hn : n ≤ 32) (W : World) : (Instr.makeSlice 37 (.int .i64 (n : Int)) (.int .i64 (n : Int))).run Tryz.prog W = .ok (.slice (some ⟨W.heap.size, 0, none⟩) n n) (W.alloc (.cells (allRef (List.replicate n emptySlot)) 65)) := by
  obtain ⟨i, hi, he⟩ := Option.map_eq_some_iff.1 infoR
  simp only [Prod.mk.injEq] at he
  obtain ⟨h1, h2, h3⟩ := he
  have h := run_make (P := Tryz.prog) W 37 65 i _ Tryz.underlying37 hi h1 .i64 .i64 (n : Int) (n : Int) (by omega) (by omega) (by rw [h3]; omega) (by omega)
  rw [h2, Int.toNat_natCast] at h
  rw [← made_refs]
  exact h
set_option maxHeartbeats 2000000 in
set_option maxRecDepth 100000 in
theorem newS_no (n : Int) (hn : n < 1 ∨ 32 < n) (w : World) : Calls Tryz.prog 4 #[.int .i64 n] w fun e w' => e = .returned (.tuple #[.pointer none, .int .i64 1]) ∧ Below w.heap.size w w' := by
  rcases hn with hn | hn
  · go_enter Tryz.func4, Tryz.ntmps4
    go_wp2_with fail
    go_ret2
    exact ⟨rfl, Below.refl _ _⟩
  · have hn0 : ¬ n < 1 := by omega
    go_enter Tryz.func4, Tryz.ntmps4
    go_wp2_with fail
    go_ret2
    exact ⟨rfl, Below.refl _ _⟩
set_option maxHeartbeats 2000000 in
set_option maxRecDepth 100000 in
theorem newR_no (n : Int) (hn : n < 1 ∨ 32 < n) (w : World) : Calls Tryz.prog 5 #[.int .i64 n] w fun e w' => e = .returned (.tuple #[.pointer none, .int .i64 1]) ∧ Below w.heap.size w w' := by
  rcases hn with hn | hn
  · go_enter Tryz.func5, Tryz.ntmps5
    go_wp2_with fail
    go_ret2
    exact ⟨rfl, Below.refl _ _⟩
  · have hn0 : ¬ n < 1 := by omega
    go_enter Tryz.func5, Tryz.ntmps5
    go_wp2_with fail
    go_ret2
    exact ⟨rfl, Below.refl _ _⟩
set_option maxHeartbeats 2000000 in
set_option maxRecDepth 100000 in
theorem newS_yes (n : Nat) (h1 : 1 ≤ n) (h2 : n ≤ 32) (w : World) : Calls Tryz.prog 4 #[.int .i64 (n : Int)] w fun e w' => ∃ g b, e = .returned (.tuple #[.pointer (some ⟨g, 0, none⟩), .int .i64 0]) ∧ w.heap.size ≤ g ∧ w.heap.size ≤ b ∧ SlotsAt w' g b (List.replicate n emptySlot) ∧ Below w.heap.size w w' := by
  have hmk := make_slots n h2
  have B1 : Aside0 (Below w.heap.size w (w.alloc (.cells (allCells (List.replicate n emptySlot)) 62))) := ⟨below_alloc (Below.refl _ _) _⟩
  have G1 : Aside0 (Blk (w.alloc (.cells (allCells (List.replicate n emptySlot)) 62)) w.heap.size 62 (allCells (List.replicate n emptySlot))) := ⟨Blk.new w 62 _⟩
  have hl : (List.replicate n emptySlot).length = n := List.length_replicate
  have a1 : ¬ (n : Int) < 1 := by omega
  have a2 : ¬ 32 < (n : Int) := by omega
  generalize List.replicate n emptySlot = L at *
  go_enter Tryz.func4, Tryz.ntmps4
  go_wp2_with fail
  go_ret2
  refine ⟨w.heap.size + 1, rfl, Nat.le_succ _, w.heap.size, Nat.le_refl _, ⟨?_, G1.out.alloc _⟩, below_alloc B1.out _⟩
  have h := Blk.new (w.alloc (.cells (allCells L) 62)) 53 #[.int .i32 0, .int .u32 0, .slice (some ⟨w.heap.size, 0, none⟩) n n]
  rw [size_alloc] at h
  rw [hl]
  exact h
set_option maxHeartbeats 2000000 in
set_option maxRecDepth 100000 in
theorem newR_yes (n : Nat) (h1 : 1 ≤ n) (h2 : n ≤ 32) (w : World) : Calls Tryz.prog 5 #[.int .i64 (n : Int)] w fun e w' => ∃ g b, e = .returned (.tuple #[.pointer (some ⟨g, 0, none⟩), .int .i64 0]) ∧ w.heap.size ≤ g ∧ w.heap.size ≤ b ∧ RefAt w' g b (List.replicate n emptySlot) ∧ Below w.heap.size w w' := by
  have hmk := make_refs n h2
  have B1 : Aside0 (Below w.heap.size w (w.alloc (.cells (allRef (List.replicate n emptySlot)) 65))) := ⟨below_alloc (Below.refl _ _) _⟩
  have G1 : Aside0 (Blk (w.alloc (.cells (allRef (List.replicate n emptySlot)) 65)) w.heap.size 65 (allRef (List.replicate n emptySlot))) := ⟨Blk.new w 65 _⟩
  have hl : (List.replicate n emptySlot).length = n := List.length_replicate
  have a1 : ¬ (n : Int) < 1 := by omega
  have a2 : ¬ 32 < (n : Int) := by omega
  generalize List.replicate n emptySlot = L at *
  go_enter Tryz.func5, Tryz.ntmps5
  go_wp2_with fail
  go_ret2
  refine ⟨w.heap.size + 1, rfl, Nat.le_succ _, w.heap.size, Nat.le_refl _, ⟨?_, G1.out.alloc _⟩, below_alloc B1.out _⟩
  have h := Blk.new (w.alloc (.cells (allRef L) 65)) 39 #[.slice (some ⟨w.heap.size, 0, none⟩) n n]
  rw [size_alloc] at h
  rw [hl]
  exact h
end Go.Proofs.YtopobangjpehnaaGreat.Seal
