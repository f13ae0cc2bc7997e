/- The walk of the law SealSteps. -/
import Derived.Test.YtopobangjpehnaaFilledLaw
set_option linter.unusedVariables false
set_option linter.unusedSimpArgs false
namespace Go.Proofs.Ytopobangjpehnaa.Seal
open Go.RowKit Go.Proofs.YtopobangjpehnaaW.PrintWords Go.Proofs.YtopobangjpehnaaW.PrintLast Go.Proofs.YtopobangjpehnaaW.PrintMore Pr Des Num Walk

theorem pick2_any (c : Int) (hc : (Lit.int .i64 c).wf = true) : ∃ r : Int, (r = 0 ∨ r = 1) ∧ ∀ W : World, Calls Try.prog 35 #[.int .i64 c, .int .i64 2] W fun e w' => e = .returned (.int .i64 r) ∧ Below W.heap.size W w' := by
  obtain ⟨r, h1, h2⟩ := pick4_any c 2 (wf_i64 hc) (by decide) (by decide)
  exact ⟨(r : Int), by omega, h2⟩
theorem T8_xor (x y : List Bool) (hx : x.length = 64) (hy : y.length = 64) : xorS (T8 x) (T8 y) = T8 (xo x y) := by
  have h1 : (xorS (T8 x) (T8 y)).size = 8 := by rw [xorS_size _ _ (by rw [T8_size, T8_size]), T8_size]
  rw [T8_of _ h1, xorS_list, bitsB_xor _ _ (by rw [slen, slen, T8_size, T8_size]), T8_bits _ hx, T8_bits _ hy]
theorem T8_block (s : ByteArray) (q : Nat) (h : 8 * q + 8 ≤ s.size) : s.extract (8 * q) (8 * q + 8) = T8 (blockAt s q) := by
  obtain ⟨h1, h2⟩ := block_str s q h
  rw [T8_of _ h1, h2]
theorem slice_T8 (s : ByteArray) (q : Nat) (h : 8 * q + 8 ≤ s.size) (w : World) :
    (Instr.slice 9 (.string s) (some (.int .i64 (8 * (q : Int)))) (some (.int .i64 (8 * (q : Int) + 8))) none).run Try.prog w = .ok (.string (T8 (blockAt s q))) w := by
  rw [← T8_block s q h]
  exact slice_block s q h w
theorem xor8 (x y : List Bool) (hx : x.length = 64) (hy : y.length = 64) (w : World) :
    Calls Try.prog 33 #[.string (T8 x), .string (T8 y)] w fun e w' => e = .returned (.tuple #[.string (T8 (xo x y)), .int .i64 0]) ∧ Below w.heap.size w w' := by
  have := xor_yes (T8 x) (T8 y) (by rw [T8_size, T8_size]) (by rw [T8_size]; decide) w
  rw [T8_xor _ _ hx hy] at this
  exact this
theorem padS_size8 (m : Int) (s : ByteArray) : (padS m s).size ≤ s.size + 8 := by
  have e := slen s
  by_cases hm : m = 2
  · have hne : s.data.toList ++ [128] ≠ [] := by simp
    unfold padS padL fillL
    rw [lst_size, if_pos hm, if_neg hne, List.length_append, zeros_length, List.length_append, List.length_singleton, e]
    omega
  · have h := fillL_length s.data.toList
    unfold padS padL
    rw [lst_size, if_neg hm]
    omega
theorem padS_head (m : Int) (s : ByteArray) : (padS m s).extract 0 s.size = s := by
  apply byteArray_ext
  rw [Go.Lib.extract_data]
  unfold padS padL fillL
  rw [lst_list, Nat.sub_zero, List.drop_zero, ← slen]
  by_cases hm : m = 2
  · rw [if_pos hm, if_neg (by simp), List.append_assoc, List.take_left]
  · rw [if_neg hm]
    split
    · rename_i h; rw [h]; rfl
    · rw [List.take_left]
theorem wants_of {n m : Int} (hn : n = 1 ∨ n = 3) (hm : m = 1 ∨ m = 2) : wantsN n m = 4 + 4 * n := by
  unfold wantsN
  rw [if_pos hm]
  rcases hn with rfl | rfl <;> rfl
theorem make8_string (w : World) : (convert 53 9 (.slice (some ⟨w.heap.size, 0, none⟩) 8 8)).run Try.prog (w.alloc (.cells (bcells (zeros 8)) 5)) = .ok (.string (T8 (bitsN 64 0))) (w.alloc (.cells (bcells (zeros 8)) 5)) := by
  rw [zeros_string 8 (by decide) w]
  rfl

set_option maxHeartbeats 16000000 in
set_option maxRecDepth 100000 in
theorem steps_core (alg m0 : Int) (ra n rm m : Int) (hn : ra = 0 ∧ n = 1 ∨ ra = 1 ∧ n = 3) (hm : rm = 0 ∧ m = 1 ∨ rm = 1 ∧ m = 2)
    (HA : ∀ W : World, Calls Try.prog 35 #[.int .i64 alg, .int .i64 2] W fun e w' => e = .returned (.int .i64 ra) ∧ Below W.heap.size W w')
    (HM : ∀ W : World, Calls Try.prog 35 #[.int .i64 m0, .int .i64 2] W fun e w' => e = .returned (.int .i64 rm) ∧ Below W.heap.size W w')
    (key : ByteArray) (hk : key.size ≤ 140737488351232) (s : ByteArray) (hs : s.size ≤ 140737488351232) (w : World) :
    Calls Try.prog 18 #[.int .i64 alg, .int .i64 m0, .string key, .string s] w fun e w' => e = .returned (.bool true) ∧ Below w.heap.size w w' := by
  have hn13 : n = 1 ∨ n = 3 := by omega
  have hm12 : m = 1 ∨ m = 2 := by omega
  have hf := fitted_any key (4 + 4 * n) (by omega) (by omega)
  have hks := fitS_size key (4 + 4 * n).toNat
  generalize fitS key (4 + 4 * n).toNat = k at *
  have hkw : (k.size : Int) = wantsN n m := by rw [wants_of hn13 hm12]; omega
  have hk8 : 8 ≤ k.size := by omega
  have ht := fun W => tag_yes n m hm12 hn13 k s hkw (by omega) W
  have hp := fun W => pad_any m hm12 s (by omega) W
  have hz := padS_size m s
  have hz8 := padS_size8 m s
  have hh := padS_head m s
  have ha8 : (k.extract 0 8).size = 8 := by rw [ByteArray.size_extract]; omega
  have hb8 : n = 3 → (k.extract 8 k.size).size = 8 := by intro h; rw [ByteArray.size_extract]; omega
  have hN := fun W => new_yes (k.extract 0 8) (kind8 _ ha8) W
  have hN2 := fun (h : n = 3) W => new_yes (k.extract 8 k.size) (kind8 _ (hb8 h)) W
  have sa := fun W => sl_to k 8 hk8 W 8 rfl
  have sb := fun W => sl_from k 8 hk8 W 8 rfl
  have hX : tagX n m k s = if n = 1 then cbcEnd (k.extract 0 8).data.toList (padS m s) else turnB (k.extract 0 8).data.toList false (turnB (k.extract 8 k.size).data.toList true (cbcEnd (k.extract 0 8).data.toList (padS m s))) := rfl
  have hEl := cbcEnd_length (k.extract 0 8).data.toList (padS m s) hz.1 hz.2.1
  have hD := fun g W hg => dec8 g (k.extract 8 k.size) (cbcEnd (k.extract 0 8).data.toList (padS m s)) hEl W hg
  have hE2 := fun g W hg => enc8 g (k.extract 0 8) (turnB (k.extract 8 k.size).data.toList true (cbcEnd (k.extract 0 8).data.toList (padS m s))) (turnB_length _ _ _ hEl) W hg
  have sp := fun W => sl_to (padS m s) s.size hz.2.2.1 W (s.size : Int) rfl
  rw [hh] at sp
  obtain ⟨V, hV⟩ : ∃ V, V = cbcPrev (k.extract 0 8).data.toList (bitsN 64 0) (padS m s) := ⟨_, rfl⟩
  obtain ⟨j, hj⟩ : ∃ j, (padS m s).size = 8 * (j + 1) := ⟨(padS m s).size / 8 - 1, by omega⟩
  have hVl : ∀ q, q < j + 1 → (V q).length = 64 := fun q hq => by rw [hV]; exact cbcPrev_length _ _ (bitsN_length _ _) _ (j + 1) hj q hq
  have hBl : ∀ q, q < j + 1 → (blockAt (padS m s) q).length = 64 := fun q hq => blockAt_length _ (j + 1) q hj hq
  have hXo := fun q (hq : q < j + 1) W => xor8 (V q) (blockAt (padS m s) q) (hVl q hq) (hBl q hq) W
  have hVs : ∀ q, turnB (k.extract 0 8).data.toList false (xo (V q) (blockAt (padS m s) q)) = V (q + 1) := fun q => by
    rw [xo_comm, hV]
    exact (cbcB_eq _ _ _ q).symm
  have hEn := fun q (hq : q < j + 1) g W hg => enc8 g (k.extract 0 8) (xo (V q) (blockAt (padS m s) q)) (xo_len64 _ _ (hVl q hq) (hBl q hq)) W hg
  simp only [hVs] at hEn
  have hVe : V (j + 1) = cbcEnd (k.extract 0 8).data.toList (padS m s) := by
    unfold cbcEnd
    rw [hV, show (padS m s).size / 8 - 1 = j by omega]
    rfl
  have hV0 : V 0 = bitsN 64 0 := by rw [hV]; rfl
  have hts := T8_size (tagX n m k s)
  have HX := Aside0.mk hXo
  have HE := Aside0.mk hEn
  have HP := Aside0.mk hj
  have HV0 := Aside0.mk hV0
  have HVE := Aside0.mk hVe
  have HTX := Aside0.mk hX
  have HA' := Aside0.mk HA
  have HM' := Aside0.mk HM
  have K := Aside0.mk hf
  have T := Aside0.mk ht
  have P := Aside0.mk hp
  have N1 := Aside0.mk hN
  have N2 := Aside0.mk hN2
  have D2 := Aside0.mk hD
  have E2 := Aside0.mk hE2
  have hmk := fun W => make_zeros 8 (by decide) W
  have hcv := make8_string
  have hpz : (padS m s).size ≤ 140737488355000 := by omega
  have hps : s.size ≤ (padS m s).size := by omega
  have b1 : decide ((padS m s).size < s.size) = false := decide_eq_false (by omega)
  have b2 : decide (((s.size : Int) + 8) < ((padS m s).size : Int)) = false := decide_eq_false (by omega)
  have b3 : (((padS m s).size : Int) == 0) = false := by rw [beq_eq_false_iff_ne]; omega
  have b4 : (((padS m s).size : Int) % 8 != 0) = false := by rw [bne_eq_false_iff_eq]; omega
  generalize cbcEnd (k.extract 0 8).data.toList (padS m s) = L at *
  generalize tagX n m k s = TX at *
  generalize padS m s = p at *
  generalize k.extract 0 8 = ka at *
  generalize k.extract 8 k.size = kb at *
  have hsm : s.size ≤ 140737488351232 := hs
  clear hn13 hm12 hf hks hkw ht hp hz hz8 hh ha8 hb8 hN hN2 hX hEl hD hE2 hV hj hVl hBl hXo hVs hEn hVe hV0 hk hs hk8 HA HM
  rw [show (((8 : Nat) : Int)) = 8 from rfl] at hmk
  rcases hn with ⟨rfl, rfl⟩ | ⟨rfl, rfl⟩
  · rcases hm with ⟨rfl, rfl⟩ | ⟨rfl, rfl⟩
    all_goals
      go_enter Try.func18, Try.ntmps18
      go_wp2_with fail
      refine (HA'.out _).mono ?_
      rintro e w1 ⟨rfl, hb⟩
      have B := Aside0.mk hb
      clear hb
      go_wp2_with fail
      refine (HM'.out _).mono ?_
      rintro e w2 ⟨rfl, hb⟩
      replace B := Aside0.mk (B.out.trans (hb.mono B.out.size))
      clear hb
      go_wp2_with fail
      refine (K.out _).mono ?_
      rintro e w3 ⟨rfl, hb⟩
      replace B := Aside0.mk (B.out.trans (hb.mono B.out.size))
      clear hb
      go_wp2_with fail
      refine (T.out _).mono ?_
      rintro e w4 ⟨rfl, hb⟩
      replace B := Aside0.mk (B.out.trans (hb.mono B.out.size))
      clear hb
      go_wp2_with fail
      refine (P.out _).mono ?_
      rintro e w5 ⟨rfl, hb⟩
      replace B := Aside0.mk (B.out.trans (hb.mono B.out.size))
      clear hb
      go_wp2_with fail
      refine (N1.out _).mono ?_
      rintro e w6 ⟨g, rfl, hge, hg, hb⟩
      replace B := Aside0.mk (B.out.trans (hb.mono B.out.size))
      have G := Aside0.mk hg
      clear hb hg hge N1
      go_wp2_with fail
      replace B := Aside0.mk (below_alloc B.out (.cells (bcells (zeros 8)) 5))
      replace G := Aside0.mk (G.out.step (below_alloc (Below.refl w6.heap.size w6) (.cells (bcells (zeros 8)) 5)))
      generalize w6.alloc (.cells (bcells (zeros 8)) 5) = w7 at *
      clear hmk hcv sp
      go_loopw [18, 19] (fun v18 v19 wr => ∃ q : Nat, q ≤ j + 1 ∧ v19 = .int .i64 (8 * (q : Int)) ∧ v18 = .string (T8 (V q)) ∧ Aside0 (Blk wr g 72 (keyBlock ka.data.toList)) ∧ Aside0 (Below w.heap.size w wr)) (fun _ v19 _ => p.size - (intOf v19).toNat)
      case atStart => exact ⟨0, by omega, rfl, by rw [HV0.out], G, B⟩
      case round =>
        clear B G
        obtain ⟨q, hq, rfl, rfl, G, B⟩ := hrel
        have htn := HP.out
        by_cases hlt : q < j + 1
        · have u1 : 8 * q + 8 ≤ p.size := by omega
          have hsl := slice_T8 p q u1
          have C1 := Aside0.mk (HX.out q hlt)
          have C2 := Aside0.mk (fun W hg => HE.out q hlt g W hg)
          clear htn
          go_wp2_with fail
          refine (C1.out _).mono ?_
          rintro e x1 ⟨rfl, hb⟩
          replace B := Aside0.mk (B.out.trans (hb.mono B.out.size))
          replace G := Aside0.mk (G.out.step hb)
          clear hb
          go_wp2_with fail
          refine (C2.out _ G.out).mono ?_
          rintro e x2 ⟨rfl, hb⟩
          replace B := Aside0.mk (B.out.trans (hb.mono B.out.size))
          replace G := Aside0.mk (G.out.step hb)
          clear hb
          go_wp2_with fail
          have htn := HP.out
          go_roundw
          case rel => exact ⟨q + 1, by omega, by go_num, rfl, G, B⟩
          case measure => simp [intOf]; omega
        · obtain rfl : q = j + 1 := by omega
          have u1 : ¬ (8 * ((j + 1 : Nat) : Int) < (p.size : Int)) := by omega
          clear htn
          have e : V (j + 1) = TX := by rw [HVE.out]; simpa using HTX.out.symm
          rw [e]
          clear e
          go_wp2_with fail
          go_ret
          exact ⟨by simp, B.out⟩
  · rcases hm with ⟨rfl, rfl⟩ | ⟨rfl, rfl⟩
    all_goals
      go_enter Try.func18, Try.ntmps18
      go_wp2_with fail
      refine (HA'.out _).mono ?_
      rintro e w1 ⟨rfl, hb⟩
      have B := Aside0.mk hb
      clear hb
      go_wp2_with fail
      refine (HM'.out _).mono ?_
      rintro e w2 ⟨rfl, hb⟩
      replace B := Aside0.mk (B.out.trans (hb.mono B.out.size))
      clear hb
      go_wp2_with fail
      refine (K.out _).mono ?_
      rintro e w3 ⟨rfl, hb⟩
      replace B := Aside0.mk (B.out.trans (hb.mono B.out.size))
      clear hb
      go_wp2_with fail
      refine (T.out _).mono ?_
      rintro e w4 ⟨rfl, hb⟩
      replace B := Aside0.mk (B.out.trans (hb.mono B.out.size))
      clear hb
      go_wp2_with fail
      refine (P.out _).mono ?_
      rintro e w5 ⟨rfl, hb⟩
      replace B := Aside0.mk (B.out.trans (hb.mono B.out.size))
      clear hb
      go_wp2_with fail
      refine (N1.out _).mono ?_
      rintro e w6 ⟨g, rfl, hge, hg, hb⟩
      replace B := Aside0.mk (B.out.trans (hb.mono B.out.size))
      have G := Aside0.mk hg
      clear hb hg hge N1
      go_wp2_with fail
      replace B := Aside0.mk (below_alloc B.out (.cells (bcells (zeros 8)) 5))
      replace G := Aside0.mk (G.out.step (below_alloc (Below.refl w6.heap.size w6) (.cells (bcells (zeros 8)) 5)))
      generalize w6.alloc (.cells (bcells (zeros 8)) 5) = w7 at *
      clear hmk hcv sp
      go_loopw [18, 19] (fun v18 v19 wr => ∃ q : Nat, q ≤ j + 1 ∧ v19 = .int .i64 (8 * (q : Int)) ∧ v18 = .string (T8 (V q)) ∧ Aside0 (Blk wr g 72 (keyBlock ka.data.toList)) ∧ Aside0 (Below w.heap.size w wr)) (fun _ v19 _ => p.size - (intOf v19).toNat)
      case atStart => exact ⟨0, by omega, rfl, by rw [HV0.out], G, B⟩
      case round =>
        clear B G
        obtain ⟨q, hq, rfl, rfl, G, B⟩ := hrel
        have htn := HP.out
        by_cases hlt : q < j + 1
        · have u1 : 8 * q + 8 ≤ p.size := by omega
          have hsl := slice_T8 p q u1
          have C1 := Aside0.mk (HX.out q hlt)
          have C2 := Aside0.mk (fun W hg => HE.out q hlt g W hg)
          clear htn
          go_wp2_with fail
          refine (C1.out _).mono ?_
          rintro e x1 ⟨rfl, hb⟩
          replace B := Aside0.mk (B.out.trans (hb.mono B.out.size))
          replace G := Aside0.mk (G.out.step hb)
          clear hb
          go_wp2_with fail
          refine (C2.out _ G.out).mono ?_
          rintro e x2 ⟨rfl, hb⟩
          replace B := Aside0.mk (B.out.trans (hb.mono B.out.size))
          replace G := Aside0.mk (G.out.step hb)
          clear hb
          go_wp2_with fail
          have htn := HP.out
          go_roundw
          case rel => exact ⟨q + 1, by omega, by go_num, rfl, G, B⟩
          case measure => simp [intOf]; omega
        · obtain rfl : q = j + 1 := by omega
          have u1 : ¬ (8 * ((j + 1 : Nat) : Int) < (p.size : Int)) := by omega
          clear htn
          rw [HVE.out]
          have e : turnB ka.data.toList false (turnB kb.data.toList true L) = TX := by simpa using HTX.out.symm
          rw [e] at E2
          clear e
          go_wp2_with fail
          refine (N2.out (by trivial) _).mono ?_
          rintro e x6 ⟨g2, rfl, hge, hg, hb⟩
          replace B := Aside0.mk (B.out.trans (hb.mono B.out.size))
          replace G := Aside0.mk (G.out.step hb)
          have G2 := Aside0.mk hg
          clear hb hg hge
          go_wp2_with fail
          refine (D2.out g2 _ G2.out).mono ?_
          rintro e x7 ⟨rfl, hb⟩
          replace B := Aside0.mk (B.out.trans (hb.mono B.out.size))
          replace G := Aside0.mk (G.out.step hb)
          clear hb
          go_wp2_with fail
          refine (E2.out g _ G.out).mono ?_
          rintro e x8 ⟨rfl, hb⟩
          replace B := Aside0.mk (B.out.trans (hb.mono B.out.size))
          clear hb
          go_wp2_with fail
          go_ret
          exact ⟨by simp, B.out⟩
theorem steps_law (alg : Int) (ha : (Lit.int .i64 alg).wf = true) (m : Int) (hm : (Lit.int .i64 m).wf = true) (key : ByteArray) (hk : key.size ≤ 140737488351232) (s : ByteArray) (hs : s.size ≤ 140737488351232) (w : World) :
    Calls Try.prog 18 #[.int .i64 alg, .int .i64 m, .string key, .string s] w fun e w' => e = .returned (.bool true) ∧ Below w.heap.size w w' := by
  obtain ⟨ra, h1, HA⟩ := pick2_any alg ha
  obtain ⟨rm, h2, HM⟩ := pick2_any m hm
  exact steps_core alg m ra (1 + 2 * ra) rm (1 + rm) (by omega) (by omega) HA HM key hk s hs w
end Go.Proofs.Ytopobangjpehnaa.Seal
