/- Two slots made, and the walk of the law SealOwn. -/
import Derived.Test.YtopobangjpehnaaSlotsB
set_option linter.unusedVariables false
set_option linter.unusedSimpArgs false
namespace Go.Proofs.Ytopobangjpehnaa.Seal
open Go.RowKit Go.Proofs.YtopobangjpehnaaW.PrintWords Go.Proofs.YtopobangjpehnaaW.PrintLast Go.Proofs.YtopobangjpehnaaW.PrintMore Pr Des Num Walk
open Go.MuLone

set_option maxHeartbeats 2000000 in
set_option maxRecDepth 100000 in
theorem newSlots2 (w : World) : Calls Try.prog 37 #[.int .i64 2] w fun e w' => ∃ g b, e = .returned (.tuple #[.pointer (some ⟨g, 0, none⟩), .int .i64 0]) ∧ w.heap.size ≤ g ∧ w.heap.size ≤ b ∧ SlotsAt w' g b [emptySlot, emptySlot] ∧ Below w.heap.size w w' := by
  have hmk : ∀ W : World, (Instr.makeSlice 75 (.int .i64 2) (.int .i64 2)).run Try.prog W = .ok (.slice (some ⟨W.heap.size, 0, none⟩) 2 2) (W.alloc (.cells #[.int .i64 0, .int .i64 0, .string ⟨#[]⟩, .string ⟨#[]⟩, .int .i64 0, .int .i64 0, .int .i64 0, .string ⟨#[]⟩, .string ⟨#[]⟩, .int .i64 0] 88)) := fun W => by kernel_rfl
  have B1 : Aside0 (Below w.heap.size w (w.alloc (.cells #[.int .i64 0, .int .i64 0, .string ⟨#[]⟩, .string ⟨#[]⟩, .int .i64 0, .int .i64 0, .int .i64 0, .string ⟨#[]⟩, .string ⟨#[]⟩, .int .i64 0] 88))) := ⟨below_alloc (Below.refl _ _) _⟩
  have G1 : Aside0 (Blk (w.alloc (.cells #[.int .i64 0, .int .i64 0, .string ⟨#[]⟩, .string ⟨#[]⟩, .int .i64 0, .int .i64 0, .int .i64 0, .string ⟨#[]⟩, .string ⟨#[]⟩, .int .i64 0] 88)) w.heap.size 88 (allCells [emptySlot, emptySlot])) := ⟨Blk.new w 88 _⟩
  go_enter Try.func37, Try.ntmps37
  go_wp2_with fail
  go_ret2
  refine ⟨w.heap.size + 1, w.heap.size, rfl, Nat.le_succ _, Nat.le_refl _, ⟨?_, G1.out.alloc _⟩, below_alloc B1.out _⟩
  have h := Blk.new (w.alloc (.cells #[.int .i64 0, .int .i64 0, .string ⟨#[]⟩, .string ⟨#[]⟩, .int .i64 0, .int .i64 0, .int .i64 0, .string ⟨#[]⟩, .string ⟨#[]⟩, .int .i64 0] 88)) 84 #[.int .i32 0, .int .u32 0, .slice (some ⟨w.heap.size, 0, none⟩) 2 2]
  rw [size_alloc] at h
  exact h

/-- A byte turned is another one. -/
theorem bent_ne (T : ByteArray) (i : Nat) (h : i < T.data.toList.length) (z : UInt8) (hz : z ≠ T.data.toList[i]) : lst (T.data.toList.take i ++ [z] ++ T.data.toList.drop (i + 1)) ≠ T := by
  intro e
  have e2 : T.data.toList.take i ++ [z] ++ T.data.toList.drop (i + 1) = T.data.toList := by
    have := congrArg (fun x : ByteArray => x.data.toList) e
    exact this
  have e3 : (T.data.toList.take i ++ [z] ++ T.data.toList.drop (i + 1))[i]? = some z := by
    rw [List.append_assoc, List.getElem?_append_right (by rw [List.length_take]; omega), List.length_take, show i - min i T.data.toList.length = 0 by omega]
    rfl
  rw [e2, List.getElem?_eq_getElem h] at e3
  exact hz (Option.some.inj e3).symm
theorem pick2O_any (c : Int) (hc : -9223372036854775808 ≤ c ∧ c ≤ 9223372036854775807) : ∃ r : Int, (r = 0 ∨ r = 1) ∧ ∀ W : World, Calls Try.prog 35 #[.int .i64 c, .int .i64 2] W fun e w' => e = .returned (.int .i64 r) ∧ Below W.heap.size W w' := by
  obtain ⟨r, h1, h2⟩ := pick4_any c 2 hc (by decide) (by decide)
  exact ⟨(r : Int), by omega, h2⟩
theorem wantsO_of {n m : Int} (hn : n = 1 ∨ n = 3) (hm : m = 1 ∨ m = 2) : wantsN n m = 4 + 4 * n := by
  unfold wantsN
  rw [if_pos hm]
  rcases hn with rfl | rfl <;> rfl
theorem catO (a b : ByteArray) (h : a.size + b.size ≤ 9223372036854775807) (w : World) : (Op.stringOp .add a b).run Try.prog w = .ok (.string (a ++ b)) w := run_string_add_sum w a b h
theorem one_string (W : World) (z : UInt8) : (convert 53 9 (.slice (some ⟨W.heap.size, 0, none⟩) 1 1)).run Try.prog (W.alloc (.cells #[.int .u8 ((z.toNat : Nat) : Int)] 5)).drew = .ok (.string (lst [z])) (W.alloc (.cells #[.int .u8 ((z.toNat : Nat) : Int)] 5)).drew :=
  bcells_string (l := [z]) (c := 1) (Blk.new W 5 (bcells [z])).drew (by show 1 ≤ _; decide)

set_option maxHeartbeats 16000000 in
set_option maxRecDepth 100000 in
theorem own_core (alg m0 : Int) (ra n rm m : Int) (hn : ra = 0 ∧ n = 1 ∨ ra = 1 ∧ n = 3) (hm : rm = 0 ∧ m = 1 ∨ rm = 1 ∧ m = 2)
    (HA : ∀ W : World, Calls Try.prog 35 #[.int .i64 alg, .int .i64 2] W fun e w' => e = .returned (.int .i64 ra) ∧ Below W.heap.size W w')
    (HM : ∀ W : World, Calls Try.prog 35 #[.int .i64 m0, .int .i64 2] W fun e w' => e = .returned (.int .i64 rm) ∧ Below W.heap.size W w')
    (key : ByteArray) (hk : key.size ≤ 140737488351232) (s : ByteArray) (hs : s.size ≤ 140737488351232) (at_ : Int) (i : Nat) (hi : i < 8)
    (HI : ∀ W : World, Calls Try.prog 35 #[.int .i64 at_, .int .i64 8] W fun e w' => e = .returned (.int .i64 (i : Int)) ∧ Below W.heap.size W w') (by_ y : UInt8) (hy : y = if by_ = 0 then 1 else by_) (w : World) :
    Calls Try.prog 19 #[.int .i64 alg, .int .i64 m0, .string key, .string s, .int .i64 at_, .int .u8 ((by_.toNat : Nat) : Int)] w fun e w' => e = .returned (.bool true) ∧ Below w.heap.size w w' := by
  have hn13 : n = 1 ∨ n = 3 := by omega
  have hm12 : m = 1 ∨ m = 2 := by omega
  have hw : wantsN n m ≠ 0 := by rw [wantsO_of hn13 hm12]; omega
  have hf := fitted_any key (4 + 4 * n) (by omega) (by omega)
  have hks := fitS_size key (4 + 4 * n).toNat
  generalize fitS key (4 + 4 * n).toNat = k at *
  have hkw : (k.size : Int) = wantsN n m := by rw [wantsO_of hn13 hm12]; omega
  have ht := fun W => tag_yes n m hm12 hn13 k s hkw (by omega) W
  have hput := fun g b W hW => put_yes g b [emptySlot, emptySlot] 1 n m k ⟨#[]⟩ (by decide) hw hkw (.inl rfl) W hW
  rw [show [emptySlot, emptySlot].set 1 ⟨n, m, k, ⟨#[]⟩, 0⟩ = [emptySlot, ⟨n, m, k, ⟨#[]⟩, 0⟩] from rfl] at hput
  have hst := fun g b W hW => stag_in g b [emptySlot, ⟨n, m, k, ⟨#[]⟩, 0⟩] 1 (Nat.lt_succ_self 1) (show n ≠ 0 by omega) s (by omega) W hW
  have eT : tagT n m k s = T8 (tagX n m k s) := by unfold tagT; rw [if_pos ⟨hw, hkw⟩]
  have eE : tagE n m k = 0 := by unfold tagE; rw [if_neg hw, if_pos hkw]
  simp only [List.getElem_cons_succ, List.getElem_cons_zero, eT, eE] at hst
  have hs0 := fun g b W hW => stag_empty g b [emptySlot, ⟨n, m, k, ⟨#[]⟩, 0⟩] 0 (Nat.succ_pos 1) rfl s W hW
  have hTs := T8_size (tagX n m k s)
  generalize T8 (tagX n m k s) = T at *
  have hTl : T.data.toList.length = 8 := by rw [slen]; exact hTs
  have hr := fun g b W hW t => right_of _ 1 s t T 0 (by omega) W (hst g b W hW)
  have hr0 := fun g b W hW t => right_of _ 0 s t ⟨#[]⟩ 40 (by decide) W (hs0 g b W hW)
  have e40 : ∀ t : ByteArray, decide ((40 : Int) = 0 ∧ (⟨#[]⟩ : ByteArray) = t) = false := fun t => decide_eq_false (fun x => absurd x.1 (by decide))
  simp only [e40] at hr0
  have hil : i < T.data.toList.length := by omega
  have his : i < T.size := by omega
  obtain ⟨x, hx⟩ : ∃ x, T.data.toList[i] = x := ⟨_, rfl⟩
  have hxi : T[i]'his = x := hx
  obtain ⟨z, hz⟩ : ∃ z, x ^^^ y = z := ⟨_, rfl⟩
  have hxy := xor_u8s x y
  rw [hz] at hxy
  have hy0 : y ≠ 0 := by
    rw [hy]
    split
    · decide
    · assumption
  have hzx : z ≠ x := by
    intro e
    rw [e] at hz
    exact hy0 (by have := congrArg (fun v => x ^^^ v) hz; simpa [← UInt8.xor_assoc] using this)
  obtain ⟨A, hA⟩ : ∃ A, A = T.extract 0 i := ⟨_, rfl⟩
  obtain ⟨D, hD⟩ : ∃ D, D = T.extract (i + 1) T.size := ⟨_, rfl⟩
  obtain ⟨bad, hbad⟩ : ∃ bad, bad = A ++ lst [z] ++ D := ⟨_, rfl⟩
  have hAs : A.size = i := by rw [hA, ByteArray.size_extract]; omega
  have hDs : D.size = 7 - i := by rw [hD, ByteArray.size_extract]; omega
  have hbt : bad = lst (T.data.toList.take i ++ [z] ++ T.data.toList.drop (i + 1)) := by
    apply byteArray_ext
    rw [hbad, ByteArray.data_append, Array.toList_append, ByteArray.data_append, Array.toList_append, hA, hD, Go.Lib.extract_data, Go.Lib.extract_data, List.drop_zero, Nat.sub_zero, lst_list, lst_list]
    rw [List.take_of_length_le (i := T.size - (i + 1)) (by rw [List.length_drop, slen]; exact Nat.le_refl _)]
  have hbne : ¬ T = bad := fun e => bent_ne T i hil z (by rw [hx]; exact hzx) (by rw [← hbt]; exact e.symm)
  have hlong : ¬ T = T ++ T.extract 0 1 := fun e => by
    have := congrArg ByteArray.size e
    rw [ByteArray.size_append, ByteArray.size_extract] at this
    omega
  have hshort : ¬ T = A := fun e => by
    have := congrArg ByteArray.size e
    omega
  have r1 := fun g b W hW => hr g b W hW T
  have r2 := fun g b W hW => hr g b W hW bad
  have r3 := fun g b W hW => hr g b W hW (T ++ T.extract 0 1)
  have r4 := fun g b W hW => hr g b W hW A
  have r5 := fun g b W hW => hr0 g b W hW T
  simp only [hbne, hlong, hshort, and_false, and_self, decide_true, decide_false] at r1 r2 r3 r4
  have s1 := fun W => sl_to T i (by omega) W (i : Int) rfl
  have s2 := fun W => sl_from T (i + 1) (by omega) W ((i : Int) + 1) (by omega)
  have s3 := fun W => sl_to T 1 (by omega) W 1 rfl
  rw [← hA] at s1
  rw [← hD] at s2
  have k1 := catO A (lst [z]) (by rw [lst_size, hAs]; simp; omega)
  have k2 := catO (A ++ lst [z]) D (by rw [ByteArray.size_append, lst_size, hAs, hDs]; simp; omega)
  rw [← hbad] at k2
  obtain ⟨AZ, hAZ⟩ : ∃ AZ, A ++ lst [z] = AZ := ⟨_, rfl⟩
  rw [hAZ] at k1 k2
  have k3 := catO T (T.extract 0 1) (by rw [ByteArray.size_extract]; omega)
  generalize T.extract 0 1 = T1 at *
  generalize hlg : T ++ T1 = lg at *
  have hcv := fun W => one_string W z
  have HA' := Aside0.mk HA
  have HM' := Aside0.mk HM
  have HI' := Aside0.mk HI
  have K := Aside0.mk hf
  have TT := Aside0.mk ht
  have PUT := Aside0.mk hput
  have ST := Aside0.mk hst
  have R1 := Aside0.mk r1
  have R2 := Aside0.mk r2
  have R3 := Aside0.mk r3
  have R4 := Aside0.mk r4
  have R5 := Aside0.mk r5
  have hby : (((by_.toNat : Nat) : Int) == 0) = true ∧ Go.bits .xor .u8 ((x.toNat : Nat) : Int) 1 = ((z.toNat : Nat) : Int) ∨ (((by_.toNat : Nat) : Int) == 0) = false ∧ Go.bits .xor .u8 ((x.toNat : Nat) : Int) ((by_.toNat : Nat) : Int) = ((z.toNat : Nat) : Int) := by
    by_cases h0 : by_ = 0
    · rw [if_pos h0] at hy
      subst h0
      subst hy
      exact .inl ⟨rfl, hxy⟩
    · rw [if_neg h0] at hy
      subst hy
      refine .inr ⟨?_, hxy⟩
      rw [beq_eq_false_iff_ne]
      intro e
      exact h0 (UInt8.toNat_inj.1 (by have : y.toNat = 0 := by omega
                                      exact this))
  clear hxy
  clear hn13 hm12 hw hf hks hkw ht hput hst eT eE hs0 hr hr0 e40 hzx hy0 hz hbt hbne hlong hshort r1 r2 r3 r4 r5 HA HM HI hA hD hbad hAs hDs hil hTl hy hx hk hs hAZ
  rcases hn with ⟨rfl, rfl⟩ | ⟨rfl, rfl⟩ <;> rcases hm with ⟨rfl, rfl⟩ | ⟨rfl, rfl⟩ <;> rcases hby with ⟨b0, hxy⟩ | ⟨b0, hxy⟩
  all_goals
    go_enter Try.func19, Try.ntmps19
    go_wp2_with fail
    refine (HA'.out _).mono ?_
    rintro e w1 ⟨rfl, hb⟩
    have B := Aside0.mk hb
    clear hb
    go_wp2_with fail
    refine (HM'.out _).mono ?_
    rintro e w2 ⟨rfl, hb⟩
    replace B := Aside0.mk (B.out.trans (hb.mono B.out.size))
    clear hb
    go_wp2_with fail
    refine (K.out _).mono ?_
    rintro e w3 ⟨rfl, hb⟩
    replace B := Aside0.mk (B.out.trans (hb.mono B.out.size))
    clear hb
    go_wp2_with fail
    refine (newSlots2 _).mono ?_
    rintro e w4 ⟨g, b, rfl, hg, hb0, hS, hb⟩
    have HG : Aside0 (w.heap.size ≤ g ∧ w.heap.size ≤ b) := ⟨Nat.le_trans B.out.size hg, Nat.le_trans B.out.size hb0⟩
    replace B := Aside0.mk (B.out.trans (hb.mono B.out.size))
    have S := Aside0.mk hS
    clear hg hb0 hS hb
    go_wp2_with fail
    refine (PUT.out g b _ S.out).mono ?_
    rintro e w5 ⟨rfl, hS, hb⟩
    replace B := Aside0.mk (B.out.trans (hb.below (by have := B.out.size; exact this) HG.out.2))
    replace S := Aside0.mk hS
    clear hS hb
    go_wp2_with fail
    refine (ST.out g b _ S.out).mono ?_
    rintro e w6 ⟨rfl, hb⟩
    replace B := Aside0.mk (B.out.trans (hb.mono B.out.size))
    replace S := Aside0.mk (S.out.step hb)
    clear hb
    go_wp2_with fail
    refine (TT.out _).mono ?_
    rintro e w7 ⟨rfl, hb⟩
    replace B := Aside0.mk (B.out.trans (hb.mono B.out.size))
    replace S := Aside0.mk (S.out.step hb)
    clear hb
    go_wp2_with fail
    refine (HI'.out _).mono ?_
    rintro e w8 ⟨rfl, hb⟩
    replace B := Aside0.mk (B.out.trans (hb.mono B.out.size))
    replace S := Aside0.mk (S.out.step hb)
    clear hb
    go_wp2_with fail
    go_region
    replace B := Aside0.mk (below_alloc B.out (.cells #[.int .u8 ((z.toNat : Nat) : Int)] 5)).drew
    replace S := Aside0.mk (S.out.step (below_alloc (Below.refl w8.heap.size w8) (.cells #[.int .u8 ((z.toNat : Nat) : Int)] 5)).drew)
    generalize (w8.alloc (.cells #[.int .u8 ((z.toNat : Nat) : Int)] 5)).drew = w9 at *
    clear hcv s2 k1 k2 hxi hxy
    go_wp2_with fail
    refine (R1.out g b _ S.out).mono ?_
    rintro e x1 ⟨rfl, hb⟩
    replace B := Aside0.mk (B.out.trans (hb.mono B.out.size))
    replace S := Aside0.mk (S.out.step hb)
    clear hb
    go_wp2_with fail
    refine (R2.out g b _ S.out).mono ?_
    rintro e x2 ⟨rfl, hb⟩
    replace B := Aside0.mk (B.out.trans (hb.mono B.out.size))
    replace S := Aside0.mk (S.out.step hb)
    clear hb
    go_wp2_with fail
    refine (R3.out g b _ S.out).mono ?_
    rintro e x3 ⟨rfl, hb⟩
    replace B := Aside0.mk (B.out.trans (hb.mono B.out.size))
    replace S := Aside0.mk (S.out.step hb)
    clear hb
    go_wp2_with fail
    refine (R4.out g b _ S.out).mono ?_
    rintro e x4 ⟨rfl, hb⟩
    replace B := Aside0.mk (B.out.trans (hb.mono B.out.size))
    replace S := Aside0.mk (S.out.step hb)
    clear hb
    go_wp2_with fail
    refine (R5.out g b _ S.out).mono ?_
    rintro e x5 ⟨rfl, hb⟩
    replace B := Aside0.mk (B.out.trans (hb.mono B.out.size))
    clear hb
    go_wp2_with fail
    go_ret
    exact ⟨by simp, B.out⟩
theorem wf_u8 {c : Int} (h : (Lit.int .u8 c).wf = true) : 0 ≤ c ∧ c ≤ 255 := by
  simpa [Lit.wf, IntKind.min, IntKind.max, IntKind.signed, IntKind.bits] using h
theorem own_law (alg : Int) (ha : (Lit.int .i64 alg).wf = true) (m : Int) (hm : (Lit.int .i64 m).wf = true) (key : ByteArray) (hk : key.size ≤ 140737488351232) (s : ByteArray) (hs : s.size ≤ 140737488351232)
    (at_ : Int) (hat : (Lit.int .i64 at_).wf = true) (by_ : Int) (hby : (Lit.int .u8 by_).wf = true) (w : World) :
    Calls Try.prog 19 #[.int .i64 alg, .int .i64 m, .string key, .string s, .int .i64 at_, .int .u8 by_] w fun e w' => e = .returned (.bool true) ∧ Below w.heap.size w w' := by
  obtain ⟨ra, h1, HA⟩ := pick2O_any alg (wf_i64 ha)
  obtain ⟨rm, h2, HM⟩ := pick2O_any m (wf_i64 hm)
  obtain ⟨i, h3, HI⟩ := pick4_any at_ 8 (wf_i64 hat) (by decide) (by decide)
  have hb := wf_u8 hby
  have e : by_ = (((UInt8.ofNat by_.toNat).toNat : Nat) : Int) := by
    rw [UInt8.toNat_ofNat']
    omega
  rw [e]
  exact own_core alg m ra (1 + 2 * ra) rm (1 + rm) (by omega) (by omega) HA HM key hk s hs at_ i (by omega) HI _ _ rfl w
end Go.Proofs.Ytopobangjpehnaa.Seal
