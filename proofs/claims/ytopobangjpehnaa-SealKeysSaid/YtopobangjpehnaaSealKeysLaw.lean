/- The lowest bits of a key, halves that are alike, and the walk of the law SealKeys. -/
import Derived.Test.YtopobangjpehnaaFitted
import Derived.Test.YtopobangjpehnaaWeakLaw
set_option linter.unusedVariables false
set_option linter.unusedSimpArgs false
namespace Go.Proofs.Ytopobangjpehnaa.Seal
open Go.RowKit Go.Proofs.YtopobangjpehnaaW.PrintWords Go.Proofs.YtopobangjpehnaaW.PrintLast Go.Proofs.YtopobangjpehnaaW.PrintMore Pr Des Num Walk

theorem pick2_any (c : Int) (hc : (Lit.int .i64 c).wf = true) : ∃ r : Int, (r = 0 ∨ r = 1) ∧ ∀ W : World, Calls Try.prog 35 #[.int .i64 c, .int .i64 2] W fun e w' => e = .returned (.int .i64 r) ∧ Below W.heap.size W w' := by
  obtain ⟨r, h1, h2⟩ := pick4_any c 2 (wf_i64 hc) (by decide) (by decide)
  exact ⟨(r : Int), by omega, h2⟩
theorem wants_of {n m : Int} (hn : n = 1 ∨ n = 3) (hm : m = 1 ∨ m = 2) : wantsN n m = 4 + 4 * n := by
  unfold wantsN
  rw [if_pos hm]
  rcases hn with rfl | rfl <;> rfl
theorem cbcB_hi7 {a b : List UInt8} (h : hi7 a = hi7 b) (p : ByteArray) (n : Nat) (hp : p.size = 8 * n) : ∀ i, i < n → cbcB a (bitsN 64 0) p i = cbcB b (bitsN 64 0) p i
  | 0, hi => turnB_hi7 h false _ (xo_len64 _ _ (blockAt_length p n 0 hp hi) (bitsN_length _ _))
  | i + 1, hi => by
    show turnB a false (xo (blockAt p (i + 1)) (cbcB a (bitsN 64 0) p i)) = turnB b false (xo (blockAt p (i + 1)) (cbcB b (bitsN 64 0) p i))
    rw [cbcB_hi7 h p n hp i (by omega)]
    exact turnB_hi7 h false _ (xo_len64 _ _ (blockAt_length p n (i + 1) hp hi) (cbcB_length b _ (bitsN_length _ _) p n hp i (by omega)))
theorem cbcEnd_hi7 {a b : List UInt8} (h : hi7 a = hi7 b) (p : ByteArray) (hp : p.size % 8 = 0) (h8 : 8 ≤ p.size) : cbcEnd a p = cbcEnd b p :=
  cbcB_hi7 h p (p.size / 8) (by omega) _ (by omega)
theorem extract_hi7 {a b : ByteArray} (h : hi7 a.data.toList = hi7 b.data.toList) (i j : Nat) : hi7 (a.extract i j).data.toList = hi7 (b.extract i j).data.toList := by
  rw [Go.Lib.extract_data, Go.Lib.extract_data, hi7_take, hi7_take, hi7_drop, hi7_drop, h]
theorem tagX_hi7 {a b : ByteArray} (h : hi7 a.data.toList = hi7 b.data.toList) (alg m : Int) (s : ByteArray) : tagX alg m a s = tagX alg m b s := by
  have hz := padS_size m s
  have hs : a.size = b.size := by rw [← slen, ← slen]; exact hi7_len h
  have h1 := extract_hi7 h 0 8
  have h2 := extract_hi7 h 8 b.size
  have he := cbcEnd_hi7 h1 (padS m s) hz.1 hz.2.1
  have hl := cbcEnd_length (b.extract 0 8).data.toList (padS m s) hz.1 hz.2.1
  unfold tagX
  rw [hs, he]
  split
  · rfl
  · rw [turnB_hi7 h2 true _ hl, turnB_hi7 h1 false _ (turnB_length _ _ _ hl)]
theorem tagX_halves (k : ByteArray) (hk : k.size = 8) (m : Int) (s : ByteArray) : tagX 3 m (k ++ k) s = tagX 1 m k s := by
  have hz := padS_size m s
  have e0 : (k ++ k).extract 0 8 = k := by
    apply byteArray_ext
    rw [Go.Lib.extract_data, ByteArray.data_append, Array.toList_append, Nat.sub_zero, List.drop_zero, ← hk, ← slen, List.take_left]
  have e1 : (k ++ k).extract 8 (k ++ k).size = k := by
    apply byteArray_ext
    rw [Go.Lib.extract_data, ByteArray.size_append, hk, ByteArray.data_append, Array.toList_append]
    rw [List.drop_left' (by rw [slen, hk]), List.take_of_length_le (by rw [slen, hk]; decide)]
  have e2 : k.extract 0 8 = k := by
    apply byteArray_ext
    rw [Go.Lib.extract_data, List.drop_zero, List.take_of_length_le (by rw [slen, hk]; decide)]
  have hl := cbcEnd_length k.data.toList (padS m s) hz.1 hz.2.1
  unfold tagX
  rw [if_neg (show ¬ (3 : Int) = 1 by decide), if_pos rfl, e0, e1, e2, turnB_back2 _ _ hl]
theorem hi7_low (l : List UInt8) (i : Nat) (x y : UInt8) (h : i < l.length) (hx : l[i] = x) : hi7 (l.set i (x ^^^ (y &&& 1))) = hi7 l := by
  have hy : y &&& 1 = 0 ∨ y &&& 1 = 1 := by
    have : ∀ n : Fin 256, UInt8.ofNat n &&& 1 = 0 ∨ UInt8.ofNat n &&& 1 = 1 := by decide +kernel
    have := this ⟨y.toNat, y.toNat_lt⟩
    simpa using this
  rcases hy with e | e <;> rw [e]
  · rw [UInt8.xor_zero]
    subst hx
    rw [List.set_getElem_self]
  · exact hi7_set l i x h hx
theorem and_u8s (a b : UInt8) : Go.bits .and .u8 ((a.toNat : Nat) : Int) ((b.toNat : Nat) : Int) = (((a &&& b).toNat : Nat) : Int) := by
  have ha := a.toNat_lt
  have hb := b.toNat_lt
  show IntKind.u8.wrap (((BitVec.ofInt 8 (a.toNat : Int) &&& BitVec.ofInt 8 (b.toNat : Int) : BitVec 8).toNat : Nat) : Int) = _
  rw [BitVec.toNat_and, BitVec.ofInt_natCast, BitVec.ofInt_natCast, BitVec.toNat_ofNat, BitVec.toNat_ofNat, Nat.mod_eq_of_lt ha, Nat.mod_eq_of_lt hb, IntKind.wrap_u8, UInt8.toNat_and]
  have h : a.toNat &&& b.toNat ≤ a.toNat := Nat.and_le_left
  omega

set_option maxHeartbeats 8000000 in
set_option maxRecDepth 100000 in
theorem keys_core (m0 rm m : Int) (hm : rm = 0 ∧ m = 1 ∨ rm = 1 ∧ m = 2)
    (HM : ∀ W : World, Calls Try.prog 35 #[.int .i64 m0, .int .i64 2] W fun e w' => e = .returned (.int .i64 rm) ∧ Below W.heap.size W w')
    (key : ByteArray) (hk : key.size ≤ 140737488351232) (turn : ByteArray) (ht : turn.size ≤ 140737488351232) (s : ByteArray) (hs : s.size ≤ 140737488351232) (w : World) :
    Calls Try.prog 17 #[.string key, .string turn, .int .i64 m0, .string s] w fun e w' => e = .returned (.bool true) ∧ Below w.heap.size w w' := by
  have hm12 : m = 1 ∨ m = 2 := by omega
  have hround : ∀ n : Int, n = 1 ∨ n = 3 → ∃ (k t : ByteArray) (X : List Bool), (∀ W : World, Calls Try.prog 36 #[.string key, .int .i64 (4 + 4 * n)] W fun e w' => e = .returned (.string k) ∧ Below W.heap.size W w') ∧ (k.size : Int) = 4 + 4 * n ∧
      (∀ W : World, Calls Try.prog 36 #[.string turn, .int .i64 (4 + 4 * n)] W fun e w' => e = .returned (.string t) ∧ Below W.heap.size W w') ∧ (t.size : Int) = 4 + 4 * n ∧
      (∀ k' : ByteArray, hi7 k'.data.toList = hi7 k.data.toList → ∀ W : World, Calls Try.prog 44 #[.int .i64 n, .int .i64 m, .string k', .string s] W fun e w' => e = .returned (.tuple #[.string (T8 X), .int .i64 0]) ∧ Below W.heap.size W w') := by
    intro n hn
    have h1 := fitS_size key (4 + 4 * n).toNat
    have h2 := fitS_size turn (4 + 4 * n).toNat
    refine ⟨fitS key (4 + 4 * n).toNat, fitS turn (4 + 4 * n).toNat, tagX n m (fitS key (4 + 4 * n).toNat) s, fitted_any key _ (by omega) (by omega), by omega, fitted_any turn _ (by omega) (by omega), by omega, ?_⟩
    intro k' hk' W
    have hsz : k'.size = (fitS key (4 + 4 * n).toNat).size := by rw [← slen, ← slen]; exact hi7_len hk'
    have := tag_yes n m hm12 hn k' s (by rw [wants_of hn hm12]; omega) (by omega) W
    rw [tagX_hi7 hk'] at this
    exact this
  have hf8 := fitted_any key 8 (.inl rfl) (by omega)
  have h8 := fitS_size key (8 : Int).toNat
  generalize fitS key (8 : Int).toNat = k8 at *
  have hk8 : k8.size = 8 := h8
  have ta := fun W => tag_yes 1 m hm12 (.inl rfl) k8 s (by rw [wants_of (.inl rfl) hm12, hk8]; rfl) (by omega) W
  have tb := fun W => tag_yes 3 m hm12 (.inr rfl) (k8 ++ k8) s (by rw [wants_of (.inr rfl) hm12, ByteArray.size_append, hk8]; rfl) (by omega) W
  rw [tagX_halves k8 hk8] at tb
  have hcat := cat k8 k8 (by omega)
  generalize tagX 1 m k8 s = X8 at *
  generalize k8 ++ k8 = kk at *
  have HR := Aside0.mk hround
  have F8 := Aside0.mk hf8
  have TA := Aside0.mk ta
  have TB := Aside0.mk tb
  have HM' := Aside0.mk HM
  clear hround hf8 h8 hk8 ta tb HM hk ht hs hm12
  rcases hm with ⟨rfl, rfl⟩ | ⟨rfl, rfl⟩
  all_goals
    go_enter Try.func17, Try.ntmps17
    go_wp2_with fail
    refine (HM'.out _).mono ?_
    rintro e w1 ⟨rfl, hb⟩
    have B := Aside0.mk hb
    clear hb
    go_wp2_with fail
    go_loopw [10] (fun v10 wr => ∃ r : Nat, r ≤ 2 ∧ v10 = .int .i64 (1 + 2 * (r : Int)) ∧ Aside0 (Below w.heap.size w wr)) (fun v10 _ => 5 - (intOf v10).toNat)
    case atStart => exact ⟨0, by omega, rfl, B⟩
    case round =>
      clear B
      obtain ⟨r, hr, rfl, B⟩ := hrel
      obtain ⟨wo, rfl⟩ : ∃ wo : World, wo = wr := ⟨_, rfl⟩
      have h3 : r = 0 ∨ r = 1 ∨ r = 2 := by omega
      rcases h3 with rfl | rfl | rfl
      ·
        obtain ⟨k, t, X, c1, c2, c3, c4, c5⟩ := HR.out 1 (by omega)
        have K := Aside0.mk c1
        have TK := Aside0.mk c3
        have TT := Aside0.mk c5
        have ks : k.size = 8 := by omega
        have ts : t.size = 8 := by omega
        have KL : Aside0 (k.data.toList.length = 8) := ⟨by rw [slen]; exact ks⟩
        have TL : Aside0 (t.data.toList.length = 8) := ⟨by rw [slen]; exact ts⟩
        have hX := T8_size X
        clear c1 c2 c3 c4 c5 HR F8 TA TB
        have hcv := fun W => print_bytes (P := Try.prog) 9 53 5 Try.underlying9 Try.underlying53 Try.underlying5 k W
        rw [ks] at hcv
        go_wp2_with fail
        refine (K.out _).mono ?_
        rintro e x1 ⟨rfl, hb⟩
        replace B := Aside0.mk (B.out.trans (hb.mono B.out.size))
        clear hb
        go_wp2_with fail
        have R0 := Aside0.mk (BRow.new x1 k)
        have HS2 : Aside0 (w.heap.size ≤ x1.heap.size) := ⟨B.out.size⟩
        replace B := Aside0.mk (bytes_below B.out B.out.size 5 k)
        generalize Lib.bytesWorld x1 5 k = x2 at *
        generalize grownCap x1 8 0 5 = cp at *
        clear hcv
        refine (TK.out _).mono ?_
        rintro e x3 ⟨rfl, hb⟩
        replace B := Aside0.mk (B.out.trans (hb.mono B.out.size))
        replace R0 := Aside0.mk (R0.out.step hb)
        clear hb
        go_wp2_with fail
        go_loopw [14] (fun v14 wr => ∃ (i : Nat) (l : List UInt8), i ≤ 8 ∧ v14 = .int .i64 i ∧ Aside0 (BRow wr x1.heap.size l) ∧ Aside0 (l.length = 8 ∧ hi7 l = hi7 k.data.toList) ∧ Aside0 (Below w.heap.size w wr)) (fun i _ => 8 - (intOf i).toNat)
        case atStart => exact ⟨0, k.data.toList, Nat.zero_le _, rfl, R0, ⟨⟨KL.out, rfl⟩⟩, B⟩
        case round =>
          clear R0 B
          obtain ⟨i, l, hi, rfl, R, HI, B⟩ := hrel
          by_cases hlt : i < 8
          · have hil : i < l.length := by rw [HI.out.1]; exact hlt
            have hit : i < t.size := by rw [ts]; exact hlt
            obtain ⟨x, hx⟩ : ∃ x : UInt8, l[i] = x := ⟨_, rfl⟩
            obtain ⟨y, hy⟩ : ∃ y : UInt8, t[i]'hit = y := ⟨_, rfl⟩
            have q1 : wr.cell? ⟨x1.heap.size, i, none⟩ = some (.int .u8 ((x.toNat : Nat) : Int)) := by rw [R.out.cell i hil, hx]
            have q2 : wr.frozen? ⟨x1.heap.size, i, none⟩ = false := R.out.frozen i hil
            obtain ⟨u, hu⟩ : ∃ u : Nat, (y &&& 1).toNat = u := ⟨_, rfl⟩
            have hy1 := and_u8s y 1
            rw [hu, show (((1 : UInt8).toNat : Nat) : Int) = 1 from rfl] at hy1
            obtain ⟨z, hz⟩ : ∃ z : UInt8, x ^^^ (y &&& 1) = z := ⟨_, rfl⟩
            have hx1 := xor_u8s x (y &&& 1)
            rw [hz, hu] at hx1
            have HX : Aside0 (hi7 (l.set i z) = hi7 l) := ⟨by rw [← hz]; exact hi7_low l i x y hil hx⟩
            have R2 := Aside0.mk (R.out.drew.set_ i z)
            have B2 := Aside0.mk (B.out.drew.setCell (p := ⟨x1.heap.size, i, none⟩) HS2.out (.int .u8 ((z.toNat : Nat) : Int)))
            clear hx hil hu hz
            go_wp2_with fail
            go_still_tail 12, (by kernel_rfl)
            change wpList _ _ _ _ _ wr.drew
            clear R B hy hy1 hx1
            go_wp2
            go_roundw
            case rel => exact ⟨i + 1, l.set i z, by omega, by go_num, R2, ⟨⟨by rw [List.length_set]; exact HI.out.1, HX.out.trans HI.out.2⟩⟩, B2⟩
            case measure => simp [intOf]; omega
          · obtain rfl : i = 8 := by omega
            have hz : ∀ W : World, BRow W x1.heap.size l → (convert 53 9 (.slice (some ⟨x1.heap.size, 0, none⟩) 8 cp)).run Try.prog W = .ok (.string ⟨l.toArray⟩) W := by
              intro W hR
              have := hR.string (c := cp) (by rw [HI.out.1]; decide)
              rwa [HI.out.1] at this
            obtain ⟨key2, hkey⟩ : ∃ key2 : ByteArray, key2 = ⟨l.toArray⟩ := ⟨_, rfl⟩
            have hhi : hi7 key2.data.toList = hi7 k.data.toList := by rw [hkey]; exact HI.out.2
            rw [← hkey] at hz
            have T1 := Aside0.mk (TT.out k rfl)
            have T2 := Aside0.mk (TT.out key2 hhi)
            have HZ := Aside0.mk hz
            clear hkey hhi hz HI TT
            go_wp2_with fail
            refine (T1.out _).mono ?_
            rintro e x5 ⟨rfl, hb⟩
            replace B := Aside0.mk (B.out.trans (hb.mono B.out.size))
            have hz := HZ.out x5 (R.out.step hb)
            clear hb R HZ T1
            go_wp2_with fail
            clear hz
            refine (T2.out _).mono ?_
            rintro e x6 ⟨rfl, hb⟩
            replace B := Aside0.mk (B.out.trans (hb.mono B.out.size))
            clear hb
            go_wp2_with fail
            go_roundw
            case rel => exact ⟨1, by omega, by go_num, B⟩
            case measure => simp [intOf]
      ·
        obtain ⟨k, t, X, c1, c2, c3, c4, c5⟩ := HR.out 3 (by omega)
        have K := Aside0.mk c1
        have TK := Aside0.mk c3
        have TT := Aside0.mk c5
        have ks : k.size = 16 := by omega
        have ts : t.size = 16 := by omega
        have KL : Aside0 (k.data.toList.length = 16) := ⟨by rw [slen]; exact ks⟩
        have TL : Aside0 (t.data.toList.length = 16) := ⟨by rw [slen]; exact ts⟩
        have hX := T8_size X
        clear c1 c2 c3 c4 c5 HR F8 TA TB
        have hcv := fun W => print_bytes (P := Try.prog) 9 53 5 Try.underlying9 Try.underlying53 Try.underlying5 k W
        rw [ks] at hcv
        go_wp2_with fail
        refine (K.out _).mono ?_
        rintro e x1 ⟨rfl, hb⟩
        replace B := Aside0.mk (B.out.trans (hb.mono B.out.size))
        clear hb
        go_wp2_with fail
        have R0 := Aside0.mk (BRow.new x1 k)
        have HS2 : Aside0 (w.heap.size ≤ x1.heap.size) := ⟨B.out.size⟩
        replace B := Aside0.mk (bytes_below B.out B.out.size 5 k)
        generalize Lib.bytesWorld x1 5 k = x2 at *
        generalize grownCap x1 16 0 5 = cp at *
        clear hcv
        refine (TK.out _).mono ?_
        rintro e x3 ⟨rfl, hb⟩
        replace B := Aside0.mk (B.out.trans (hb.mono B.out.size))
        replace R0 := Aside0.mk (R0.out.step hb)
        clear hb
        go_wp2_with fail
        go_loopw [14] (fun v14 wr => ∃ (i : Nat) (l : List UInt8), i ≤ 16 ∧ v14 = .int .i64 i ∧ Aside0 (BRow wr x1.heap.size l) ∧ Aside0 (l.length = 16 ∧ hi7 l = hi7 k.data.toList) ∧ Aside0 (Below w.heap.size w wr)) (fun i _ => 16 - (intOf i).toNat)
        case atStart => exact ⟨0, k.data.toList, Nat.zero_le _, rfl, R0, ⟨⟨KL.out, rfl⟩⟩, B⟩
        case round =>
          clear R0 B
          obtain ⟨i, l, hi, rfl, R, HI, B⟩ := hrel
          by_cases hlt : i < 16
          · have hil : i < l.length := by rw [HI.out.1]; exact hlt
            have hit : i < t.size := by rw [ts]; exact hlt
            obtain ⟨x, hx⟩ : ∃ x : UInt8, l[i] = x := ⟨_, rfl⟩
            obtain ⟨y, hy⟩ : ∃ y : UInt8, t[i]'hit = y := ⟨_, rfl⟩
            have q1 : wr.cell? ⟨x1.heap.size, i, none⟩ = some (.int .u8 ((x.toNat : Nat) : Int)) := by rw [R.out.cell i hil, hx]
            have q2 : wr.frozen? ⟨x1.heap.size, i, none⟩ = false := R.out.frozen i hil
            obtain ⟨u, hu⟩ : ∃ u : Nat, (y &&& 1).toNat = u := ⟨_, rfl⟩
            have hy1 := and_u8s y 1
            rw [hu, show (((1 : UInt8).toNat : Nat) : Int) = 1 from rfl] at hy1
            obtain ⟨z, hz⟩ : ∃ z : UInt8, x ^^^ (y &&& 1) = z := ⟨_, rfl⟩
            have hx1 := xor_u8s x (y &&& 1)
            rw [hz, hu] at hx1
            have HX : Aside0 (hi7 (l.set i z) = hi7 l) := ⟨by rw [← hz]; exact hi7_low l i x y hil hx⟩
            have R2 := Aside0.mk (R.out.drew.set_ i z)
            have B2 := Aside0.mk (B.out.drew.setCell (p := ⟨x1.heap.size, i, none⟩) HS2.out (.int .u8 ((z.toNat : Nat) : Int)))
            clear hx hil hu hz
            go_wp2_with fail
            go_still_tail 12, (by kernel_rfl)
            change wpList _ _ _ _ _ wr.drew
            clear R B hy hy1 hx1
            go_wp2
            go_roundw
            case rel => exact ⟨i + 1, l.set i z, by omega, by go_num, R2, ⟨⟨by rw [List.length_set]; exact HI.out.1, HX.out.trans HI.out.2⟩⟩, B2⟩
            case measure => simp [intOf]; omega
          · obtain rfl : i = 16 := by omega
            have hz : ∀ W : World, BRow W x1.heap.size l → (convert 53 9 (.slice (some ⟨x1.heap.size, 0, none⟩) 16 cp)).run Try.prog W = .ok (.string ⟨l.toArray⟩) W := by
              intro W hR
              have := hR.string (c := cp) (by rw [HI.out.1]; decide)
              rwa [HI.out.1] at this
            obtain ⟨key2, hkey⟩ : ∃ key2 : ByteArray, key2 = ⟨l.toArray⟩ := ⟨_, rfl⟩
            have hhi : hi7 key2.data.toList = hi7 k.data.toList := by rw [hkey]; exact HI.out.2
            rw [← hkey] at hz
            have T1 := Aside0.mk (TT.out k rfl)
            have T2 := Aside0.mk (TT.out key2 hhi)
            have HZ := Aside0.mk hz
            clear hkey hhi hz HI TT
            go_wp2_with fail
            refine (T1.out _).mono ?_
            rintro e x5 ⟨rfl, hb⟩
            replace B := Aside0.mk (B.out.trans (hb.mono B.out.size))
            have hz := HZ.out x5 (R.out.step hb)
            clear hb R HZ T1
            go_wp2_with fail
            clear hz
            refine (T2.out _).mono ?_
            rintro e x6 ⟨rfl, hb⟩
            replace B := Aside0.mk (B.out.trans (hb.mono B.out.size))
            clear hb
            go_wp2_with fail
            go_roundw
            case rel => exact ⟨2, by omega, by go_num, B⟩
            case measure => simp [intOf]
      · go_wp2_with fail
        refine (F8.out _).mono ?_
        rintro e y1 ⟨rfl, hb⟩
        replace B := Aside0.mk (B.out.trans (hb.mono B.out.size))
        clear hb
        go_wp2_with fail
        refine (TA.out _).mono ?_
        rintro e y2 ⟨rfl, hb⟩
        replace B := Aside0.mk (B.out.trans (hb.mono B.out.size))
        clear hb
        go_wp2_with fail
        refine (TB.out _).mono ?_
        rintro e y3 ⟨rfl, hb⟩
        replace B := Aside0.mk (B.out.trans (hb.mono B.out.size))
        clear hb
        go_wp2_with fail
        go_ret
        exact ⟨by simp, B.out⟩
theorem keys_law (key : ByteArray) (hk : key.size ≤ 140737488351232) (turn : ByteArray) (ht : turn.size ≤ 140737488351232) (m : Int) (hm : (Lit.int .i64 m).wf = true) (s : ByteArray) (hs : s.size ≤ 140737488351232) (w : World) :
    Calls Try.prog 17 #[.string key, .string turn, .int .i64 m, .string s] w fun e w' => e = .returned (.bool true) ∧ Below w.heap.size w w' := by
  obtain ⟨rm, h2, HM⟩ := pick2_any m hm
  exact keys_core m rm (1 + rm) (by omega) HM key hk turn ht s hs w
end Go.Proofs.Ytopobangjpehnaa.Seal
