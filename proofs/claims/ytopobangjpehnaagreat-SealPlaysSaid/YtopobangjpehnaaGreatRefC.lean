/- The document's own answer, layer 3 (without the law's lemmas on parts): blocks, Turn, Chain, Check, and the law's comparisons with them. -/
import Derived.Test.YtopobangjpehnaaGreatRefA
import Derived.Test.YtopobangjpehnaaGreatNewAll
import Derived.Test.YtopobangjpehnaaGreatXorAll
set_option linter.unusedVariables false
set_option linter.unusedSimpArgs false
namespace Go.Proofs.YtopobangjpehnaaGreat.Ref
open Go.RowKit Go.Proofs.YtopobangjpehnaaGreatW.PrintWords Go.Proofs.YtopobangjpehnaaGreatW.PrintLast Go.Proofs.YtopobangjpehnaaGreatW.PrintMore Pr Des Num Walk

theorem three (key : List UInt8) (hk : kindOf key ≠ 1) (x : List Bool) :
    turnB key false x = oneB (partOf key 2) false (oneB (partOf key 1) true (oneB (partOf key 0) false x)) := by
  unfold turnB; rw [if_neg hk]; rfl
theorem slice_to (s : ByteArray) (n : Nat) (h : n ≤ s.size) (w : World) (k : Int) (hk : k = (n : Int)) :
    (Instr.slice 9 (.string s) none (some (.int .i64 k)) none).run Tryz.prog w = .ok (.string (s.extract 0 n)) w := by
  subst hk
  rw [run_slice_string_h (P := Tryz.prog) w 9 s Tryz.underlying9 .i64 _ (by omega) (by omega)]
  congr 3
theorem slice_from (s : ByteArray) (n : Nat) (h : n ≤ s.size) (w : World) (k : Int) (hk : k = (n : Int)) :
    (Instr.slice 9 (.string s) (some (.int .i64 k)) none none).run Tryz.prog w = .ok (.string (s.extract n s.size)) w := by
  subst hk
  rw [run_slice_string_l (P := Tryz.prog) w 9 s Tryz.underlying9 .i64 _ (by omega) (by omega)]
  congr 3
theorem len_list (a : ByteArray) : a.data.toList.length = a.size := by rw [Array.length_toList]; rfl
theorem Rows.at0 {w : World} {base : Nat} {v : Value} {xs : List (List Int)} (h : Rows w base v xs) (hp : 0 < xs.length) :
    ∃ g c, v = .slice (some ⟨g, 0, none⟩) xs.length c ∧ xs.length ≤ c ∧ ∀ i : Nat, i < xs.length → ∃ u, w.cell? ⟨g, i, none⟩ = some u ∧ Row w u (xs.getD i []) := by
  obtain ⟨ad, c, hv, hcells⟩ := Rows.at_ h hp
  obtain ⟨A, c', hv', hc', _⟩ := Kd.R_reads h
  obtain ⟨_, inner, ho, _⟩ := h
  rcases ho.2 with h2 | ⟨g, cap, cur, hv2, _⟩
  · rw [hv] at h2
    simp at h2
  · have e := hv.symm.trans hv2
    have e' := hv.symm.trans hv'
    simp only [Value.slice.injEq, Option.some.injEq] at e e'
    obtain ⟨rfl, e1, e2⟩ := e
    refine ⟨g, c, hv, by omega, fun i hi => ?_⟩
    obtain ⟨u, hu, hr⟩ := hcells i hi
    refine ⟨u, ?_, hr⟩
    rw [← hu, addr_add, Nat.zero_add]
theorem keys_get (K : List Bool) (i : Nat) (h : i < 16) : (keys K 16).getD i [] = zo (keyAt K i) := by
  unfold keys
  rw [List.getD_eq_getElem?_getD, List.getElem?_map, List.getElem?_range h]
  rfl
theorem Row.head {w : World} {ad : Addr} {n c m : Nat} {l : List Bool} (h : ∀ i : Nat, i < n → w.cell? (ad.add i) = some (.int .i64 (rd (zo l) (i : Int)))) (hl : l.length = n) (hc : n ≤ c) (hm : m ≤ n) (hn : n ≤ 1000) : Row w (.slice (some ad) m c) (zo (l.take m)) := by
  refine Row.of_cells (by rw [zo_length, List.length_take]; omega) (by omega) (by omega) (fun i hi => ?_)
  rw [h i (by omega), rd_zo, rd_zo]
  simp only [List.getD_eq_getElem?_getD]
  rw [List.getElem?_take_of_lt hi]
theorem Row.tail {w : World} {ad : Addr} {n c m : Nat} {l : List Bool} (h : ∀ i : Nat, i < n → w.cell? (ad.add i) = some (.int .i64 (rd (zo l) (i : Int)))) (hl : l.length = n) (hc : n ≤ c) (hm : m ≤ n) (hm0 : 0 < m) (hn : n ≤ 1000) :
    Row w (.slice (some ⟨ad.block, ad.off + m, none⟩) (n - m) (c - m)) (zo (l.drop m)) := by
  refine Row.of_cells (by rw [zo_length, List.length_drop]; omega) (by omega) (by omega) (fun i hi => ?_)
  have e : (⟨ad.block, ad.off + m, none⟩ : Addr).add i = ad.add (m + i) := by
    rw [← add_add]
    congr 1
    unfold Addr.add
    rw [if_neg (by omega)]
  rw [e, h (m + i) (by omega), rd_zo, rd_zo]
  simp only [List.getD_eq_getElem?_getD]
  rw [List.getElem?_drop]

set_option maxHeartbeats 8000000 in
set_option maxRecDepth 100000 in
theorem one_any (key s : ByteArray) (hk : key.size = 8) (hs : s.size = 8) (back : Bool) (w : World) :
    Calls Tryz.prog 93 #[.string key, .string s, .bool back] w fun e w' => e = .returned (.string (lst (bytes8 (num (oneB (bitsB key.data.toList) back (bitsB s.data.toList)))))) ∧ Below w.heap.size w w' := by
  have hlen : (bitsB s.data.toList).length = 64 := by rw [bitsB_length, Array.length_toList]; show 8 * s.size = 64; omega
  have T0 := Aside0.mk (rounds_any key hk)
  have T1 := Aside0.mk (bits_any s (by omega))
  have T2 := Aside0.mk (take_any tIn (bitsB s.data.toList) (by rw [hlen]; decide) (by decide) (by omega))
  generalize bitsB s.data.toList = x at *
  generalize bitsB key.data.toList = K at *
  have hl64 : (sel tIn x).length = 64 := by rw [sel_length]; rfl
  have H64 := Aside0.mk hl64
  have hol : (oneB K back x).length = 64 := by rw [st_last, sel_length]; rfl
  have hT5 := fun W v0 => bytes_any (bytes8 (num (oneB K back x))) (by rw [bytes8_length]; decide) W v0
  rw [bitsB_bytes8, (num64 _ hol).2] at hT5
  have T5 := Aside0.mk hT5
  have T6 := Aside0.mk (st_last K back x)
  have HST := Aside0.mk (fun i => st_length K back x i)
  clear hlen hs hk hl64 hol hT5
  go_enter Tryz.func93, Tryz.ntmps93
  go_wp2_with fail
  refine (T0.out _).mono ?_
  rintro e w1 ⟨u1, rfl, ho, hb⟩
  have hrow := ho.at0 (by rw [keys_length]; decide)
  rw [keys_length] at hrow
  obtain ⟨g7, c7, rfl, hc7, hcells⟩ := hrow
  have KC := Aside0.mk hcells
  have B := Aside0.mk hb
  clear ho hb hcells T0
  go_wp2_with fail
  refine (tIn_any _).mono ?_
  rintro e w2 ⟨u2, rfl, ho, hb⟩
  have O := Aside0.mk ho
  have D := Aside0.mk hb
  clear ho hb
  go_wp2_with fail
  refine (T1.out _).mono ?_
  rintro e w3 ⟨u3, rfl, ho, hb⟩
  replace O := Aside0.mk (O.out.step hb)
  have O2 := Aside0.mk ho
  replace D := Aside0.mk (D.out.trans (hb.mono D.out.size))
  clear ho hb
  go_wp2_with fail
  refine (T2.out _ _ _ O.out.row O2.out.row).mono ?_
  rintro e w4 ⟨u4, rfl, ho, hb⟩
  replace D := Aside0.mk (D.out.trans (hb.mono D.out.size))
  have hrow := ho.row.at_ (by rw [zo_length, H64.out]; decide)
  rw [zo_length, H64.out] at hrow
  obtain ⟨ad, c, rfl, hc, hcells⟩ := hrow
  have R9 : Aside0 (Row w4 (.slice (some ad) 32 c) (zo (st K back x 0).1)) := ⟨Row.head hcells H64.out hc (by decide) (by decide)⟩
  have R10 : Aside0 (Row w4 (.slice (some ⟨ad.block, ad.off + 32, none⟩) 32 (c - 32)) (zo (st K back x 0).2)) := ⟨Row.tail hcells H64.out hc (m := 32) (by decide) (by decide) (by decide)⟩
  clear ho hb hcells O O2 T1 T2 H64
  go_wp2_with fail
  go_loopw [9, 10, 11, 12] (fun v9 v10 v11 v12 wr => ∃ i : Nat, i ≤ 16 ∧ v11 = .int .i64 (i : Int) ∧ Aside0 (Row wr v9 (zo (st K back x i).1)) ∧ Aside0 (Row wr v10 (zo (st K back x i).2)) ∧ Aside0 (Below w1.heap.size w1 wr)) (fun _ _ v11 _ _ => 16 - (intOf v11).toNat)
  case atStart => exact ⟨0, Nat.zero_le _, by simp, R9, R10, D⟩
  case round =>
    clear R9 R10 D
    obtain ⟨i, hi, rfl, R9, R10, D⟩ := hrel
    by_cases hlt : i < 16
    · have hL := HST.out i
      have HS := Aside0.mk (st_succ K back x i hlt)
      have hkl : ∀ j, (keyAt K j).length = 48 := fun j => by unfold keyAt; rw [sel_length]; rfl
      obtain ⟨j, hj⟩ : ∃ j, j = (if back then 15 - i else i) := ⟨_, rfl⟩
      have hj16 : j < 16 := by rw [hj]; split <;> omega
      obtain ⟨u, hu, hru⟩ := KC.out j hj16
      rw [keys_get K j hj16] at hru
      have q1 : wr.cell? ⟨g7, j, none⟩ = some u := (D.out.cell (p := ⟨g7, j, none⟩) (cell_blk hu)).trans hu
      have RU := Aside0.mk (hru.step D.out)
      have M := Aside0.mk (mixed_any (st K back x i).2 (keyAt K j) hL.2 (hkl j))
      have S := Aside0.mk (sum_any (st K back x i).1 (F (st K back x i).2 (keyAt K j)) (by rw [F_length]; exact hL.1) (by omega))
      rw [← hj] at HS
      rw [show xo (st K back x i).1 (F (st K back x i).2 (keyAt K j)) = (st K back x (i + 1)).2 by rw [HS.out]] at S
      have E1 : Aside0 ((st K back x i).2 = (st K back x (i + 1)).1) := ⟨by rw [HS.out]⟩
      clear hL hkl hu hru HS
      cases back
      all_goals
        simp only [Bool.false_eq_true, if_false, if_true] at hj
        subst hj
      · go_wp2_with fail
        refine (M.out _ _ _ R10.out RU.out).mono ?_
        rintro e w5 ⟨u5, rfl, ho, hb⟩
        have N5 := Aside0.mk ho
        replace R9 := Aside0.mk (R9.out.step hb)
        replace R10 := Aside0.mk (R10.out.step hb)
        replace D := Aside0.mk (D.out.trans (hb.mono D.out.size))
        clear ho hb q1 RU
        go_wp2_with fail
        refine (S.out _ _ _ R9.out N5.out.row).mono ?_
        rintro e w6 ⟨u6, rfl, ho, hb⟩
        have N6 := Aside0.mk ho.row
        replace R10 := Aside0.mk (R10.out.step hb)
        replace D := Aside0.mk (D.out.trans (hb.mono D.out.size))
        clear ho hb R9 N5
        go_wp2_with fail
        go_roundw
        case rel => exact ⟨j + 1, by omega, by go_num, ⟨by rw [← E1.out]; exact R10.out⟩, N6, D⟩
        case measure => simp [intOf]; omega
      · have hj : ((15 : Int) - (i : Int)).toNat = 15 - i := by omega
        have hj0 : (0 : Int) ≤ (15 : Int) - (i : Int) := by omega
        go_wp2_with fail
        refine (M.out _ _ _ R10.out RU.out).mono ?_
        rintro e w5 ⟨u5, rfl, ho, hb⟩
        have N5 := Aside0.mk ho
        replace R9 := Aside0.mk (R9.out.step hb)
        replace R10 := Aside0.mk (R10.out.step hb)
        replace D := Aside0.mk (D.out.trans (hb.mono D.out.size))
        clear ho hb q1 RU
        go_wp2_with fail
        refine (S.out _ _ _ R9.out N5.out.row).mono ?_
        rintro e w6 ⟨u6, rfl, ho, hb⟩
        have N6 := Aside0.mk ho.row
        replace R10 := Aside0.mk (R10.out.step hb)
        replace D := Aside0.mk (D.out.trans (hb.mono D.out.size))
        clear ho hb R9 N5
        go_wp2_with fail
        go_roundw
        case rel => exact ⟨i + 1, by omega, by go_num, ⟨by rw [← E1.out]; exact R10.out⟩, N6, D⟩
        case measure => simp [intOf]; omega
    · obtain rfl : i = 16 := by omega
      have hL := HST.out 16
      generalize hX1 : (st K back x 16).1 = X1 at *
      generalize hX2 : (st K back x 16).2 = X2 at *
      have z1 : Aside0 ((zo X1).length = 32) := ⟨by rw [zo_length]; exact hL.1⟩
      have z2 : Aside0 ((zo X2).length = 32) := ⟨by rw [zo_length]; exact hL.2⟩
      have T4 := Aside0.mk (take_any tOut (X2 ++ X1) (by rw [List.length_append, hL.1, hL.2]; decide) (by decide) (by rw [List.length_append]; omega))
      rw [← T6.out] at T4
      have D5 := D
      obtain ⟨a9, c9, rfl, hc9, hx9⟩ := R9.out
      obtain ⟨a10, c10, rfl, hc10, hx10⟩ := R10.out
      rw [z1.out] at hx9
      rw [z2.out] at hx10
      rw [z1.out] at R9 ⊢
      rw [z2.out] at R10 ⊢
      have X9 := Aside0.mk hx9
      have X10 := Aside0.mk hx10
      clear hc9 hx9 hc10 hx10 hL hX1 hX2 R9 R10
      obtain ⟨w5, hw5⟩ : ∃ w5, w5 = wr := ⟨_, rfl⟩
      subst hw5
      have HB0 : Aside0 (Below w5.heap.size w5 w5) := ⟨Below.refl _ _⟩
      go_wp2_with (first
        | ((with_reducible refine gate_builtin (b := .append) (xs := #[.tmp 45, .tmp 46]) rfl ?_)
           at_builtin
           refine Kd.R_append_rows (Kd.int .i64) (w0 := w5) w5.heap.size rfl (.tmp 45) (.tmp 46) 25 3 (.int .i64 0) 8 rfl Tryz.underlying25 info3 rfl (by decide) (by omega) (.slice none 0 0) [] (zo X2) _ _ _ (fun _ => True) (fun _ => False) rfl rfl (Kd.R_nil _ _ _ _ _) X10.out (fun _ _ h => h) (fun _ h => h.elim) (fun _ _ => trivial) (Below.refl _ _) (Nat.le_refl _) (by decide) ?_
           intro y1 w6 ho hb hg hat
           clear hg hat
           have O9 : Aside0 (Own w6 w5.heap.size y1 (zo X2)) := ⟨ho⟩
           have HB := Aside0.mk hb
           replace X9 := Aside0.mk (Kd.C_below X9.out hb)
           clear ho hb)
        | ((with_reducible refine gate_builtin (b := .append) (xs := #[.tmp 48, .tmp 49]) rfl ?_)
           at_builtin
           refine Kd.R_append_rows (Kd.int .i64) (w0 := w5) w5.heap.size rfl (.tmp 48) (.tmp 49) 25 3 (.int .i64 0) 8 rfl Tryz.underlying25 info3 rfl (by decide) (by omega) y1 (zo X2) (zo X1) _ _ _ (fun _ => True) (fun _ => False) rfl rfl O9.out X9.out (fun _ _ h => h) (fun _ h => h.elim) (fun _ _ => trivial) HB.out HB.out.size (by rw [z2.out]; decide) ?_
           intro y2 w7 ho hb hg hat
           clear hg hat
           have O10 : Aside0 (Own w7 w5.heap.size y2 (zo (X2 ++ X1))) := ⟨Own.cast ho (zo_append _ _).symm⟩
           replace HB := Aside0.mk hb
           clear ho hb O9))
      refine (tOut_any _).mono ?_
      rintro e w8 ⟨q8, rfl, ho, hb⟩
      replace O10 := Aside0.mk (O10.out.step hb)
      have O := Aside0.mk ho.row
      replace HB := Aside0.mk (HB.out.trans (hb.mono HB.out.size))
      clear ho hb
      go_wp2_with fail
      refine (T4.out _ _ _ O.out O10.out.row).mono ?_
      rintro e w9 ⟨q9, rfl, ho, hb⟩
      replace HB := Aside0.mk (HB.out.trans (hb.mono HB.out.size))
      have N9 := Aside0.mk ho.row
      clear ho hb O O10
      go_wp2_with fail
      refine (T5.out _ _ N9.out).mono ?_
      rintro e w10 ⟨rfl, hb⟩
      replace HB := Aside0.mk (HB.out.trans (hb.mono HB.out.size))
      clear hb
      go_wp2_with fail
      go_ret
      have h1 := D.out.trans (HB.out.mono D.out.size)
      exact ⟨rfl, B.out.trans (h1.mono B.out.size)⟩
end Go.Proofs.YtopobangjpehnaaGreat.Ref

set_option linter.unusedVariables false
set_option linter.unusedSimpArgs false
namespace Go.Proofs.YtopobangjpehnaaGreat.Ref
open Go.RowKit Go.Proofs.YtopobangjpehnaaGreatW.PrintWords Go.Proofs.YtopobangjpehnaaGreatW.PrintLast Go.Proofs.YtopobangjpehnaaGreatW.PrintMore Pr Des Num Walk

/-- Eight bytes, of 64 bits. -/
def S8 (x : List Bool) : ByteArray := lst (bytes8 (num x))
theorem S8_size (x : List Bool) : (S8 x).size = 8 := by unfold S8; rw [lst_size, bytes8_length]
theorem S8_bits (x : List Bool) (h : x.length = 64) : bitsB (S8 x).data.toList = x := by
  unfold S8; rw [lst_list, bitsB_bytes8, (num64 _ h).2]
theorem S8_of (s : ByteArray) (h : s.size = 8) : s = S8 (bitsB s.data.toList) := by
  apply byteArray_ext
  unfold S8
  rw [lst_list, bytes8_bits _ (by rw [Array.length_toList]; exact h)]
theorem S8_xor (x y : List Bool) (hx : x.length = 64) (hy : y.length = 64) : xorS (S8 x) (S8 y) = S8 (xo x y) := by
  have h1 : (xorS (S8 x) (S8 y)).size = 8 := by rw [xorS_size _ _ (by rw [S8_size, S8_size]), S8_size]
  rw [S8_of _ h1, xorS_list, bitsB_xor _ _ (by rw [len_list, len_list, S8_size, S8_size]), S8_bits _ hx, S8_bits _ hy]
theorem S8_block (s : ByteArray) (q : Nat) (h : 8 * q + 8 ≤ s.size) : s.extract (8 * q) (8 * q + 8) = S8 (blockAt s q) := by
  obtain ⟨h1, h2⟩ := block_str s q h
  rw [S8_of _ h1, h2]
theorem one_S8 (key : ByteArray) (hk : key.size = 8) (x : List Bool) (hx : x.length = 64) (back : Bool) (w : World) :
    Calls Tryz.prog 93 #[.string key, .string (S8 x), .bool back] w fun e w' => e = .returned (.string (S8 (oneB (bitsB key.data.toList) back x))) ∧ Below w.heap.size w w' := by
  have := one_any key (S8 x) hk (S8_size x) back w
  rw [S8_bits x hx] at this
  exact this
theorem turnB_eight (key : List UInt8) (hl : key.length = 8) (back : Bool) (x : List Bool) : turnB key back x = oneB (bitsB key) back x := by
  have hk : kindOf key = 1 := by unfold kindOf; rw [if_pos hl]
  have hp : partOf key 0 = bitsB key := by
    unfold partOf; rw [if_neg (by omega)]
    unfold Walk.partAt
    rw [Nat.mul_zero, List.drop_zero, List.take_of_length_le (by omega)]
  unfold turnB; rw [if_pos hk, hp]
theorem turnB_bwd (key : List UInt8) (hk : kindOf key ≠ 1) (x : List Bool) :
    turnB key true x = oneB (partOf key 0) true (oneB (partOf key 1) false (oneB (partOf key 2) true x)) := by
  unfold turnB; rw [if_neg hk]; rfl
theorem slice_lit (s : ByteArray) (lo hi : Nat) (h : lo ≤ hi) (h2 : hi ≤ s.size) (hm : hi < 1000000) (w : World) (l' h' : Int) (e1 : l' = (lo : Int)) (e2 : h' = (hi : Int)) :
    (Instr.slice 9 (.string s) (some (.int .i64 l')) (some (.int .i64 h')) none).run Tryz.prog w = .ok (.string (s.extract lo hi)) w := by
  subst e1; subst e2
  rw [run_slice_string (P := Tryz.prog) w 9 s .i64 .i64 _ _ Tryz.underlying9 (by omega) (by omega) (by omega)]
  congr 3
theorem part_bits (key : ByteArray) (j n : Nat) (hn : n = 8 * j + 8) (h : n ≤ key.size) : (key.extract (8 * j) n).size = 8 ∧ bitsB (key.extract (8 * j) n).data.toList = Walk.partAt key.data.toList j := by
  subst hn
  refine ⟨by rw [ByteArray.size_extract]; omega, ?_⟩
  rw [Go.Lib.extract_data, show 8 * j + 8 - 8 * j = 8 by omega]; rfl

set_option maxHeartbeats 4000000 in
set_option maxRecDepth 100000 in
theorem block_core (key : ByteArray) (hk : key.size = 16 ∨ key.size = 24) (x : List Bool) (hx : x.length = 64) (back : Bool) (w : World) :
    Calls Tryz.prog 70 #[.string key, .string (S8 x), .bool back] w fun e w' => e = .returned (.string (S8 (turnB key.data.toList back x))) ∧ Below w.heap.size w w' := by
  have hkd : kindOf key.data.toList = key.size / 8 := by
    unfold kindOf; rw [len_list]
    rcases hk with h | h <;> rw [h] <;> rfl
  obtain ⟨a, ha⟩ : ∃ a, a = key.extract 0 8 := ⟨_, rfl⟩
  obtain ⟨b, hb⟩ : ∃ b, b = key.extract 8 16 := ⟨_, rfl⟩
  obtain ⟨c, hc⟩ : ∃ c, c = key.extract (key.size - 8) key.size := ⟨_, rfl⟩
  have pa := part_bits key 0 8 rfl (by omega)
  have pb := part_bits key 1 16 rfl (by omega)
  rw [show 8 * 0 = 0 from rfl, ← ha] at pa
  rw [show 8 * 1 = 8 from rfl, ← hb] at pb
  have sa := fun W => slice_to key 8 (by omega) W 8 rfl
  have sb := fun W => slice_lit key 8 16 (by omega) (by omega) (by decide) W 8 16 rfl rfl
  have sc := fun W => slice_from key (key.size - 8) (by omega) W ((key.size : Int) - 8) (by omega)
  rw [← ha] at sa
  rw [← hb] at sb
  rw [← hc] at sc
  have OA := Aside0.mk (fun y hy bk W => one_S8 a pa.1 y hy bk W)
  have OB := Aside0.mk (fun y hy bk W => one_S8 b pb.1 y hy bk W)
  rw [pa.2] at OA
  rw [pb.2] at OB
  have P0 : partOf key.data.toList 0 = Walk.partAt key.data.toList 0 := by unfold partOf; rw [if_neg (by omega)]
  have P1 : partOf key.data.toList 1 = Walk.partAt key.data.toList 1 := by unfold partOf; rw [if_neg (by omega)]
  have T : turnB key.data.toList back x = if back then oneB (partOf key.data.toList 0) true (oneB (partOf key.data.toList 1) false (oneB (partOf key.data.toList 2) true x)) else oneB (partOf key.data.toList 2) false (oneB (partOf key.data.toList 1) true (oneB (partOf key.data.toList 0) false x)) := by
    cases back
    · exact three _ (by omega) x
    · exact turnB_bwd _ (by omega) x
  have HX := Aside0.mk hx
  have hL := Aside0.mk (fun (k : List Bool) (bk : Bool) (y : List Bool) => oneB_length k bk y)
  rcases hk with hk | hk
  · have P2 : partOf key.data.toList 2 = Walk.partAt key.data.toList 0 := by unfold partOf; rw [if_pos ⟨by rw [hkd, hk], rfl⟩]
    rw [P0, P1, P2] at T
    have HT := Aside0.mk T
    have b8 : ((key.size : Int) == 8) = false := by rw [beq_eq_false_iff_ne]; omega
    have b16 : ((key.size : Int) == 16) = true := by rw [beq_iff_eq]; omega
    have w1 : IntKind.i64.wrap ((key.size : Int) - 8) = (key.size : Int) - 8 := IntWalk.i64_in _ (by omega)
    rw [show (key.size : Int) - 8 = 8 by omega] at w1
    rw [show (key.size : Int) - 8 = 8 by omega] at sc
    generalize Walk.partAt key.data.toList 0 = K0 at *
    generalize Walk.partAt key.data.toList 1 = K1 at *
    clear T P0 P1 P2 hkd pa pb ha hb hc hx w1 b8 b16
    cases back
    · rw [HT.out]
      go_enter Tryz.func70, Tryz.ntmps70
      go_wp2_with fail
      refine (OA.out _ HX.out false _).mono ?_
      rintro e w1 ⟨rfl, hb⟩
      have B := Aside0.mk hb
      clear hb
      go_wp2_with fail
      refine (OB.out _ (hL.out _ _ _) true _).mono ?_
      rintro e w2 ⟨rfl, hb⟩
      replace B := Aside0.mk (B.out.trans (hb.mono B.out.size))
      clear hb
      go_wp2_with fail
      refine (OA.out _ (hL.out _ _ _) false _).mono ?_
      rintro e w3 ⟨rfl, hb⟩
      replace B := Aside0.mk (B.out.trans (hb.mono B.out.size))
      clear hb
      go_wp2_with fail
      go_ret
      exact ⟨rfl, B.out⟩
    · rw [HT.out]
      go_enter Tryz.func70, Tryz.ntmps70
      go_wp2_with fail
      refine (OA.out _ HX.out true _).mono ?_
      rintro e w1 ⟨rfl, hb⟩
      have B := Aside0.mk hb
      clear hb
      go_wp2_with fail
      refine (OB.out _ (hL.out _ _ _) false _).mono ?_
      rintro e w2 ⟨rfl, hb⟩
      replace B := Aside0.mk (B.out.trans (hb.mono B.out.size))
      clear hb
      go_wp2_with fail
      refine (OA.out _ (hL.out _ _ _) true _).mono ?_
      rintro e w3 ⟨rfl, hb⟩
      replace B := Aside0.mk (B.out.trans (hb.mono B.out.size))
      clear hb
      go_wp2_with fail
      go_ret
      exact ⟨rfl, B.out⟩
  · have P2 : partOf key.data.toList 2 = Walk.partAt key.data.toList 2 := by unfold partOf; rw [if_neg (by rw [hkd, hk]; decide)]
    rw [P0, P1, P2] at T
    have pc := part_bits key 2 24 rfl (by omega)
    rw [show (8 * 2 : Nat) = 16 from rfl, show key.extract 16 24 = c by rw [hc, hk]] at pc
    have OC := Aside0.mk (fun y hy bk W => one_S8 c pc.1 y hy bk W)
    rw [pc.2] at OC
    have HT := Aside0.mk T
    have b8 : ((key.size : Int) == 8) = false := by rw [beq_eq_false_iff_ne]; omega
    have b16 : ((key.size : Int) == 16) = false := by rw [beq_eq_false_iff_ne]; omega
    rw [show (key.size : Int) - 8 = 16 by omega] at sc
    generalize Walk.partAt key.data.toList 0 = K0 at *
    generalize Walk.partAt key.data.toList 1 = K1 at *
    generalize Walk.partAt key.data.toList 2 = K2 at *
    clear T P0 P1 P2 hkd pa pb pc ha hb hc hx b8 b16
    cases back
    · rw [HT.out]
      go_enter Tryz.func70, Tryz.ntmps70
      go_wp2_with fail
      refine (OA.out _ HX.out false _).mono ?_
      rintro e w1 ⟨rfl, hb⟩
      have B := Aside0.mk hb
      clear hb
      go_wp2_with fail
      refine (OB.out _ (hL.out _ _ _) true _).mono ?_
      rintro e w2 ⟨rfl, hb⟩
      replace B := Aside0.mk (B.out.trans (hb.mono B.out.size))
      clear hb
      go_wp2_with fail
      refine (OC.out _ (hL.out _ _ _) false _).mono ?_
      rintro e w3 ⟨rfl, hb⟩
      replace B := Aside0.mk (B.out.trans (hb.mono B.out.size))
      clear hb
      go_wp2_with fail
      go_ret
      exact ⟨rfl, B.out⟩
    · rw [HT.out]
      go_enter Tryz.func70, Tryz.ntmps70
      go_wp2_with fail
      refine (OC.out _ HX.out true _).mono ?_
      rintro e w1 ⟨rfl, hb⟩
      have B := Aside0.mk hb
      clear hb
      go_wp2_with fail
      refine (OB.out _ (hL.out _ _ _) false _).mono ?_
      rintro e w2 ⟨rfl, hb⟩
      replace B := Aside0.mk (B.out.trans (hb.mono B.out.size))
      clear hb
      go_wp2_with fail
      refine (OA.out _ (hL.out _ _ _) true _).mono ?_
      rintro e w3 ⟨rfl, hb⟩
      replace B := Aside0.mk (B.out.trans (hb.mono B.out.size))
      clear hb
      go_wp2_with fail
      go_ret
      exact ⟨rfl, B.out⟩
set_option maxHeartbeats 1000000 in
set_option maxRecDepth 100000 in
theorem block_any (key : ByteArray) (hk : key.size = 8 ∨ key.size = 16 ∨ key.size = 24) (x : List Bool) (hx : x.length = 64) (back : Bool) (w : World) :
    Calls Tryz.prog 70 #[.string key, .string (S8 x), .bool back] w fun e w' => e = .returned (.string (S8 (turnB key.data.toList back x))) ∧ Below w.heap.size w w' := by
  rcases hk with hk | hk
  · rw [turnB_eight _ (by rw [len_list]; exact hk)]
    have O := Aside0.mk (one_S8 key hk x hx back)
    have b8 : ((key.size : Int) == 8) = true := by rw [beq_iff_eq]; omega
    clear hk hx
    go_enter Tryz.func70, Tryz.ntmps70
    go_wp2_with fail
    refine (O.out _).mono ?_
    rintro e w1 ⟨rfl, hb⟩
    have B := Aside0.mk hb
    clear hb
    go_wp2_with fail
    go_ret
    exact ⟨rfl, B.out⟩
  · exact block_core key hk x hx back w
end Go.Proofs.YtopobangjpehnaaGreat.Ref

set_option linter.unusedVariables false
set_option linter.unusedSimpArgs false
namespace Go.Proofs.YtopobangjpehnaaGreat.Ref
open Go.RowKit Go.Proofs.YtopobangjpehnaaGreatW.PrintWords Go.Proofs.YtopobangjpehnaaGreatW.PrintLast Go.Proofs.YtopobangjpehnaaGreatW.PrintMore Pr Des Num Walk

theorem outS_size (A : Nat → List Bool) (q : Nat) : (lst (outBytes A q)).size = 8 * q := by rw [lst_size, outBytes_length]
theorem outS_succ (A : Nat → List Bool) (q : Nat) : lst (outBytes A q) ++ S8 (A q) = lst (outBytes A (q + 1)) := by
  unfold S8; rw [lst_append, outBytes_succ]
theorem outS_all (A : Nat → List Bool) (s : ByteArray) (n : Nat) (h : s.size = 8 * n) : blocksStr A s = lst (outBytes A n) := by
  unfold blocksStr lst; rw [show s.size / 8 = n by omega]
theorem slice_S8 (s : ByteArray) (q : Nat) (h : 8 * q + 8 ≤ s.size) (hm : s.size ≤ 140737488355000) (w : World) :
    (Instr.slice 9 (.string s) (some (.int .i64 (8 * (q : Int)))) (some (.int .i64 (8 * (q : Int) + 8))) none).run Tryz.prog w = .ok (.string (S8 (blockAt s q))) w := by
  rw [← S8_block s q h]
  exact slice_block s q h w

set_option maxHeartbeats 1000000 in
set_option maxRecDepth 100000 in
theorem refTurn_no (key s : ByteArray) (hs : s.size % 8 ≠ 0) (hm : s.size ≤ 140737488355000) (back : Bool) (w : World) :
    Calls Tryz.prog 42 #[.string key, .string s, .bool back] w fun e w' => e = .returned (.tuple #[.string ⟨#[]⟩, .int .i64 31]) ∧ Below w.heap.size w w' := by
  have hb : ((s.size : Int) % 8 != 0) = true := by rw [bne_iff_ne]; omega
  clear hs
  go_enter Tryz.func42, Tryz.ntmps42
  go_wp2_with fail
  go_ret2
  exact ⟨rfl, Below.refl _ _⟩
set_option maxHeartbeats 4000000 in
set_option maxRecDepth 100000 in
theorem refTurn_yes (key s : ByteArray) (hk : key.size = 8 ∨ key.size = 16 ∨ key.size = 24) (hs : s.size % 8 = 0) (hm : s.size ≤ 140737488355000) (back : Bool) (w : World) :
    Calls Tryz.prog 42 #[.string key, .string s, .bool back] w fun e w' => e = .returned (.tuple #[.string (blocksStr (ecbB key.data.toList back s) s), .int .i64 0]) ∧ Below w.heap.size w w' := by
  obtain ⟨n, hn⟩ : ∃ n, s.size = 8 * n := ⟨s.size / 8, by omega⟩
  have hb : ((s.size : Int) % 8 != 0) = false := by rw [bne_eq_false_iff_eq]; omega
  rw [outS_all _ s n hn]
  have HO := Aside0.mk (fun q (hq : q < n) (W : World) => block_any key hk (blockAt s q) (blockAt_length s n q hn hq) back W)
  obtain ⟨A, hA⟩ : ∃ A, A = ecbB key.data.toList back s := ⟨_, rfl⟩
  rw [← hA]
  have HE := Aside0.mk (fun q => show turnB key.data.toList back (blockAt s q) = A q by rw [hA]; rfl)
  have HN := Aside0.mk hn
  have B : Aside0 (Below w.heap.size w w) := ⟨Below.refl _ _⟩
  have h0 : Aside0 ((ByteArray.mk #[]) = lst (outBytes A 0)) := ⟨rfl⟩
  clear hs hk hn hA
  go_enter Tryz.func42, Tryz.ntmps42
  go_wp2_with fail
  go_loopw [8, 9] (fun v8 v9 wr => ∃ q : Nat, q ≤ n ∧ v9 = .int .i64 (8 * (q : Int)) ∧ v8 = .string (lst (outBytes A q)) ∧ Aside0 (Below w.heap.size w wr)) (fun _ v9 _ => s.size - (intOf v9).toNat)
  case atStart => exact ⟨0, by omega, rfl, rfl, B⟩
  case round =>
    clear B
    obtain ⟨q, hq, rfl, rfl, B⟩ := hrel
    have htn := HN.out
    by_cases hlt : q < n
    · have u1 : 8 * q + 8 ≤ s.size := by omega
      have hsl := slice_S8 s q u1 hm
      have C := Aside0.mk (HO.out q hlt)
      rw [HE.out q] at C
      have z1 := outS_size A q
      have z2 := S8_size (A q)
      have z3 : (lst (outBytes A q)).size ≤ 140737488355000 := by omega
      have z4 : (S8 (A q)).size ≤ 1000 := by omega
      have l1 := outS_succ A q
      clear z1 z2 htn
      go_wp2_with fail
      refine (C.out _).mono ?_
      rintro e w1 ⟨rfl, hb⟩
      replace B := Aside0.mk (B.out.trans (hb.mono B.out.size))
      clear hb
      go_wp2_with fail
      have htn := HN.out
      exact ⟨⟨q + 1, by omega, by go_num, rfl, B⟩, by simp [intOf]; omega⟩
    · obtain rfl : q = n := by omega
      have u1 : ¬ (8 * (q : Int) < (s.size : Int)) := by omega
      clear htn
      go_wp2_with fail
      go_ret2
      exact ⟨rfl, B.out⟩

theorem refXor8 (x y : List Bool) (hx : x.length = 64) (hy : y.length = 64) (w : World) :
    Calls Tryz.prog 71 #[.string (S8 x), .string (S8 y)] w fun e w' => e = .returned (.tuple #[.string (S8 (xo x y)), .int .i64 0]) ∧ Below w.heap.size w w' := by
  have := refXor_any (S8 x) (S8 y) (by rw [S8_size]; decide) w
  unfold xorT xorE at this
  rw [if_pos (by rw [S8_size, S8_size]), if_pos (by rw [S8_size, S8_size]), S8_xor _ _ hx hy] at this
  exact this

set_option maxHeartbeats 1000000 in
set_option maxRecDepth 100000 in
theorem refChain_short (key f s : ByteArray) (hf : f.size ≠ 8) (back : Bool) (w : World) :
    Calls Tryz.prog 41 #[.string key, .string f, .string s, .bool back] w fun e w' => e = .returned (.tuple #[.string ⟨#[]⟩, .int .i64 31]) ∧ Below w.heap.size w w' := by
  have hb : ((f.size : Int) != 8) = true := by rw [bne_iff_ne]; omega
  clear hf
  go_enter Tryz.func41, Tryz.ntmps41
  go_wp2_with fail
  go_ret2
  exact ⟨rfl, Below.refl _ _⟩
set_option maxHeartbeats 1000000 in
set_option maxRecDepth 100000 in
theorem refChain_no (key f s : ByteArray) (hf : f.size = 8) (hs : s.size % 8 ≠ 0) (hm : s.size ≤ 140737488355000) (back : Bool) (w : World) :
    Calls Tryz.prog 41 #[.string key, .string f, .string s, .bool back] w fun e w' => e = .returned (.tuple #[.string ⟨#[]⟩, .int .i64 31]) ∧ Below w.heap.size w w' := by
  have hb : ((f.size : Int) != 8) = false := by rw [bne_eq_false_iff_eq]; omega
  have hb2 : ((s.size : Int) % 8 != 0) = true := by rw [bne_iff_ne]; omega
  clear hf hs
  go_enter Tryz.func41, Tryz.ntmps41
  go_wp2_with fail
  go_ret2
  exact ⟨rfl, Below.refl _ _⟩
set_option maxHeartbeats 4000000 in
set_option maxRecDepth 100000 in
theorem refChain_fwd (key f s : ByteArray) (hk : key.size = 8 ∨ key.size = 16 ∨ key.size = 24) (hf : f.size = 8) (hs : s.size % 8 = 0) (hm : s.size ≤ 140737488355000) (w : World) :
    Calls Tryz.prog 41 #[.string key, .string f, .string s, .bool false] w fun e w' => e = .returned (.tuple #[.string (blocksStr (cbcB key.data.toList (bitsB f.data.toList) s) s), .int .i64 0]) ∧ Below w.heap.size w w' := by
  obtain ⟨n, hn⟩ : ∃ n, s.size = 8 * n := ⟨s.size / 8, by omega⟩
  have hF := first_len f hf
  have hb : ((f.size : Int) != 8) = false := by rw [bne_eq_false_iff_eq]; omega
  have hb2 : ((s.size : Int) % 8 != 0) = false := by rw [bne_eq_false_iff_eq]; omega
  rw [outS_all _ s n hn]
  have h8 := S8_of f hf
  generalize bitsB f.data.toList = F0 at *
  have HX := Aside0.mk (fun q (hq : q < n) (W : World) => refXor8 (blockAt s q) (cbcPrev key.data.toList F0 s q) (blockAt_length s n q hn hq) (cbcPrev_length key.data.toList F0 hF s n hn q hq) W)
  have HO := Aside0.mk (fun q (hq : q < n) (W : World) => block_any key hk (xo (blockAt s q) (cbcPrev key.data.toList F0 s q)) (xo_len64 _ _ (blockAt_length s n q hn hq) (cbcPrev_length key.data.toList F0 hF s n hn q hq)) false W)
  obtain ⟨A, hA⟩ : ∃ A, A = cbcB key.data.toList F0 s := ⟨_, rfl⟩
  obtain ⟨V, hV⟩ : ∃ V, V = cbcPrev key.data.toList F0 s := ⟨_, rfl⟩
  rw [← hA]
  have HE := Aside0.mk (fun q => show turnB key.data.toList false (xo (blockAt s q) (cbcPrev key.data.toList F0 s q)) = A q by rw [hA, cbcB_eq])
  rw [← hV] at HX HO HE
  have HS := Aside0.mk (fun q => show A q = V (q + 1) by rw [hA, hV]; rfl)
  have h80 : Aside0 (f = S8 (V 0)) := ⟨by rw [hV]; exact h8⟩
  have HN := Aside0.mk hn
  have B : Aside0 (Below w.heap.size w w) := ⟨Below.refl _ _⟩
  clear hs hk hn hA hV hf h8 hF
  go_enter Tryz.func41, Tryz.ntmps41
  go_wp2_with fail
  go_loopw [10, 11, 12] (fun v10 v11 v12 wr => ∃ q : Nat, q ≤ n ∧ v12 = .int .i64 (8 * (q : Int)) ∧ v10 = .string (lst (outBytes A q)) ∧ v11 = .string (S8 (V q)) ∧ Aside0 (Below w.heap.size w wr)) (fun _ _ v12 _ => s.size - (intOf v12).toNat)
  case atStart => exact ⟨0, by omega, rfl, rfl, by rw [← h80.out], B⟩
  case round =>
    clear B
    obtain ⟨q, hq, rfl, rfl, rfl, B⟩ := hrel
    have htn := HN.out
    by_cases hlt : q < n
    · have u1 : 8 * q + 8 ≤ s.size := by omega
      have hsl := slice_S8 s q u1 hm
      have C1 := Aside0.mk (HX.out q hlt)
      have C2 := Aside0.mk (HO.out q hlt)
      rw [HE.out q] at C2
      have z1 := outS_size A q
      have z2 := S8_size (A q)
      have z3 : (lst (outBytes A q)).size ≤ 140737488355000 := by omega
      have z4 : (S8 (A q)).size ≤ 1000 := by omega
      have l1 := outS_succ A q
      clear z1 z2 htn
      go_wp2_with fail
      refine (C1.out _).mono ?_
      rintro e w1 ⟨rfl, hb⟩
      replace B := Aside0.mk (B.out.trans (hb.mono B.out.size))
      clear hb
      go_wp2_with fail
      refine (C2.out _).mono ?_
      rintro e w2 ⟨rfl, hb⟩
      replace B := Aside0.mk (B.out.trans (hb.mono B.out.size))
      clear hb
      go_wp2_with fail
      have htn := HN.out
      exact ⟨⟨q + 1, by omega, by go_num, rfl, by rw [HS.out], B⟩, by simp [intOf]; omega⟩
    · obtain rfl : q = n := by omega
      have u1 : ¬ (8 * (q : Int) < (s.size : Int)) := by omega
      clear htn
      go_wp2_with fail
      go_ret2
      exact ⟨rfl, B.out⟩
set_option maxHeartbeats 4000000 in
set_option maxRecDepth 100000 in
theorem refChain_bwd (key f s : ByteArray) (hk : key.size = 8 ∨ key.size = 16 ∨ key.size = 24) (hf : f.size = 8) (hs : s.size % 8 = 0) (hm : s.size ≤ 140737488355000) (w : World) :
    Calls Tryz.prog 41 #[.string key, .string f, .string s, .bool true] w fun e w' => e = .returned (.tuple #[.string (blocksStr (uncB key.data.toList (bitsB f.data.toList) s) s), .int .i64 0]) ∧ Below w.heap.size w w' := by
  obtain ⟨n, hn⟩ : ∃ n, s.size = 8 * n := ⟨s.size / 8, by omega⟩
  have hF := first_len f hf
  have hb : ((f.size : Int) != 8) = false := by rw [bne_eq_false_iff_eq]; omega
  have hb2 : ((s.size : Int) % 8 != 0) = false := by rw [bne_eq_false_iff_eq]; omega
  rw [outS_all _ s n hn]
  have h8 := S8_of f hf
  generalize bitsB f.data.toList = F0 at *
  have HX := Aside0.mk (fun q (hq : q < n) (W : World) => refXor8 (turnB key.data.toList true (blockAt s q)) (uncPrev F0 s q) (turnB_length _ _ _ (blockAt_length s n q hn hq)) (uncPrev_length F0 hF s n hn q hq) W)
  have HO := Aside0.mk (fun q (hq : q < n) (W : World) => block_any key hk (blockAt s q) (blockAt_length s n q hn hq) true W)
  obtain ⟨A, hA⟩ : ∃ A, A = uncB key.data.toList F0 s := ⟨_, rfl⟩
  obtain ⟨V, hV⟩ : ∃ V, V = uncPrev F0 s := ⟨_, rfl⟩
  rw [← hA]
  have HE := Aside0.mk (fun q => show xo (turnB key.data.toList true (blockAt s q)) (uncPrev F0 s q) = A q by rw [hA]; rfl)
  rw [← hV] at HX HE
  have HS := Aside0.mk (fun q => show blockAt s q = V (q + 1) by rw [hV]; rfl)
  have h80 : Aside0 (f = S8 (V 0)) := ⟨by rw [hV]; exact h8⟩
  have HN := Aside0.mk hn
  have B : Aside0 (Below w.heap.size w w) := ⟨Below.refl _ _⟩
  clear hs hk hn hA hV hf h8 hF
  go_enter Tryz.func41, Tryz.ntmps41
  go_wp2_with fail
  go_loopw [10, 11, 12] (fun v10 v11 v12 wr => ∃ q : Nat, q ≤ n ∧ v12 = .int .i64 (8 * (q : Int)) ∧ v10 = .string (lst (outBytes A q)) ∧ v11 = .string (S8 (V q)) ∧ Aside0 (Below w.heap.size w wr)) (fun _ _ v12 _ => s.size - (intOf v12).toNat)
  case atStart => exact ⟨0, by omega, rfl, rfl, by rw [← h80.out], B⟩
  case round =>
    clear B
    obtain ⟨q, hq, rfl, rfl, rfl, B⟩ := hrel
    have htn := HN.out
    by_cases hlt : q < n
    · have u1 : 8 * q + 8 ≤ s.size := by omega
      have hsl := slice_S8 s q u1 hm
      have C1 := Aside0.mk (HO.out q hlt)
      have C2 := Aside0.mk (HX.out q hlt)
      rw [HE.out q] at C2
      have z1 := outS_size A q
      have z2 := S8_size (A q)
      have z3 : (lst (outBytes A q)).size ≤ 140737488355000 := by omega
      have z4 : (S8 (A q)).size ≤ 1000 := by omega
      have l1 := outS_succ A q
      clear z1 z2 htn
      go_wp2_with fail
      refine (C1.out _).mono ?_
      rintro e w1 ⟨rfl, hb⟩
      replace B := Aside0.mk (B.out.trans (hb.mono B.out.size))
      clear hb
      go_wp2_with fail
      refine (C2.out _).mono ?_
      rintro e w2 ⟨rfl, hb⟩
      replace B := Aside0.mk (B.out.trans (hb.mono B.out.size))
      clear hb
      go_wp2_with fail
      have htn := HN.out
      exact ⟨⟨q + 1, by omega, by go_num, rfl, by rw [HS.out], B⟩, by simp [intOf]; omega⟩
    · obtain rfl : q = n := by omega
      have u1 : ¬ (8 * (q : Int) < (s.size : Int)) := by omega
      clear htn
      go_wp2_with fail
      go_ret2
      exact ⟨rfl, B.out⟩

/-- May a key have so many bytes? -/
def fitsB (key : ByteArray) : Bool := decide (key.size = 8 ∨ key.size = 16 ∨ key.size = 24)
theorem refLength_any (key : ByteArray) (w : World) :
    Calls Tryz.prog 72 #[.string key] w fun e w' => e = .returned (.bool (fitsB key)) ∧ Below w.heap.size w w' := by
  refine (turnstileref3_Length.calls key (fitsB key) w ?_).mono fun e w' ⟨he, hd⟩ => ⟨he, hd.below⟩
  unfold turnstileref3_Length.f fitsB
  by_cases h1 : key.size = 8
  · rw [if_pos (by omega), decide_eq_true (by omega)]
  · rw [if_neg (by omega)]
    by_cases h2 : key.size = 16
    · rw [if_pos (by omega), decide_eq_true (by omega)]
    · rw [if_neg (by omega)]
      congr 1
      rw [Bool.eq_iff_iff, beq_iff_eq, decide_eq_true_iff]
      omega
theorem fits_kind (key : ByteArray) : (fitsB key = true → 1 ≤ kindOf key.data.toList) ∧ (fitsB key = false → kindOf key.data.toList = 0) := by
  unfold fitsB kindOf
  rw [len_list, decide_eq_true_iff, decide_eq_false_iff_not]
  constructor
  · intro h; split <;> (try split) <;> (try split) <;> omega
  · intro h; rw [if_neg (by omega), if_neg (by omega), if_neg (by omega)]
set_option maxHeartbeats 1000000 in
set_option maxRecDepth 100000 in
theorem refCheck_no (key : ByteArray) (hk : fitsB key = false) (w : World) :
    Calls Tryz.prog 43 #[.string key] w fun e w' => e = .returned (.tuple #[.string ⟨#[]⟩, .int .i64 30]) ∧ Below w.heap.size w w' := by
  have L := Aside0.mk (refLength_any key)
  rw [hk] at L
  clear hk
  go_enter Tryz.func43, Tryz.ntmps43
  go_wp2_with fail
  refine (L.out _).mono ?_
  rintro e w1 ⟨rfl, hb⟩
  have B := Aside0.mk hb
  clear hb
  go_wp2_with fail
  go_ret2
  exact ⟨rfl, B.out⟩
theorem S8_zero : (⟨#[0, 0, 0, 0, 0, 0, 0, 0]⟩ : ByteArray) = S8 (bitsN 64 0) := by decide +kernel
theorem S8_three (x : List Bool) (w : World) : (Instr.slice 9 (.string (S8 x)) none (some (.int .i64 3)) none).run Tryz.prog w = .ok (.string (lst ((bytes8 (num x)).take 3))) w := by
  rw [slice_to (S8 x) 3 (by rw [S8_size]; decide) w 3 rfl]
  congr 2
set_option maxHeartbeats 1000000 in
set_option maxRecDepth 100000 in
theorem refCheck_yes (key : ByteArray) (hk : fitsB key = true) (w : World) :
    Calls Tryz.prog 43 #[.string key] w fun e w' => e = .returned (.tuple #[.string ⟨(checkB key.data.toList).toArray⟩, .int .i64 0]) ∧ Below w.heap.size w w' := by
  have L := Aside0.mk (refLength_any key)
  rw [hk] at L
  have C := Aside0.mk (block_any key (of_decide_eq_true hk) (bitsN 64 0) (bitsN_length _ _) false)
  have hsl := S8_three (turnB key.data.toList false (bitsN 64 0))
  have e1 : lst ((bytes8 (num (turnB key.data.toList false (bitsN 64 0)))).take 3) = ⟨(checkB key.data.toList).toArray⟩ := rfl
  rw [e1] at hsl
  rw [← S8_zero] at C
  clear hk e1
  go_enter Tryz.func43, Tryz.ntmps43
  go_wp2_with fail
  refine (L.out _).mono ?_
  rintro e w1 ⟨rfl, hb⟩
  have B := Aside0.mk hb
  clear hb
  go_wp2_with fail
  refine (C.out _).mono ?_
  rintro e w2 ⟨rfl, hb⟩
  replace B := Aside0.mk (B.out.trans (hb.mono B.out.size))
  clear hb
  go_wp2_with fail
  go_ret2
  exact ⟨rfl, B.out⟩
end Go.Proofs.YtopobangjpehnaaGreat.Ref

set_option linter.unusedVariables false
set_option linter.unusedSimpArgs false
namespace Go.Proofs.YtopobangjpehnaaGreat.Ref
open Go.RowKit Go.Proofs.YtopobangjpehnaaGreatW.PrintWords Go.Proofs.YtopobangjpehnaaGreatW.PrintLast Go.Proofs.YtopobangjpehnaaGreatW.PrintMore Pr Des Num Walk

/-- A block is in memory, made ready under a key. -/
def BlockOf (w : World) (g : Nat) (key : ByteArray) : Prop := Blk w g 101 (keyBlock key.data.toList)
theorem BlockOf.step {w w' : World} {g : Nat} {key : ByteArray} (h : BlockOf w g key) (hb : Below w.heap.size w w') : BlockOf w' g key := Blk.step h hb
end Go.Proofs.YtopobangjpehnaaGreat.Ref
