/- The walk of the law CipherWeak. -/
import Derived.Test.YtopobangjpehnaaOdd
import Derived.Test.YtopobangjpehnaaTurned
set_option linter.unusedVariables false
set_option linter.unusedSimpArgs false
namespace Go.Proofs.Ytopobangjpehnaa.Walk
open Go.RowKit Go.Proofs.YtopobangjpehnaaW.PrintWords Go.Proofs.YtopobangjpehnaaW.PrintLast Go.Proofs.YtopobangjpehnaaW.PrintMore Pr Des Num

/-- A slice of bools that came in. -/
def Bools (w : World) (A : Option Addr) (len : Nat) : Prop := ∀ i, i < len → ∃ a b, A = some a ∧ w.cell? (a.add i) = some (.bool b) ∧ (a.add i).block < w.heap.size
theorem cell_block {w : World} {a : Addr} {v : Value} (h : w.cell? a = some v) : a.block < w.heap.size := by
  unfold World.cell? at h
  split at h
  · rename_i hb; exact (Array.getElem?_eq_some_iff.1 hb).1
  · cases h
theorem hi7_set (l : List UInt8) (i : Nat) (x : UInt8) (h : i < l.length) (hx : l[i] = x) : hi7 (l.set i (x ^^^ 1)) = hi7 l := by
  have hh : ∀ n : Fin 256, (UInt8.ofNat n ^^^ 1).toNat / 2 = (n : Nat) / 2 := by decide +kernel
  have h1 : (x ^^^ 1).toNat / 2 = x.toNat / 2 := by
    have := hh ⟨x.toNat, x.toNat_lt⟩
    simpa using this
  unfold hi7
  rw [List.map_set, h1, ← hx]
  apply List.ext_getElem (by simp)
  intro j h2 h3
  simp only [List.getElem_set, List.getElem_map]
  split
  · rename_i e; subst e; rfl
  · rfl
def weakLits : List (List UInt8) := [[1, 1, 1, 1, 1, 1, 1, 1], [254, 254, 254, 254, 254, 254, 254, 254], [224, 224, 224, 224, 241, 241, 241, 241], [31, 31, 31, 31, 14, 14, 14, 14]]
def weakLit (r : Nat) : List UInt8 := weakLits.getD r []
theorem weakLit_length : ∀ r : Fin 4, (weakLit r).length = 8 := by decide
theorem weakLit_weak : ∀ r : Fin 4, weakB (weakLit r) = true ∧ weakPart (weakLit r) = true := by decide +kernel
theorem weakLit_same : ∀ r : Fin 4, (sched (partAt (weakLit r) 0)).reverse = sched (partAt (weakLit r) 0) := by decide +kernel
theorem weak_self (k : List UInt8) (r : Nat) (hr : r < 4) (h : hi7 k = hi7 (weakLit r)) (x : List Bool) (hx : x.length = 64) : turnB k false (turnB k false x) = x := by
  have hlen : (weakLit r).length = 8 := weakLit_length ⟨r, hr⟩
  have hl : k.length = 8 := by rw [hi7_len h, hlen]
  have hk : kindOf k = 1 := by unfold kindOf; rw [if_pos hl]
  have hk2 : kindOf (weakLit r) = 1 := by unfold kindOf; rw [if_pos hlen]
  have hp : partOf k 0 = partAt k 0 := by unfold partOf; rw [if_neg (by omega)]
  have hp2 : partOf (weakLit r) 0 = partAt (weakLit r) 0 := by unfold partOf; rw [if_neg (by omega)]
  have hs := sched_hi7 h 0
  rw [hp2] at hs
  have hrev : (sched (partOf k 0)).reverse = sched (partOf k 0) := by rw [hs]; exact weakLit_same ⟨r, hr⟩
  have ho : order (partOf k 0) true = order (partOf k 0) false := by unfold order; simp [hrev]
  have h1 : ∀ y, oneB (partOf k 0) true y = oneB (partOf k 0) false y := fun y => by unfold oneB; rw [ho]
  have h2 : oneB (partOf k 0) true (oneB (partOf k 0) false x) = x := oneB_back (partOf k 0) false x hx
  unfold turnB
  rw [if_pos hk, if_pos hk, ← h1, h2]
theorem ecb_weak (k : ByteArray) (r : Nat) (hr : r < 4) (h : hi7 k.data.toList = hi7 (weakLit r)) (t : ByteArray) (ht : t.size % 8 = 0) : underS k (underS k t) = t := by
  have hz := blocksStr_size (ecbB k.data.toList false t) t ht
  conv => rhs; rw [← blocksStr_self t ht]
  unfold underS
  apply blocksStr_congr _ _ _ _ hz
  intro i hi
  rw [hz] at hi
  have hl := blockAt_length t (t.size / 8) i (by omega) hi
  have hb := blockAt_str (ecbB k.data.toList false t) t ht i hi (turnB_length _ _ _ hl)
  unfold ecbB at hb ⊢
  rw [hb, weak_self _ r hr h _ hl]
theorem weakB_mid (a k c : List UInt8) (j : Nat) (hj : j < 3) (ha : a.length = 8 * j) (hk : k.length = 8) (hc : c.length = 16 - 8 * j) (hw : weakPart k = true) : weakB (a ++ k ++ c) = true := by
  have hl : (a ++ k ++ c).length = 24 := by rw [List.length_append, List.length_append, ha, hk, hc]; omega
  have hkind : kindOf (a ++ k ++ c) = 3 := by unfold kindOf; rw [hl]; rfl
  unfold weakB
  rw [hkind, List.any_eq_true]
  refine ⟨j, List.mem_range.2 hj, ?_⟩
  have : ((a ++ k ++ c).drop (8 * j)).take 8 = k := by
    rw [← ha, List.append_assoc, List.drop_left, ← hk, List.take_left]
  rw [this, hw]
theorem weakB_23 (l : List UInt8) (h : l.length = 23) : weakB l = false := by
  have : kindOf l = 0 := by unfold kindOf; rw [h]; rfl
  unfold weakB; rw [this]; rfl
theorem weakB_lit : weakB [16, 32, 97, 98, 99, 48, 64, 120] = false := by decide +kernel
theorem weakPart_hi7 {a b : List UInt8} (h : hi7 a = hi7 b) : weakPart a = weakPart b := by
  unfold weakPart clear8
  rw [clear_hi7 _ _ _ h (by decide)]

theorem slice_to (s : ByteArray) (n : Nat) (h : n ≤ s.size) (w : World) (k : Int) (hk : k = (n : Int)) :
    (Instr.slice 9 (.string s) none (some (.int .i64 k)) none).run Try.prog w = .ok (.string (s.extract 0 n)) w := by
  subst hk
  rw [run_slice_string_h (P := Try.prog) w 9 s Try.underlying9 .i64 _ (by omega) (by omega)]
  congr 3
theorem slice_from (s : ByteArray) (n : Nat) (h : n ≤ s.size) (w : World) (k : Int) (hk : k = (n : Int)) :
    (Instr.slice 9 (.string s) (some (.int .i64 k)) none none).run Try.prog w = .ok (.string (s.extract n s.size)) w := by
  subst hk
  rw [run_slice_string_l (P := Try.prog) w 9 s Try.underlying9 .i64 _ (by omega) (by omega)]
  congr 3
theorem cat (a b : ByteArray) (h : a.size + b.size ≤ 9223372036854775807) (w : World) : (Op.stringOp .add a b).run Try.prog w = .ok (.string (a ++ b)) w := run_string_add_sum w a b h
set_option maxHeartbeats 4000000 in
set_option maxRecDepth 100000 in
theorem weak_law (w : World) (which : Int) (hwh : (Lit.int .i64 which).wf = true) (A : Option Addr) (len cap : Nat) (hlen : len ≤ 140737488351232) (hlow : Bools w A len) (s : ByteArray) (hs : s.size ≤ 140737488351232) (raw : ByteArray) (hr : raw.size ≤ 140737488351232)
    (at_ : Int) (hat : (Lit.int .i64 at_).wf = true) :
    Calls Try.prog 8 #[.int .i64 which, .slice A len cap, .string s, .string raw, .int .i64 at_] w fun e w' => e = .returned (.bool true) ∧ Below w.heap.size w w' := by
  obtain ⟨r, hr4, HP⟩ := pick_any which 4 (wf_i64 hwh) (by decide) (by decide)
  obtain ⟨j, hj3, HJ⟩ := pick_any at_ 3 (wf_i64 hat) (by decide) (by decide)
  obtain ⟨t, ht, hts, HW⟩ := whole_any s 20 (by decide) (by omega)
  obtain ⟨long, hlg, HG⟩ := fit_any raw 24 (by omega) (by omega) (by omega)
  have hr4' : r < 4 := by omega
  have hll := weakLit_length ⟨r, hr4'⟩
  simp only at hll
  have HP' := Aside0.mk HP
  have HJ' := Aside0.mk HJ
  have HW' := Aside0.mk HW
  have HG' := Aside0.mk HG
  have HT := Aside0.mk (show t.size % 8 = 0 ∧ t.size ≤ 160 ∧ long.size = 24 ∧ r < 4 ∧ j < 3 ∧ (weakLit r).length = 8 from ⟨ht, by omega, by omega, hr4', by omega, hll⟩)
  have HL := Aside0.mk hlow
  have h0 : 0 ≤ (r : Int) := by omega
  have h1 : (r : Int) < 4 := by omega
  clear HP HJ HW HG hs hr hwh hat ht hts hlg hr4 hr4' hj3 hll hlow
  go_enter Try.func8, Try.ntmps8
  go_wp2_with fail
  refine (known_any _).mono ?_
  rintro e w1 ⟨rfl, hb⟩
  have B := Aside0.mk hb
  clear hb
  go_wp2_with fail
  have K0 := Aside0.mk (Blk.new w1 9 #[.string ⟨#[1, 1, 1, 1, 1, 1, 1, 1]⟩, .string ⟨#[254, 254, 254, 254, 254, 254, 254, 254]⟩, .string ⟨#[224, 224, 224, 224, 241, 241, 241, 241]⟩, .string ⟨#[31, 31, 31, 31, 14, 14, 14, 14]⟩])
  have B1 := Aside0.mk (B.out.alloc B.out.size (.cells #[.string ⟨#[1, 1, 1, 1, 1, 1, 1, 1]⟩, .string ⟨#[254, 254, 254, 254, 254, 254, 254, 254]⟩, .string ⟨#[224, 224, 224, 224, 241, 241, 241, 241]⟩, .string ⟨#[31, 31, 31, 31, 14, 14, 14, 14]⟩] 9))
  refine (HP'.out _).mono ?_
  rintro e w2 ⟨rfl, hb⟩
  replace B := Aside0.mk (B1.out.trans (hb.mono B1.out.size))
  have q0 : w2.cell? ⟨w1.heap.size, r, none⟩ = some (.string ⟨(weakLit r).toArray⟩) := by
    rw [(K0.out.step hb).cell]
    have h4 : r = 0 ∨ r = 1 ∨ r = 2 ∨ r = 3 := by have := HT.out.2.2.2.1; omega
    rcases h4 with rfl | rfl | rfl | rfl <;> rfl
  have HS2 : Aside0 (w.heap.size ≤ w2.heap.size) := ⟨B.out.size⟩
  clear hb K0 B1
  have hcv := print_bytes (P := Try.prog) 9 53 5 Try.underlying9 Try.underlying53 Try.underlying5 ⟨(weakLit r).toArray⟩ w2
  have R := Aside0.mk (BRow.new w2 ⟨(weakLit r).toArray⟩)
  replace B := Aside0.mk (bytes_below B.out B.out.size 5 ⟨(weakLit r).toArray⟩)
  have hsz : (⟨(weakLit r).toArray⟩ : ByteArray).size = 8 := by
    show (weakLit r).toArray.size = 8
    rw [List.size_toArray]; exact HT.out.2.2.2.2.2
  rw [hsz] at hcv
  generalize Lib.bytesWorld w2 5 ⟨(weakLit r).toArray⟩ = w3 at *
  generalize grownCap w2 8 0 5 = cp at *
  have hR := R.out
  rw [show (⟨(weakLit r).toArray⟩ : ByteArray).data.toList = weakLit r from rfl] at hR
  replace R := Aside0.mk hR
  clear hR hsz
  go_wp2_with fail
  clear hcv q0
  go_loopw [14] (fun v14 wr => ∃ (i : Nat) (l : List UInt8), i ≤ 8 ∧ v14 = .int .i64 i ∧ Aside0 (BRow wr w2.heap.size l) ∧ Aside0 (l.length = 8 ∧ hi7 l = hi7 (weakLit r)) ∧ Aside0 (Below w.heap.size w wr)) (fun i _ => 8 - (intOf i).toNat)
  case atStart => exact ⟨0, weakLit r, Nat.zero_le _, rfl, R, ⟨⟨HT.out.2.2.2.2.2, rfl⟩⟩, B⟩
  case round =>
    clear R B
    obtain ⟨i, l, hi, rfl, R, HI, B⟩ := hrel
    by_cases hlt : i < 8 ∧ i < len
    · obtain ⟨hl8, hln⟩ := hlt
      obtain ⟨a, b, rfl, ha, hblk⟩ := HL.out i hln
      have hil : i < l.length := by rw [HI.out.1]; exact hl8
      obtain ⟨x, hx⟩ : ∃ x : UInt8, l[i] = x := ⟨_, rfl⟩
      have q1 : wr.cell? ⟨w2.heap.size, i, none⟩ = some (.int .u8 ((x.toNat : Nat) : Int)) := by rw [R.out.cell i hil, hx]
      have q2 : wr.frozen? ⟨w2.heap.size, i, none⟩ = false := R.out.frozen i hil
      have q3 : wr.cell? (a.add i) = some (.bool b) := (B.out.cell hblk).trans ha
      have HX := Aside0.mk (hi7_set l i x hil hx)
      have hx1 := xor_one x
      rw [UInt8.toNat_xor] at hx1
      have R2 := R.out.set_ i (x ^^^ 1)
      rw [UInt8.toNat_xor] at R2
      have HR2 := Aside0.mk R2
      clear ha hblk hil hx R2
      cases b
      · go_wp2
        go_roundw
        case rel => exact ⟨i + 1, l, by omega, by go_num, R, HI, B⟩
        case measure => simp [intOf]; omega
      · go_wp2
        exact ⟨⟨i + 1, l.set i (x ^^^ 1), by omega, by go_num, ⟨HR2.out⟩, ⟨⟨by rw [List.length_set]; exact HI.out.1, HX.out.trans HI.out.2⟩⟩, ⟨B.out.setCell (p := ⟨w2.heap.size, i, none⟩) HS2.out _⟩⟩, by simp [intOf]; omega⟩
    · have hz := R.out.string (c := cp) (by rw [HI.out.1]; decide)
      rw [HI.out.1] at hz
      obtain ⟨key, hkey⟩ : ∃ key : ByteArray, key = ⟨l.toArray⟩ := ⟨_, rfl⟩
      have hkl : key.data.toList = l := by rw [hkey]
      have hks : key.size = 8 := by
        have : key.data.toList.length = key.size := by rw [Array.length_toList]; rfl
        rw [← this, hkl, HI.out.1]
      have hhi : hi7 key.data.toList = hi7 (weakLit r) := by rw [hkl]; exact HI.out.2
      rw [← hkey] at hz
      have hT := HT.out
      have hU1 := under_any key t (.inl hks) hT.1 (by omega)
      have hus : (underS key t).size = t.size := blocksStr_size _ _ hT.1
      have hU2 := under_any key (underS key t) (.inl hks) (by rw [hus]; exact hT.1) (by rw [hus]; omega)
      rw [ecb_weak key r hT.2.2.2.1 hhi t hT.1] at hU2
      have hW1 := weak_any key
      rw [weakB_hi7 hhi, (weakLit_weak ⟨r, hT.2.2.2.1⟩).1] at hW1
      obtain ⟨l2, hl2⟩ : ∃ l2 : ByteArray, l2 = long.extract 0 (8 * j) ++ key ++ long.extract (8 * j + 8) long.size := ⟨_, rfl⟩
      have hd1 : (long.extract 0 (8 * j)).data.toList.length = 8 * j := by
        rw [Array.length_toList]; show (long.extract 0 (8 * j)).size = _; rw [ByteArray.size_extract]; omega
      have hd2 : (long.extract (8 * j + 8) long.size).data.toList.length = 16 - 8 * j := by
        rw [Array.length_toList]; show (long.extract (8 * j + 8) long.size).size = _; rw [ByteArray.size_extract]; omega
      have hl2l : l2.data.toList = (long.extract 0 (8 * j)).data.toList ++ key.data.toList ++ (long.extract (8 * j + 8) long.size).data.toList := by
        rw [hl2, ByteArray.data_append, ByteArray.data_append]; simp
      have hl2s : l2.size = 24 := by
        have : l2.data.toList.length = l2.size := by rw [Array.length_toList]; rfl
        rw [← this, hl2l, List.length_append, List.length_append, hd1, hd2, hkl, HI.out.1]; omega
      have hW2 := weak_any l2
      rw [hl2l, weakB_mid _ _ _ j hT.2.2.2.2.1 hd1 (by rw [hkl]; exact HI.out.1) hd2 (by rw [weakPart_hi7 hhi]; exact (weakLit_weak ⟨r, hT.2.2.2.1⟩).2)] at hW2
      have hW3 := weak_any ⟨#[16, 32, 97, 98, 99, 48, 64, 120]⟩
      rw [show (⟨#[16, 32, 97, 98, 99, 48, 64, 120]⟩ : ByteArray).data.toList = [16, 32, 97, 98, 99, 48, 64, 120] from rfl, weakB_lit] at hW3
      have hW4 := weak_any (l2.extract 0 23)
      rw [weakB_23 _ (by rw [Array.length_toList]; show (l2.extract 0 23).size = 23; rw [ByteArray.size_extract]; omega)] at hW4
      have U1 := Aside0.mk hU1
      have U2 := Aside0.mk hU2
      have W1 := Aside0.mk hW1
      have W2 := Aside0.mk hW2
      have W3 := Aside0.mk hW3
      have W4 := Aside0.mk hW4
      have HL2 := Aside0.mk hl2
      have c1 : ((underS key t).size : Int) = (t.size : Int) := by omega
      have c2 : (((underS key t).size : Int) != (t.size : Int)) = false := by rw [bne_eq_false_iff_eq]; exact c1
      have g1 : long.size = 24 := hT.2.2.1
      have g2 : j < 3 := hT.2.2.2.2.1
      have KS := Aside0.mk hks
      have G1 := Aside0.mk (show long.size = 24 ∧ l2.size = 24 from ⟨g1, hl2s⟩)
      clear hU1 hU2 hW1 hW2 hW3 hW4 hl2 hl2l hd1 hd2 hkl hkey hhi hks hus c1 hT g1 hl2s HI R
      by_cases h8 : i < 8
      · have hnl : ¬ i < len := fun h => hlt ⟨h8, h⟩
        clear hlt
        go_wp2_with fail
        refine (HW'.out _).mono ?_
        rintro e w4 ⟨rfl, hb⟩
        replace B := Aside0.mk (B.out.trans (hb.mono B.out.size)); clear hb
        go_wp2_with fail
        refine (U1.out _).mono ?_
        rintro e w5 ⟨rfl, hb⟩
        replace B := Aside0.mk (B.out.trans (hb.mono B.out.size)); clear hb
        go_wp2_with fail
        refine (U2.out _).mono ?_
        rintro e w6 ⟨rfl, hb⟩
        replace B := Aside0.mk (B.out.trans (hb.mono B.out.size)); clear hb
        go_wp2_with fail
        refine (HG'.out _).mono ?_
        rintro e w7 ⟨rfl, hb⟩
        replace B := Aside0.mk (B.out.trans (hb.mono B.out.size)); clear hb
        go_wp2_with fail
        refine (HJ'.out _).mono ?_
        rintro e w8 ⟨rfl, hb⟩
        replace B := Aside0.mk (B.out.trans (hb.mono B.out.size)); clear hb
        go_wp2_with fail
        have b0 := slice_to long (8 * j) (by have := G1.out; omega)
        replace b0 := fun w => b0 w (8 * (j : Int)) (by omega)
        have b1 := slice_from long (8 * j + 8) (by have := G1.out; omega)
        replace b1 := fun w => b1 w (8 * (j : Int) + 8) (by omega)
        have b2 := cat (long.extract 0 (8 * j)) key (by have := G1.out; have := KS.out; rw [ByteArray.size_extract]; omega)
        have b3 := cat (long.extract 0 (8 * j) ++ key) (long.extract (8 * j + 8) long.size) (by have := G1.out; have := KS.out; rw [ByteArray.size_append, ByteArray.size_extract, ByteArray.size_extract]; omega)
        rw [← HL2.out] at b3
        have b4 : IntKind.i64.wrap (8 * (j : Int) + 8) = 8 * (j : Int) + 8 := IntWalk.i64_in _ (by omega)
        go_quiet (fail)
        clear b0 b1 b2 b3 b4
        replace B := Aside0.mk (pw_below_drewN B.out nq)
        go_wp2_with fail
        refine (W1.out _).mono ?_
        rintro e w9 ⟨rfl, hb⟩
        replace B := Aside0.mk (B.out.trans (hb.mono B.out.size)); clear hb
        go_wp2_with fail
        refine (W2.out _).mono ?_
        rintro e w10 ⟨rfl, hb⟩
        replace B := Aside0.mk (B.out.trans (hb.mono B.out.size)); clear hb
        go_wp2_with fail
        refine (W3.out _).mono ?_
        rintro e w11 ⟨rfl, hb⟩
        replace B := Aside0.mk (B.out.trans (hb.mono B.out.size)); clear hb
        have d1 := slice_to l2 23 (by have := G1.out; omega)
        replace d1 := fun w => d1 w 23 rfl
        go_wp2_with fail
        refine (W4.out _).mono ?_
        rintro e w12 ⟨rfl, hb⟩
        replace B := Aside0.mk (B.out.trans (hb.mono B.out.size)); clear hb
        go_wp2_with fail
        go_ret
        exact ⟨by simp, B.out⟩
      · clear hlt
        go_wp2_with fail
        refine (HW'.out _).mono ?_
        rintro e w4 ⟨rfl, hb⟩
        replace B := Aside0.mk (B.out.trans (hb.mono B.out.size)); clear hb
        go_wp2_with fail
        refine (U1.out _).mono ?_
        rintro e w5 ⟨rfl, hb⟩
        replace B := Aside0.mk (B.out.trans (hb.mono B.out.size)); clear hb
        go_wp2_with fail
        refine (U2.out _).mono ?_
        rintro e w6 ⟨rfl, hb⟩
        replace B := Aside0.mk (B.out.trans (hb.mono B.out.size)); clear hb
        go_wp2_with fail
        refine (HG'.out _).mono ?_
        rintro e w7 ⟨rfl, hb⟩
        replace B := Aside0.mk (B.out.trans (hb.mono B.out.size)); clear hb
        go_wp2_with fail
        refine (HJ'.out _).mono ?_
        rintro e w8 ⟨rfl, hb⟩
        replace B := Aside0.mk (B.out.trans (hb.mono B.out.size)); clear hb
        go_wp2_with fail
        have b0 := slice_to long (8 * j) (by have := G1.out; omega)
        replace b0 := fun w => b0 w (8 * (j : Int)) (by omega)
        have b1 := slice_from long (8 * j + 8) (by have := G1.out; omega)
        replace b1 := fun w => b1 w (8 * (j : Int) + 8) (by omega)
        have b2 := cat (long.extract 0 (8 * j)) key (by have := G1.out; have := KS.out; rw [ByteArray.size_extract]; omega)
        have b3 := cat (long.extract 0 (8 * j) ++ key) (long.extract (8 * j + 8) long.size) (by have := G1.out; have := KS.out; rw [ByteArray.size_append, ByteArray.size_extract, ByteArray.size_extract]; omega)
        rw [← HL2.out] at b3
        have b4 : IntKind.i64.wrap (8 * (j : Int) + 8) = 8 * (j : Int) + 8 := IntWalk.i64_in _ (by omega)
        go_quiet (fail)
        clear b0 b1 b2 b3 b4
        replace B := Aside0.mk (pw_below_drewN B.out nq)
        go_wp2_with fail
        refine (W1.out _).mono ?_
        rintro e w9 ⟨rfl, hb⟩
        replace B := Aside0.mk (B.out.trans (hb.mono B.out.size)); clear hb
        go_wp2_with fail
        refine (W2.out _).mono ?_
        rintro e w10 ⟨rfl, hb⟩
        replace B := Aside0.mk (B.out.trans (hb.mono B.out.size)); clear hb
        go_wp2_with fail
        refine (W3.out _).mono ?_
        rintro e w11 ⟨rfl, hb⟩
        replace B := Aside0.mk (B.out.trans (hb.mono B.out.size)); clear hb
        have d1 := slice_to l2 23 (by have := G1.out; omega)
        replace d1 := fun w => d1 w 23 rfl
        go_wp2_with fail
        refine (W4.out _).mono ?_
        rintro e w12 ⟨rfl, hb⟩
        replace B := Aside0.mk (B.out.trans (hb.mono B.out.size)); clear hb
        go_wp2_with fail
        go_ret
        exact ⟨by simp, B.out⟩
end Go.Proofs.Ytopobangjpehnaa.Walk
