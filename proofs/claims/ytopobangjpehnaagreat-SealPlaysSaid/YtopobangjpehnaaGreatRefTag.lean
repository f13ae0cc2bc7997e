/- The document's own Tag, by hand. -/
import Derived.Test.YtopobangjpehnaaGreatTag
import Derived.Test.YtopobangjpehnaaGreatRefC
set_option linter.unusedVariables false
set_option linter.unusedSimpArgs false
namespace Go.Proofs.YtopobangjpehnaaGreat.Seal
open Go.RowKit Go.Proofs.YtopobangjpehnaaGreatW.PrintWords Go.Proofs.YtopobangjpehnaaGreatW.PrintLast Go.Proofs.YtopobangjpehnaaGreatW.PrintMore Pr Des Num Walk

def sizeN (alg : Int) : Int := if alg = 1 then 8 else if alg = 3 then 16 else 0
theorem refSize_any (alg : Int) (w : World) : Calls Tryz.prog 27 #[.int .i64 alg] w fun e w' => e = .returned (.int .i64 (sizeN alg)) ∧ Below w.heap.size w w' := by
  refine (turnstileref4_size.calls alg (sizeN alg) w ?_).mono fun e w' ⟨he, hd⟩ => ⟨he, hd.below⟩
  unfold turnstileref4_size.f sizeN
  split
  · rfl
  · split <;> rfl
theorem refMake8 (w : World) : (Instr.makeSlice 68 (.int .i64 8) (.int .i64 8)).run Tryz.prog w = .ok (.slice (some ⟨w.heap.size, 0, none⟩) 8 8) (w.alloc (.cells #[.int .u8 0, .int .u8 0, .int .u8 0, .int .u8 0, .int .u8 0, .int .u8 0, .int .u8 0, .int .u8 0] 5)) := by kernel_rfl
theorem refZero8 (W : World) (g : Nat) (h : Blk W g 5 #[.int .u8 0, .int .u8 0, .int .u8 0, .int .u8 0, .int .u8 0, .int .u8 0, .int .u8 0, .int .u8 0]) :
    (convert 68 9 (.slice (some ⟨g, 0, none⟩) 8 8)).run Tryz.prog W = .ok (.string (lst (zeros 8))) W := by
  have hr : ReadsInt W .u8 (some ⟨g, 0, none⟩) 8 (ints (zeros 8)) := by
    refine ⟨rfl, by decide, fun h0 => ⟨_, rfl, fun j hj => ?_⟩⟩
    rw [addr_add, Nat.zero_add, h.cell]
    have : j = 0 ∨ j = 1 ∨ j = 2 ∨ j = 3 ∨ j = 4 ∨ j = 5 ∨ j = 6 ∨ j = 7 := by omega
    rcases this with rfl | rfl | rfl | rfl | rfl | rfl | rfl | rfl <;> rfl
  rw [string_of_reads Tryz.underlying68 Tryz.underlying5 Tryz.underlying9 hr, strOfNums_ints]
  rfl

theorem refZeroD (W : World) : (convert 68 9 (.slice (some ⟨W.heap.size, 0, none⟩) 8 8)).run Tryz.prog (W.alloc (.cells #[.int .u8 0, .int .u8 0, .int .u8 0, .int .u8 0, .int .u8 0, .int .u8 0, .int .u8 0, .int .u8 0] 5)).drew = .ok (.string (lst (zeros 8))) (W.alloc (.cells #[.int .u8 0, .int .u8 0, .int .u8 0, .int .u8 0, .int .u8 0, .int .u8 0, .int .u8 0, .int .u8 0] 5)).drew :=
  refZero8 _ W.heap.size (Blk.new W 5 _).drew
set_option maxHeartbeats 2000000 in
set_option maxRecDepth 100000 in
theorem refTag_arg (alg m : Int) (h : wantsN alg m = 0) (key s : ByteArray) (hs : s.size ≤ 140737488354000) (w : World) :
    Calls Tryz.prog 25 #[.int .i64 alg, .int .i64 m, .string key, .string s] w fun e w' => e = .returned (.tuple #[.string ⟨#[]⟩, .int .i64 1]) ∧ Below w.heap.size w w' := by
  have P := Aside0.mk (refPad_all m s hs)
  have Z := Aside0.mk (refSize_any alg)
  have h2 : (sizeN alg == 0) = true ∨ (sizeN alg == 0) = false ∧ (padE m != 0) = true := by
    rw [beq_iff_eq, beq_eq_false_iff_ne, bne_iff_ne]
    unfold wantsN at h
    unfold sizeN padE
    by_cases hm : m = 1 ∨ m = 2
    · rw [if_pos hm] at h
      exact .inl h
    · rw [if_neg hm]
      by_cases hz : (if alg = 1 then (8 : Int) else if alg = 3 then 16 else 0) = 0
      · exact .inl hz
      · exact .inr ⟨hz, by decide⟩
  generalize sizeN alg = z at *
  generalize padE m = E at *
  generalize padT m s = T at *
  clear h hs
  rcases h2 with b1 | ⟨b1, b2⟩
  all_goals
    go_enter Tryz.func25, Tryz.ntmps25
    go_wp2_with fail
    refine (P.out _).mono ?_
    rintro e w1 ⟨rfl, hb⟩
    have B := Aside0.mk hb
    clear hb
    go_wp2_with fail
    refine (Z.out _).mono ?_
    rintro e w2 ⟨rfl, hb⟩
    replace B := Aside0.mk (B.out.trans (hb.mono B.out.size))
    clear hb
    go_wp2_with fail
    go_ret2
    exact ⟨rfl, B.out⟩
theorem wants_size {alg m : Int} (h : wantsN alg m ≠ 0) : wantsN alg m = sizeN alg := by
  unfold wantsN at h ⊢
  unfold sizeN
  by_cases hm : m = 1 ∨ m = 2
  · rw [if_pos hm]
  · rw [if_neg hm] at h; exact absurd rfl h
set_option maxHeartbeats 2000000 in
set_option maxRecDepth 100000 in
theorem refTag_key (alg m : Int) (h : wantsN alg m ≠ 0) (key s : ByteArray) (hk : (key.size : Int) ≠ wantsN alg m) (hs : s.size ≤ 140737488354000) (w : World) :
    Calls Tryz.prog 25 #[.int .i64 alg, .int .i64 m, .string key, .string s] w fun e w' => e = .returned (.tuple #[.string ⟨#[]⟩, .int .i64 30]) ∧ Below w.heap.size w w' := by
  have P := Aside0.mk (refPad_yes m (wants_ok h).1 s hs)
  have Z := Aside0.mk (refSize_any alg)
  rw [wants_size h] at hk
  have hz : sizeN alg ≠ 0 := by rw [← wants_size h]; exact h
  generalize sizeN alg = z at *
  have b1 : (z == 0) = false := by rw [beq_eq_false_iff_ne]; exact hz
  have b2 : ((key.size : Int) != z) = true := by rw [bne_iff_ne]; exact hk
  clear h hs hk hz
  go_enter Tryz.func25, Tryz.ntmps25
  go_wp2_with fail
  refine (P.out _).mono ?_
  rintro e w1 ⟨rfl, hb⟩
  have B := Aside0.mk hb
  clear hb
  go_wp2_with fail
  refine (Z.out _).mono ?_
  rintro e w2 ⟨rfl, hb⟩
  replace B := Aside0.mk (B.out.trans (hb.mono B.out.size))
  clear hb
  go_wp2_with fail
  refine (Z.out _).mono ?_
  rintro e w3 ⟨rfl, hb⟩
  replace B := Aside0.mk (B.out.trans (hb.mono B.out.size))
  clear hb
  go_wp2_with fail
  go_ret2
  exact ⟨rfl, B.out⟩
theorem refTurn8 (k : ByteArray) (hk : k.size = 8) (x : List Bool) (hx : x.length = 64) (back : Bool) (w : World) :
    Calls Tryz.prog 42 #[.string k, .string (T8 x), .bool back] w fun e w' => e = .returned (.tuple #[.string (T8 (turnB k.data.toList back x)), .int .i64 0]) ∧ Below w.heap.size w w' := by
  have := Ref.refTurn_yes k (T8 x) (.inl hk) (by rw [T8_size]) (by rw [T8_size]; decide) back w
  rw [one_block _ _ _ (T8_size x), T8_bits x hx] at this
  exact this
set_option maxHeartbeats 4000000 in
set_option maxRecDepth 100000 in
theorem refTag_yes (alg m : Int) (hm : m = 1 ∨ m = 2) (ha : alg = 1 ∨ alg = 3) (key s : ByteArray) (hk : (key.size : Int) = wantsN alg m) (hs : s.size ≤ 140737488354000) (w : World) :
    Calls Tryz.prog 25 #[.int .i64 alg, .int .i64 m, .string key, .string s] w fun e w' => e = .returned (.tuple #[.string (T8 (tagX alg m key s)), .int .i64 0]) ∧ Below w.heap.size w w' := by
  have hw : wantsN alg m = sizeN alg := by unfold wantsN; rw [if_pos hm]; rfl
  rw [hw] at hk
  have hp := padS_size m s
  have P := Aside0.mk (refPad_yes m hm s hs)
  have Z := Aside0.mk (refSize_any alg)
  have hk8 : 8 ≤ key.size := by
    unfold sizeN at hk
    rcases ha with rfl | rfl
    · rw [if_pos rfl] at hk; omega
    · rw [if_neg (by decide), if_pos rfl] at hk; omega
  have ha8 : (key.extract 0 8).size = 8 := by rw [ByteArray.size_extract]; omega
  obtain ⟨n, hn⟩ : ∃ n, (padS m s).size = 8 * (n + 1) := ⟨(padS m s).size / 8 - 1, by omega⟩
  have hC := fun W => Ref.refChain_fwd (key.extract 0 8) (lst (zeros 8)) (padS m s) (.inl ha8) rfl hp.1 (by omega) W
  rw [zeros8_bits] at hC
  have hL := last_block (cbcB (key.extract 0 8).data.toList (bitsN 64 0) (padS m s)) (padS m s) n hn
  have hcz := blocksStr_size (cbcB (key.extract 0 8).data.toList (bitsN 64 0) (padS m s)) (padS m s) hp.1
  have hE : cbcB (key.extract 0 8).data.toList (bitsN 64 0) (padS m s) n = cbcEnd (key.extract 0 8).data.toList (padS m s) := by
    unfold cbcEnd; rw [hn]; congr 1; omega
  rw [hE] at hL
  have hEl := cbcEnd_length (key.extract 0 8).data.toList (padS m s) hp.1 hp.2.1
  have hX : tagX alg m key s = if alg = 1 then cbcEnd (key.extract 0 8).data.toList (padS m s) else turnB (key.extract 0 8).data.toList false (turnB (key.extract 8 key.size).data.toList true (cbcEnd (key.extract 0 8).data.toList (padS m s))) := rfl
  have sa := fun W => sl_to key 8 hk8 W 8 rfl
  have sb := fun W => sl_from key 8 hk8 W 8 rfl
  have hb8 : alg = 3 → (key.extract 8 key.size).size = 8 := by
    intro h3; subst h3
    rw [ByteArray.size_extract]
    unfold sizeN at hk
    rw [if_neg (by decide), if_pos rfl] at hk
    omega
  generalize cbcEnd (key.extract 0 8).data.toList (padS m s) = L at *
  generalize blocksStr (cbcB (key.extract 0 8).data.toList (bitsN 64 0) (padS m s)) (padS m s) = c at *
  generalize key.extract 0 8 = ka at *
  generalize key.extract 8 key.size = kb at *
  generalize padS m s = p at *
  have sc := fun W => sl_from c (p.size - 8) (by omega) W ((c.size : Int) - 8) (by omega)
  rw [hL] at sc
  have hcm : c.size ≤ 140737488355000 := by omega
  have C := Aside0.mk hC
  have HX := Aside0.mk hX
  have T1 := Aside0.mk (fun W (h3 : alg = 3) => refTurn8 kb (hb8 h3) L hEl true W)
  have T2 := Aside0.mk (fun W => refTurn8 ka ha8 (turnB kb.data.toList true L) (turnB_length _ _ _ hEl) false W)
  have h8c : 8 ≤ c.size := by omega
  have b1 : ((key.size : Int) != sizeN alg) = false := by rw [bne_eq_false_iff_eq]; exact hk
  have b0 : (sizeN alg == 0) = false := by
    rw [beq_eq_false_iff_ne, ← hk]
    omega
  have hmk := refMake8
  have hz8 := refZeroD
  generalize sizeN alg = zn at *
  clear hk hC hX hL hE hEl ha8 hb8 hn hcz hp hk8 hs hw hm
  rcases ha with rfl | rfl
  · rw [HX.out, if_pos rfl]
    go_enter Tryz.func25, Tryz.ntmps25
    go_wp2_with fail
    refine (P.out _).mono ?_
    rintro e w1 ⟨rfl, hb⟩
    have B := Aside0.mk hb
    clear hb
    go_wp2_with fail
    refine (Z.out _).mono ?_
    rintro e w2 ⟨rfl, hb⟩
    replace B := Aside0.mk (B.out.trans (hb.mono B.out.size))
    clear hb
    go_wp2_with fail
    refine (Z.out _).mono ?_
    rintro e w3 ⟨rfl, hb⟩
    replace B := Aside0.mk (B.out.trans (hb.mono B.out.size))
    clear hb
    go_wp2_with fail
    go_region_with (go_at_call 41; refine (C.out _).mono ?_; rintro e w4 ⟨rfl, hb⟩)
    have b4 := (below_alloc B.out (.cells #[.int .u8 0, .int .u8 0, .int .u8 0, .int .u8 0, .int .u8 0, .int .u8 0, .int .u8 0, .int .u8 0] 5)).drew
    replace B := Aside0.mk (b4.trans (hb.mono b4.size))
    clear b4 hb hmk hz8
    go_wp2_with fail
    go_ret2
    exact ⟨rfl, B.out⟩
  · rw [HX.out, if_neg (by decide)]
    go_enter Tryz.func25, Tryz.ntmps25
    go_wp2_with fail
    refine (P.out _).mono ?_
    rintro e w1 ⟨rfl, hb⟩
    have B := Aside0.mk hb
    clear hb
    go_wp2_with fail
    refine (Z.out _).mono ?_
    rintro e w2 ⟨rfl, hb⟩
    replace B := Aside0.mk (B.out.trans (hb.mono B.out.size))
    clear hb
    go_wp2_with fail
    refine (Z.out _).mono ?_
    rintro e w3 ⟨rfl, hb⟩
    replace B := Aside0.mk (B.out.trans (hb.mono B.out.size))
    clear hb
    go_wp2_with fail
    go_region_with (go_at_call 41; refine (C.out _).mono ?_; rintro e w4 ⟨rfl, hb⟩)
    have b4 := (below_alloc B.out (.cells #[.int .u8 0, .int .u8 0, .int .u8 0, .int .u8 0, .int .u8 0, .int .u8 0, .int .u8 0, .int .u8 0] 5)).drew
    replace B := Aside0.mk (b4.trans (hb.mono b4.size))
    clear b4 hb hmk hz8
    go_wp2_with fail
    refine (T1.out _ (by trivial)).mono ?_
    rintro e w5 ⟨rfl, hb⟩
    replace B := Aside0.mk (B.out.trans (hb.mono B.out.size))
    clear hb
    go_wp2_with fail
    refine (T2.out _).mono ?_
    rintro e w6 ⟨rfl, hb⟩
    replace B := Aside0.mk (B.out.trans (hb.mono B.out.size))
    clear hb
    go_wp2_with fail
    go_ret2
    exact ⟨rfl, B.out⟩
theorem refTag_all (alg m : Int) (key s : ByteArray) (hs : s.size ≤ 140737488354000) (w : World) :
    Calls Tryz.prog 25 #[.int .i64 alg, .int .i64 m, .string key, .string s] w fun e w' => e = .returned (.tuple #[.string (tagT alg m key s), .int .i64 (tagE alg m key)]) ∧ Below w.heap.size w w' := by
  unfold tagT tagE
  by_cases h : wantsN alg m = 0
  · rw [if_neg (fun x => x.1 h), if_pos h]; exact refTag_arg alg m h key s hs w
  · rw [if_neg h]
    by_cases hk : (key.size : Int) = wantsN alg m
    · rw [if_pos ⟨h, hk⟩, if_pos hk]; exact refTag_yes alg m (wants_ok h).1 (wants_ok h).2 key s hk hs w
    · rw [if_neg (fun x => hk x.2), if_neg hk]; exact refTag_key alg m h key s hk hs w
end Go.Proofs.YtopobangjpehnaaGreat.Seal
