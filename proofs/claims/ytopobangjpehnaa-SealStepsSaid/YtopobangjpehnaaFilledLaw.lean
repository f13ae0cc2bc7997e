/- What is filled up alike, and the walk of the law SealFilled. -/
import Derived.Test.YtopobangjpehnaaFitted
set_option linter.unusedVariables false
set_option linter.unusedSimpArgs false
namespace Go.Proofs.Ytopobangjpehnaa.Seal
open Go.RowKit Go.Proofs.YtopobangjpehnaaW.PrintWords Go.Proofs.YtopobangjpehnaaW.PrintLast Go.Proofs.YtopobangjpehnaaW.PrintMore Pr Des Num Walk

theorem zeros_app (a b : Nat) : zeros a ++ zeros b = zeros (a + b) := by unfold zeros; rw [List.replicate_append_replicate]
theorem zeros_length (n : Nat) : (zeros n).length = n := by unfold zeros; rw [List.length_replicate]
theorem strip_zeros (l : List UInt8) (x : UInt8) (hx : x ≠ 0) : ∀ n, (zeros n ++ x :: l).dropWhile (fun b => decide (b = 0)) = x :: l
  | 0 => by
    show (x :: l).dropWhile _ = _
    rw [List.dropWhile_cons, if_neg (by simpa using hx)]
  | n + 1 => by
    show (0 :: (zeros n ++ x :: l)).dropWhile _ = _
    rw [List.dropWhile_cons, if_pos (by simp)]
    exact strip_zeros l x hx n
theorem padL2 (l : List UInt8) : ∃ n, padL 2 l = l ++ [128] ++ zeros n := by
  unfold padL fillL
  rw [if_pos rfl, if_neg (by simp)]
  exact ⟨_, rfl⟩
theorem pad2_inj (a b : List UInt8) (h : padL 2 a = padL 2 b) : a = b := by
  obtain ⟨n, hn⟩ := padL2 a
  obtain ⟨m, hm⟩ := padL2 b
  have e : ∀ (l : List UInt8) (k : Nat), ((l ++ [128] ++ zeros k).reverse).dropWhile (fun b => decide (b = 0)) = 128 :: l.reverse := by
    intro l k
    have hz : (zeros k).reverse = zeros k := by unfold zeros; rw [List.reverse_replicate]
    rw [List.reverse_append, hz, List.reverse_append]
    exact strip_zeros l.reverse 128 (by decide) k
  have h1 := e a n
  rw [← hn, h, hm, e b m, List.cons.injEq] at h1
  exact (List.reverse_inj.1 h1.2).symm
theorem padS2_iff (a b : ByteArray) : padS 2 a = padS 2 b ↔ a = b := by
  constructor
  · intro h
    have h2 := congrArg (fun x : ByteArray => x.data.toList) h
    exact byteArray_ext (pad2_inj _ _ h2)
  · rintro rfl; rfl
theorem fill_zeros (t : List UInt8) (z : Nat) (h : z ≤ (fillL t).length - t.length) : fillL (t ++ zeros z) = fillL t := by
  have ht := fillL_length t
  unfold fillL at h ⊢
  by_cases h0 : t = []
  · subst h0
    rw [if_pos rfl, zeros_length] at h
    rw [if_pos rfl, List.nil_append]
    by_cases hz : z = 0
    · subst hz; rfl
    · have hne : zeros z ≠ [] := fun e => hz (by have := congrArg List.length e; rw [zeros_length] at this; simpa using this)
      simp only [List.length_nil, Nat.sub_zero] at h
      rw [if_neg hne, zeros_length, zeros_app]
      congr 1; omega
  · rw [if_neg h0, List.length_append, zeros_length] at h
    have hne : t ++ zeros z ≠ [] := by simp [h0]
    rw [if_neg h0, if_neg hne, List.length_append, zeros_length, List.append_assoc, zeros_app]
    congr 2; omega
theorem padS1_zeros (a : ByteArray) (z : Nat) (h : z ≤ (padS 1 a).size - a.size) : padS 1 (a ++ lst (zeros z)) = padS 1 a := by
  unfold padS padL at h ⊢
  rw [if_neg (show ¬ (1 : Int) = 2 by decide)] at h
  rw [if_neg (show ¬ (1 : Int) = 2 by decide), if_neg (show ¬ (1 : Int) = 2 by decide), lst_app, lst_list]
  rw [lst_size, ← slen a] at h
  rw [fill_zeros _ _ h]
theorem padS1_whole (p : ByteArray) (h : p.size % 8 = 0) (h8 : 8 ≤ p.size) : padS 1 p = p := by
  unfold padS padL fillL
  rw [if_neg (show ¬ (1 : Int) = 2 by decide), if_neg (fun e => by rw [← slen, e] at h8; simp at h8), slen, h]
  exact (by rw [show (8 - 0) % 8 = 0 from rfl, show zeros 0 = [] from rfl, List.append_nil, lst_self] : lst (p.data.toList ++ zeros ((8 - 0) % 8)) = p)
theorem eqb_iff (s t : ByteArray) : (s.toList == t.toList) = decide (s = t) := by
  rw [ByteArray.toList_eq, ByteArray.toList_eq, Bool.eq_iff_iff, beq_iff_eq, decide_eq_true_iff]
  exact ⟨fun h => byteArray_ext h, fun h => by rw [h]⟩
theorem mk0 (w : World) : (Instr.makeSlice 53 (.int .i64 0) (.int .i64 0)).run Try.prog w = .ok (.slice (some ⟨w.heap.size, 0, none⟩) 0 0) (w.alloc (.cells #[] 5)) := by kernel_rfl
theorem mk1 (w : World) : (Instr.makeSlice 53 (.int .i64 1) (.int .i64 1)).run Try.prog w = .ok (.slice (some ⟨w.heap.size, 0, none⟩) 1 1) (w.alloc (.cells #[.int .u8 0] 5)) := by kernel_rfl
theorem mk2 (w : World) : (Instr.makeSlice 53 (.int .i64 2) (.int .i64 2)).run Try.prog w = .ok (.slice (some ⟨w.heap.size, 0, none⟩) 2 2) (w.alloc (.cells #[.int .u8 0, .int .u8 0] 5)) := by kernel_rfl
theorem mk3 (w : World) : (Instr.makeSlice 53 (.int .i64 3) (.int .i64 3)).run Try.prog w = .ok (.slice (some ⟨w.heap.size, 0, none⟩) 3 3) (w.alloc (.cells #[.int .u8 0, .int .u8 0, .int .u8 0] 5)) := by kernel_rfl
theorem mk4 (w : World) : (Instr.makeSlice 53 (.int .i64 4) (.int .i64 4)).run Try.prog w = .ok (.slice (some ⟨w.heap.size, 0, none⟩) 4 4) (w.alloc (.cells #[.int .u8 0, .int .u8 0, .int .u8 0, .int .u8 0] 5)) := by kernel_rfl
theorem mk5 (w : World) : (Instr.makeSlice 53 (.int .i64 5) (.int .i64 5)).run Try.prog w = .ok (.slice (some ⟨w.heap.size, 0, none⟩) 5 5) (w.alloc (.cells #[.int .u8 0, .int .u8 0, .int .u8 0, .int .u8 0, .int .u8 0] 5)) := by kernel_rfl
theorem mk6 (w : World) : (Instr.makeSlice 53 (.int .i64 6) (.int .i64 6)).run Try.prog w = .ok (.slice (some ⟨w.heap.size, 0, none⟩) 6 6) (w.alloc (.cells #[.int .u8 0, .int .u8 0, .int .u8 0, .int .u8 0, .int .u8 0, .int .u8 0] 5)) := by kernel_rfl
theorem mk7 (w : World) : (Instr.makeSlice 53 (.int .i64 7) (.int .i64 7)).run Try.prog w = .ok (.slice (some ⟨w.heap.size, 0, none⟩) 7 7) (w.alloc (.cells #[.int .u8 0, .int .u8 0, .int .u8 0, .int .u8 0, .int .u8 0, .int .u8 0, .int .u8 0] 5)) := by kernel_rfl
theorem mk8 (w : World) : (Instr.makeSlice 53 (.int .i64 8) (.int .i64 8)).run Try.prog w = .ok (.slice (some ⟨w.heap.size, 0, none⟩) 8 8) (w.alloc (.cells #[.int .u8 0, .int .u8 0, .int .u8 0, .int .u8 0, .int .u8 0, .int .u8 0, .int .u8 0, .int .u8 0] 5)) := by kernel_rfl
theorem make_zeros (n : Nat) (h : n ≤ 8) (w : World) : (Instr.makeSlice 53 (.int .i64 (n : Int)) (.int .i64 (n : Int))).run Try.prog w = .ok (.slice (some ⟨w.heap.size, 0, none⟩) n n) (w.alloc (.cells (bcells (zeros n)) 5)) := by
  have hn : n = 0 ∨ n = 1 ∨ n = 2 ∨ n = 3 ∨ n = 4 ∨ n = 5 ∨ n = 6 ∨ n = 7 ∨ n = 8 := by omega
  rcases hn with rfl | rfl | rfl | rfl | rfl | rfl | rfl | rfl | rfl
  · exact mk0 w
  · exact mk1 w
  · exact mk2 w
  · exact mk3 w
  · exact mk4 w
  · exact mk5 w
  · exact mk6 w
  · exact mk7 w
  · exact mk8 w
theorem zeros_string (n : Nat) (h : n ≤ 8) (w : World) : (convert 53 9 (.slice (some ⟨w.heap.size, 0, none⟩) n n)).run Try.prog (w.alloc (.cells (bcells (zeros n)) 5)) = .ok (.string (lst (zeros n))) (w.alloc (.cells (bcells (zeros n)) 5)) := by
  have := bcells_string (c := n) (Blk.new w 5 (bcells (zeros n))) (by rw [zeros_length]; omega)
  rw [zeros_length] at this
  exact this

set_option maxHeartbeats 4000000 in
set_option maxRecDepth 100000 in
theorem filled_law (a : ByteArray) (ha : a.size ≤ 140737488351232) (b : ByteArray) (hb : b.size ≤ 140737488351232) (noughts : Int) (hno : (Lit.int .i64 noughts).wf = true) (key : ByteArray) (hk : key.size ≤ 140737488351232) (w : World) :
    Calls Try.prog 16 #[.string a, .string b, .int .i64 noughts, .string key] w fun e w' => e = .returned (.bool true) ∧ Below w.heap.size w w' := by
  have hx := padS_size 2 a
  have hp := padS_size 1 a
  obtain ⟨z, hz, HP⟩ := pick4_any noughts (((padS 1 a).size : Int) - (a.size : Int) + 1) (wf_i64 hno) (by omega) (by omega)
  have hz8 : z ≤ (padS 1 a).size - a.size := by omega
  have hp8 : (padS 1 a).size ≤ a.size + 8 := by
    have := fillL_length a.data.toList
    unfold padS padL
    rw [if_neg (show ¬ (1 : Int) = 2 by decide), lst_size]
    rw [slen] at this
    omega
  have hz9 : z ≤ 8 := by omega
  have hq := padS1_zeros a z hz8
  have hw1 := padS1_whole (padS 2 a) hx.1 hx.2.1
  have hcz : (a ++ lst (zeros z)).size = a.size + z := by rw [ByteArray.size_append, lst_size, zeros_length]
  have hlz : (lst (zeros z)).size ≤ 8 := by rw [lst_size, zeros_length]; exact hz9
  have P1 := Aside0.mk (pad_two a (by omega))
  have P2 := Aside0.mk (pad_two b (by omega))
  have P3 := Aside0.mk (pad_one a (by omega))
  have P4 := pad_one (a ++ lst (zeros z)) (by omega)
  rw [hq] at P4
  have K := Aside0.mk (fitted_any key 8 (.inl rfl) (by omega))
  have hk8 := fitS_size key (8 : Int).toNat
  generalize fitS key (8 : Int).toNat = k at *
  have hkk : (k.size : Int) = wantsN 1 1 := by rw [hk8]; rfl
  have hkk2 : (k.size : Int) = wantsN 1 2 := by rw [hk8]; rfl
  have t1 := fun w => tag_yes 1 1 (.inl rfl) (.inl rfl) k a hkk (by omega) w
  have t2 := fun w => tag_yes 1 1 (.inl rfl) (.inl rfl) k (a ++ lst (zeros z)) hkk (by omega) w
  have t3 := fun w => tag_yes 1 2 (.inr rfl) (.inl rfl) k a hkk2 (by omega) w
  have t4 := fun w => tag_yes 1 1 (.inl rfl) (.inl rfl) k (padS 2 a) hkk (by omega) w
  have e2 : tagX 1 1 k (a ++ lst (zeros z)) = tagX 1 1 k a := by unfold tagX; rw [if_pos rfl, if_pos rfl, hq]
  have e4 : tagX 1 1 k (padS 2 a) = tagX 1 2 k a := by unfold tagX; rw [if_pos rfl, if_pos rfl, hw1]
  rw [e2] at t2
  rw [e4] at t4
  have hu := T8_size (tagX 1 2 k a)
  generalize T8 (tagX 1 1 k a) = S at *
  generalize T8 (tagX 1 2 k a) = U at *
  have T1 := Aside0.mk t1
  have T2 := Aside0.mk t2
  have T3 := Aside0.mk t3
  have T4 := Aside0.mk t4
  have P4' := Aside0.mk P4
  have HP' := Aside0.mk HP
  obtain ⟨X, hX⟩ : ∃ X, decide (a = b) = X := ⟨_, rfl⟩
  have hab : (a.toList == b.toList) = X := by rw [eqb_iff, hX]
  have hxy : ((padS 2 a).toList == (padS 2 b).toList) = X := by
    rw [eqb_iff, ← hX, decide_eq_decide]
    exact padS2_iff a b
  have hmk := make_zeros z hz9
  have hcv := zeros_string z hz9
  have hxm : (padS 2 a).size ≤ 140737488355000 := by omega
  have hpm : (padS 1 a).size ≤ 140737488355000 := by omega
  have hpl : a.size ≤ (padS 1 a).size := hp.2.2.1
  have b0 : decide (((padS 1 a).size : Int) < (a.size : Int)) = false := decide_eq_false (by omega)
  generalize padS 2 a = x at *
  generalize padS 2 b = y at *
  generalize padS 1 a = p at *
  generalize hc : a ++ lst (zeros z) = c at *
  clear hX e2 e4 hk8 hkk hkk2 hq hw1 hx hp hp8 hz8 hz9 t1 t2 t3 t4 P4 HP hno hb hk hcz hz
  go_enter Try.func16, Try.ntmps16
  go_wp2_with fail
  refine (P1.out _).mono ?_
  rintro e w1 ⟨rfl, hb⟩
  have B := Aside0.mk hb
  clear hb
  go_wp2_with fail
  refine (P2.out _).mono ?_
  rintro e w2 ⟨rfl, hb⟩
  replace B := Aside0.mk (B.out.trans (hb.mono B.out.size))
  clear hb
  go_wp2_with fail
  refine (P3.out _).mono ?_
  rintro e w3 ⟨rfl, hb⟩
  replace B := Aside0.mk (B.out.trans (hb.mono B.out.size))
  clear hb
  go_wp2_with fail
  refine (HP'.out _).mono ?_
  rintro e w4 ⟨rfl, hb⟩
  replace B := Aside0.mk (B.out.trans (hb.mono B.out.size))
  clear hb
  go_wp2_with fail
  replace B := Aside0.mk (below_alloc B.out (.cells (bcells (zeros z)) 5))
  refine (P4'.out _).mono ?_
  rintro e w5 ⟨rfl, hb⟩
  replace B := Aside0.mk (B.out.trans (hb.mono B.out.size))
  clear hb
  go_wp2_with fail
  refine (K.out _).mono ?_
  rintro e w6 ⟨rfl, hb⟩
  replace B := Aside0.mk (B.out.trans (hb.mono B.out.size))
  clear hb
  go_wp2_with fail
  refine (T1.out _).mono ?_
  rintro e w7 ⟨rfl, hb⟩
  replace B := Aside0.mk (B.out.trans (hb.mono B.out.size))
  clear hb
  go_wp2_with fail
  refine (T2.out _).mono ?_
  rintro e w8 ⟨rfl, hb⟩
  replace B := Aside0.mk (B.out.trans (hb.mono B.out.size))
  clear hb
  go_wp2_with fail
  refine (T3.out _).mono ?_
  rintro e w9 ⟨rfl, hb⟩
  replace B := Aside0.mk (B.out.trans (hb.mono B.out.size))
  clear hb
  go_wp2_with fail
  refine (T4.out _).mono ?_
  rintro e w10 ⟨rfl, hb⟩
  replace B := Aside0.mk (B.out.trans (hb.mono B.out.size))
  clear hb
  go_wp2_with fail
  go_ret
  exact ⟨by simp [hu], B.out⟩
end Go.Proofs.Ytopobangjpehnaa.Seal
