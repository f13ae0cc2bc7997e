/- seal.Tag: the tag of a text. -/
import Derived.Test.YtopobangjpehnaaGreatPad
set_option linter.unusedVariables false
set_option linter.unusedSimpArgs false
namespace Go.Proofs.YtopobangjpehnaaGreat.Seal
open Go.RowKit Go.Proofs.YtopobangjpehnaaGreatW.PrintWords Go.Proofs.YtopobangjpehnaaGreatW.PrintLast Go.Proofs.YtopobangjpehnaaGreatW.PrintMore Pr Des Num Walk

/-- Eight bytes, of 64 bits. -/
def T8 (x : List Bool) : ByteArray := lst (bytes8 (num x))
theorem T8_size (x : List Bool) : (T8 x).size = 8 := by unfold T8; rw [lst_size, bytes8_length]
theorem T8_bits (x : List Bool) (h : x.length = 64) : bitsB (T8 x).data.toList = x := by
  unfold T8; rw [lst_list, bitsB_bytes8, (num64 _ h).2]
theorem T8_of (s : ByteArray) (h : s.size = 8) : s = T8 (bitsB s.data.toList) := by
  apply byteArray_ext
  unfold T8
  rw [lst_list, bytes8_bits _ (by rw [Array.length_toList]; exact h)]
theorem T8_inj {x y : List Bool} (hx : x.length = 64) (hy : y.length = 64) (h : T8 x = T8 y) : x = y := by
  rw [← T8_bits x hx, h, T8_bits y hy]
theorem sl_to (s : ByteArray) (n : Nat) (h : n ≤ s.size) (w : World) (k : Int) (hk : k = (n : Int)) :
    (Instr.slice 9 (.string s) none (some (.int .i64 k)) none).run Tryz.prog w = .ok (.string (s.extract 0 n)) w := by
  subst hk
  rw [run_slice_string_h (P := Tryz.prog) w 9 s Tryz.underlying9 .i64 _ (by omega) (by omega)]
  congr 3
theorem sl_from (s : ByteArray) (n : Nat) (h : n ≤ s.size) (w : World) (k : Int) (hk : k = (n : Int)) :
    (Instr.slice 9 (.string s) (some (.int .i64 k)) none none).run Tryz.prog w = .ok (.string (s.extract n s.size)) w := by
  subst hk
  rw [run_slice_string_l (P := Tryz.prog) w 9 s Tryz.underlying9 .i64 _ (by omega) (by omega)]
  congr 3
theorem kind8 (k : ByteArray) (h : k.size = 8) : 1 ≤ kindOf k.data.toList := by unfold kindOf; rw [slen, h]; decide
theorem enc8 (g : Nat) (k : ByteArray) (x : List Bool) (hx : x.length = 64) (W : World) (hg : Blk W g 101 (keyBlock k.data.toList)) :
    Calls Tryz.prog 69 #[.pointer (some ⟨g, 0, none⟩), .string (T8 x)] W fun e w' => e = .returned (.tuple #[.string (T8 (turnB k.data.toList false x)), .int .i64 0]) ∧ Below W.heap.size W w' := by
  have := encrypt_yes g k.data.toList (T8 x) (by rw [T8_size]) (by rw [T8_size]; decide) W hg
  rw [one_block _ _ _ (T8_size x), T8_bits x hx] at this
  exact this
theorem dec8 (g : Nat) (k : ByteArray) (x : List Bool) (hx : x.length = 64) (W : World) (hg : Blk W g 101 (keyBlock k.data.toList)) :
    Calls Tryz.prog 44 #[.pointer (some ⟨g, 0, none⟩), .string (T8 x)] W fun e w' => e = .returned (.tuple #[.string (T8 (turnB k.data.toList true x)), .int .i64 0]) ∧ Below W.heap.size W w' := by
  have := decrypt_yes g k.data.toList (T8 x) (by rw [T8_size]) (by rw [T8_size]; decide) W hg
  rw [one_block _ _ _ (T8_size x), T8_bits x hx] at this
  exact this
/-- The part of a text that is the last block. -/
theorem last_block (A : Nat → List Bool) (p : ByteArray) (n : Nat) (hp : p.size = 8 * (n + 1)) : (blocksStr A p).extract (p.size - 8) (blocksStr A p).size = T8 (A n) := by
  have hz := blocksStr_size A p (by omega)
  apply byteArray_ext
  rw [Go.Lib.extract_data, hz, blocksStr_list, show p.size / 8 = n + 1 by omega, outBytes_succ, show p.size - 8 = 8 * n by omega]
  rw [List.drop_append_of_le_length (by rw [outBytes_length]; exact Nat.le_refl _), List.drop_of_length_le (by rw [outBytes_length]; exact Nat.le_refl _), List.nil_append, List.take_of_length_le (by rw [bytes8_length]; omega)]
  rfl
theorem zeros8_bits : bitsB (lst (zeros 8)).data.toList = bitsN 64 0 := by decide +kernel

set_option maxHeartbeats 2000000 in
set_option maxRecDepth 100000 in
theorem turned_any (g : Nat) (k u : ByteArray) (hu : u.size = 8) (x : List Bool) (hx : x.length = 64) (w : World) (hg : Blk w g 101 (keyBlock k.data.toList)) :
    Calls Tryz.prog 39 #[.pointer (some ⟨g, 0, none⟩), .string u, .string (T8 x)] w fun e w' => e = .returned (.tuple #[.string (T8 (turnB k.data.toList false (turnB u.data.toList true x))), .int .i64 0]) ∧ Below w.heap.size w w' := by
  have N := Aside0.mk (new_yes u (kind8 u hu))
  have D := Aside0.mk (fun g W hg => dec8 g u x hx W hg)
  have E := Aside0.mk (fun W hg => enc8 g k (turnB u.data.toList true x) (turnB_length _ _ _ hx) W hg)
  have G := Aside0.mk hg
  clear hu hx hg
  go_enter Tryz.func39, Tryz.ntmps39
  go_wp2_with fail
  refine (N.out _).mono ?_
  rintro e w1 ⟨g1, rfl, hge, hg1, hb⟩
  have B := Aside0.mk hb
  have G1 := Aside0.mk hg1
  replace G := Aside0.mk (G.out.step hb)
  clear hb hg1 hge N
  go_wp2_with fail
  refine (D.out g1 _ G1.out).mono ?_
  rintro e w2 ⟨rfl, hb⟩
  replace B := Aside0.mk (B.out.trans (hb.mono B.out.size))
  replace G := Aside0.mk (G.out.step hb)
  clear hb
  go_wp2_with fail
  refine (E.out _ G.out).mono ?_
  rintro e w3 ⟨rfl, hb⟩
  replace B := Aside0.mk (B.out.trans (hb.mono B.out.size))
  clear hb
  go_wp2_with fail
  go_ret2
  exact ⟨rfl, B.out⟩

/-! ### What a tag is -/
/-- What a chain from noughts comes to at its last block. -/
def cbcEnd (k : List UInt8) (p : ByteArray) : List Bool := cbcB k (bitsN 64 0) p (p.size / 8 - 1)
def tagX (alg m : Int) (key s : ByteArray) : List Bool :=
  if alg = 1 then cbcEnd (key.extract 0 8).data.toList (padS m s)
  else turnB (key.extract 0 8).data.toList false (turnB (key.extract 8 key.size).data.toList true (cbcEnd (key.extract 0 8).data.toList (padS m s)))
theorem cbcEnd_length (k : List UInt8) (p : ByteArray) (h : p.size % 8 = 0) (h8 : 8 ≤ p.size) : (cbcEnd k p).length = 64 :=
  cbcB_length k (bitsN 64 0) (bitsN_length _ _) p (p.size / 8) (by omega) _ (by omega)
theorem tagX_length (alg m : Int) (key s : ByteArray) : (tagX alg m key s).length = 64 := by
  have h := padS_size m s
  have hl := cbcEnd_length (key.extract 0 8).data.toList (padS m s) h.1 h.2.1
  unfold tagX
  split
  · exact hl
  · exact turnB_length _ _ _ (turnB_length _ _ _ hl)
/-- How many bytes a key must have; none: there is no such algorithm, no such method. -/
def wantsN (alg m : Int) : Int := if m = 1 ∨ m = 2 then (if alg = 1 then 8 else if alg = 3 then 16 else 0) else 0
theorem wants_any (alg m : Int) (w : World) : Calls Tryz.prog 26 #[.int .i64 alg, .int .i64 m] w fun e w' => e = .returned (.int .i64 (wantsN alg m)) ∧ Below w.heap.size w w' := by
  refine (seal_wants.calls 5 alg m (wantsN alg m) w ?_).mono fun e w' ⟨he, hd⟩ => ⟨he, hd.below⟩
  unfold seal_wants.f wantsN
  have hj : ∀ b, seal_wants.j0 5 alg b = if b = true then (some 0) else (if alg = 1 then (some 8) else (if alg = 3 then (some 16) else (some 0))) := fun b => rfl
  have hf : seal_wants.j0 5 alg false = some (if alg = 1 then 8 else if alg = 3 then 16 else 0) := by
    rw [hj, if_neg (by decide)]
    split
    · rfl
    · split <;> rfl
  by_cases h1 : m = 1
  · rw [if_pos h1, if_pos (show m = 1 ∨ m = 2 from .inl h1), hf]
  · rw [if_neg h1]
    by_cases h2 : m = 2
    · subst h2
      rw [show ((2 : Int) != 2) = false from rfl, hf, if_pos (show (2 : Int) = 1 ∨ (2 : Int) = 2 from .inr rfl)]
    · rw [hj, if_pos (by rw [bne_iff_ne]; exact h2), if_neg (show ¬ (m = 1 ∨ m = 2) by omega)]

set_option maxHeartbeats 2000000 in
set_option maxRecDepth 100000 in
theorem tag_arg (alg m : Int) (h : wantsN alg m = 0) (key s : ByteArray) (w : World) :
    Calls Tryz.prog 23 #[.int .i64 alg, .int .i64 m, .string key, .string s] w fun e w' => e = .returned (.tuple #[.string ⟨#[]⟩, .int .i64 1]) ∧ Below w.heap.size w w' := by
  have N := Aside0.mk (wants_any alg m)
  rw [h] at N
  clear h
  go_enter Tryz.func23, Tryz.ntmps23
  go_wp2_with fail
  refine (N.out _).mono ?_
  rintro e w1 ⟨rfl, hb⟩
  have B := Aside0.mk hb
  clear hb
  go_wp2_with fail
  go_ret2
  exact ⟨rfl, B.out⟩
set_option maxHeartbeats 2000000 in
set_option maxRecDepth 100000 in
theorem tag_key (alg m : Int) (h : wantsN alg m ≠ 0) (key s : ByteArray) (hk : (key.size : Int) ≠ wantsN alg m) (w : World) :
    Calls Tryz.prog 23 #[.int .i64 alg, .int .i64 m, .string key, .string s] w fun e w' => e = .returned (.tuple #[.string ⟨#[]⟩, .int .i64 30]) ∧ Below w.heap.size w w' := by
  have N := Aside0.mk (wants_any alg m)
  generalize wantsN alg m = n at *
  have b1 : (n == 0) = false := by rw [beq_eq_false_iff_ne]; exact h
  have b2 : ((key.size : Int) != n) = true := by rw [bne_iff_ne]; exact hk
  clear h hk
  go_enter Tryz.func23, Tryz.ntmps23
  go_wp2_with fail
  refine (N.out _).mono ?_
  rintro e w1 ⟨rfl, hb⟩
  have B := Aside0.mk hb
  clear hb
  go_wp2_with fail
  go_ret2
  exact ⟨rfl, B.out⟩
set_option maxHeartbeats 4000000 in
set_option maxRecDepth 100000 in
theorem tag_yes (alg m : Int) (hm : m = 1 ∨ m = 2) (ha : alg = 1 ∨ alg = 3) (key s : ByteArray) (hk : (key.size : Int) = wantsN alg m) (hs : s.size ≤ 140737488354000) (w : World) :
    Calls Tryz.prog 23 #[.int .i64 alg, .int .i64 m, .string key, .string s] w fun e w' => e = .returned (.tuple #[.string (T8 (tagX alg m key s)), .int .i64 0]) ∧ Below w.heap.size w w' := by
  have W0 := Aside0.mk (wants_any alg m)
  have hp := padS_size m s
  have hk8 : 8 ≤ key.size := by
    unfold wantsN at hk
    rw [if_pos hm] at hk
    rcases ha with rfl | rfl
    · rw [if_pos rfl] at hk; omega
    · rw [if_neg (by decide), if_pos rfl] at hk; omega
  have P := Aside0.mk (pad_any m hm s (by omega))
  have ha8 : (key.extract 0 8).size = 8 := by rw [ByteArray.size_extract]; omega
  obtain ⟨n, hn⟩ : ∃ n, (padS m s).size = 8 * (n + 1) := ⟨(padS m s).size / 8 - 1, by omega⟩
  have hN := new_yes (key.extract 0 8) (kind8 _ ha8)
  have hC := fun g W hg => chain_yes g (key.extract 0 8).data.toList (lst (zeros 8)) (padS m s) rfl hp.1 (by omega) W hg
  rw [zeros8_bits] at hC
  have hL := last_block (cbcB (key.extract 0 8).data.toList (bitsN 64 0) (padS m s)) (padS m s) n hn
  have hcz := blocksStr_size (cbcB (key.extract 0 8).data.toList (bitsN 64 0) (padS m s)) (padS m s) hp.1
  have hE : cbcB (key.extract 0 8).data.toList (bitsN 64 0) (padS m s) n = cbcEnd (key.extract 0 8).data.toList (padS m s) := by
    unfold cbcEnd; rw [hn]; congr 1; omega
  rw [hE] at hL
  have hEl := cbcEnd_length (key.extract 0 8).data.toList (padS m s) hp.1 hp.2.1
  have hX : tagX alg m key s = if alg = 1 then cbcEnd (key.extract 0 8).data.toList (padS m s) else turnB (key.extract 0 8).data.toList false (turnB (key.extract 8 key.size).data.toList true (cbcEnd (key.extract 0 8).data.toList (padS m s))) := rfl
  have sa := fun W => sl_to key 8 hk8 W 8 rfl
  have sb := fun W => sl_from key 8 hk8 W 8 rfl
  have hb8 : alg = 3 → (key.extract 8 key.size).size = 8 := by
    intro h3; subst h3
    rw [ByteArray.size_extract]
    unfold wantsN at hk
    rw [if_pos hm, if_neg (by decide), if_pos rfl] at hk
    omega
  have R := Aside0.mk (repeat_any 8 (by decide))
  generalize cbcEnd (key.extract 0 8).data.toList (padS m s) = L at *
  generalize blocksStr (cbcB (key.extract 0 8).data.toList (bitsN 64 0) (padS m s)) (padS m s) = c at *
  generalize key.extract 0 8 = ka at *
  generalize key.extract 8 key.size = kb at *
  generalize padS m s = p at *
  have sc := fun W => sl_from c (p.size - 8) (by omega) W ((c.size : Int) - 8) (by omega)
  rw [hL] at sc
  have hcm : c.size ≤ 140737488355000 := by omega
  have b1 : ((key.size : Int) != wantsN alg m) = false := by rw [bne_eq_false_iff_eq]; exact hk
  have N := Aside0.mk hN
  have C := Aside0.mk hC
  have HX := Aside0.mk hX
  have h1 : wantsN alg m = 8 ∨ wantsN alg m = 16 := by
    unfold wantsN; rw [if_pos hm]
    rcases ha with rfl | rfl
    · exact .inl rfl
    · exact .inr rfl
  have b0 : (wantsN alg m == 0) = false := by rw [beq_eq_false_iff_ne]; omega
  have T := Aside0.mk (fun g W hg (h3 : alg = 3) => turned_any g ka kb (hb8 h3) L hEl W hg)
  have h8l : c.size = p.size := hcz
  have h8c : 8 ≤ c.size := by omega
  generalize wantsN alg m = wn at *
  clear hk hN hC hX hL hE hEl ha8 hb8 hn hcz hp hk8 hs h1 h8l
  rcases ha with rfl | rfl
  · rw [HX.out, if_pos rfl]
    go_enter Tryz.func23, Tryz.ntmps23
    go_wp2_with fail
    refine (W0.out _).mono ?_
    rintro e w1 ⟨rfl, hb⟩
    have B := Aside0.mk hb
    clear hb
    go_wp2_with fail
    refine (N.out _).mono ?_
    rintro e w2 ⟨g, rfl, hge, hg, hb⟩
    replace B := Aside0.mk (B.out.trans (hb.mono B.out.size))
    have G := Aside0.mk hg
    clear hb hg hge N
    go_wp2_with fail
    refine (P.out _).mono ?_
    rintro e w3 ⟨rfl, hb⟩
    replace B := Aside0.mk (B.out.trans (hb.mono B.out.size))
    replace G := Aside0.mk (G.out.step hb)
    clear hb
    go_wp2_with fail
    refine (R.out _).mono ?_
    rintro e w4 ⟨rfl, hb⟩
    replace B := Aside0.mk (B.out.trans (hb.mono B.out.size))
    replace G := Aside0.mk (G.out.step hb)
    clear hb
    go_wp2_with fail
    refine (C.out g _ G.out).mono ?_
    rintro e w5 ⟨rfl, hb⟩
    replace B := Aside0.mk (B.out.trans (hb.mono B.out.size))
    replace G := Aside0.mk (G.out.step hb)
    clear hb
    go_wp2_with fail
    go_ret2
    exact ⟨rfl, B.out⟩
  · rw [HX.out, if_neg (by decide)]
    go_enter Tryz.func23, Tryz.ntmps23
    go_wp2_with fail
    refine (W0.out _).mono ?_
    rintro e w1 ⟨rfl, hb⟩
    have B := Aside0.mk hb
    clear hb
    go_wp2_with fail
    refine (N.out _).mono ?_
    rintro e w2 ⟨g, rfl, hge, hg, hb⟩
    replace B := Aside0.mk (B.out.trans (hb.mono B.out.size))
    have G := Aside0.mk hg
    clear hb hg hge N
    go_wp2_with fail
    refine (P.out _).mono ?_
    rintro e w3 ⟨rfl, hb⟩
    replace B := Aside0.mk (B.out.trans (hb.mono B.out.size))
    replace G := Aside0.mk (G.out.step hb)
    clear hb
    go_wp2_with fail
    refine (R.out _).mono ?_
    rintro e w4 ⟨rfl, hb⟩
    replace B := Aside0.mk (B.out.trans (hb.mono B.out.size))
    replace G := Aside0.mk (G.out.step hb)
    clear hb
    go_wp2_with fail
    refine (C.out g _ G.out).mono ?_
    rintro e w5 ⟨rfl, hb⟩
    replace B := Aside0.mk (B.out.trans (hb.mono B.out.size))
    replace G := Aside0.mk (G.out.step hb)
    clear hb
    go_wp2_with fail
    refine (T.out g _ G.out (by trivial)).mono ?_
    rintro e w6 ⟨rfl, hb⟩
    replace B := Aside0.mk (B.out.trans (hb.mono B.out.size))
    clear hb
    go_wp2_with fail
    go_ret2
    exact ⟨rfl, B.out⟩
/-- What Tag answers, of any arguments. -/
def tagT (alg m : Int) (key s : ByteArray) : ByteArray := if wantsN alg m ≠ 0 ∧ (key.size : Int) = wantsN alg m then T8 (tagX alg m key s) else ⟨#[]⟩
def tagE (alg m : Int) (key : ByteArray) : Int := if wantsN alg m = 0 then 1 else if (key.size : Int) = wantsN alg m then 0 else 30
theorem wants_ok {alg m : Int} (h : wantsN alg m ≠ 0) : (m = 1 ∨ m = 2) ∧ (alg = 1 ∨ alg = 3) := by
  unfold wantsN at h
  by_cases hm : m = 1 ∨ m = 2
  · rw [if_pos hm] at h
    refine ⟨hm, ?_⟩
    by_cases h1 : alg = 1
    · exact .inl h1
    · rw [if_neg h1] at h
      by_cases h3 : alg = 3
      · exact .inr h3
      · rw [if_neg h3] at h; exact absurd rfl h
  · rw [if_neg hm] at h; exact absurd rfl h
theorem tag_all (alg m : Int) (key s : ByteArray) (hs : s.size ≤ 140737488354000) (w : World) :
    Calls Tryz.prog 23 #[.int .i64 alg, .int .i64 m, .string key, .string s] w fun e w' => e = .returned (.tuple #[.string (tagT alg m key s), .int .i64 (tagE alg m key)]) ∧ Below w.heap.size w w' := by
  unfold tagT tagE
  by_cases h : wantsN alg m = 0
  · rw [if_neg (fun x => x.1 h), if_pos h]; exact tag_arg alg m h key s w
  · rw [if_neg h]
    by_cases hk : (key.size : Int) = wantsN alg m
    · rw [if_pos ⟨h, hk⟩, if_pos hk]; exact tag_yes alg m (wants_ok h).1 (wants_ok h).2 key s hk hs w
    · rw [if_neg (fun x => hk x.2), if_neg hk]; exact tag_key alg m h key s hk w
end Go.Proofs.YtopobangjpehnaaGreat.Seal
