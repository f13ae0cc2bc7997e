/- The law's own small functions: pick, fit, whole, over, some; and under: what is encrypted under a key. -/
import Derived.Test.YtopobangjpehnaaKnown
import Derived.Test.YtopobangjpehnaaPrB
set_option linter.unusedVariables false
set_option linter.unusedSimpArgs false
namespace Go.Proofs.Ytopobangjpehnaa.Walk
open Go.RowKit Go.Proofs.YtopobangjpehnaaW.PrintWords Go.Proofs.YtopobangjpehnaaW.PrintLast Go.Proofs.YtopobangjpehnaaW.PrintMore Pr Des Num

theorem pick_any (c n : Int) (hc : -9223372036854775808 ≤ c ∧ c ≤ 9223372036854775807) (hn : 1 ≤ n) (hn2 : n ≤ 1000) :
    ∃ r : Nat, (r : Int) < n ∧ ∀ W : World, Calls Try.prog 22 #[.int .i64 c, .int .i64 n] W fun e w' => e = .returned (.int .i64 (r : Int)) ∧ Below W.heap.size W w' := by
  have h : ∃ r : Int, 0 ≤ r ∧ r < n ∧ turnstilelaw3_pick.f c n = some r := by
    unfold turnstilelaw3_pick.f
    by_cases h0 : c < 0
    · have e1 : wrap64 (c + 1) = c + 1 := by unfold wrap64; omega
      have e2 : wrap64 (-(c + 1)) = -(c + 1) := by unfold wrap64; omega
      rw [if_pos h0, if_neg (by omega), e1, e2]
      exact ⟨_, Int.tmod_nonneg _ (by omega), Int.tmod_lt_of_pos _ (by omega), rfl⟩
    · rw [if_neg h0, if_neg (by omega)]
      exact ⟨_, Int.tmod_nonneg _ (by omega), Int.tmod_lt_of_pos _ (by omega), rfl⟩
  obtain ⟨r, h1, h2, h3⟩ := h
  obtain ⟨m, rfl⟩ := Int.eq_ofNat_of_zero_le h1
  exact ⟨m, h2, fun W => (turnstilelaw3_pick.calls c n _ W h3).mono fun e w' ⟨he, hd⟩ => ⟨he, hd.below⟩⟩

theorem fit_go (n : Nat) (hn : n ≤ 24) : ∀ d (i k : Nat) (s : ByteArray), i + d = max i n → s.size = i → i ≤ 140737488355000 → d < k →
    ∃ r : ByteArray, r.size = n ∧ turnstilelaw3_fit.l0 k s (n : Int) (i : Int) = some r := by
  intro d
  induction d with
  | zero =>
    intro i k s hi hs hm hk
    obtain ⟨k, rfl⟩ : ∃ m, k = m + 1 := ⟨k - 1, by omega⟩
    refine ⟨s.extract 0 n, ?_, ?_⟩
    · rw [ByteArray.size_extract]; omega
    · rw [turnstilelaw3_fit.l0, if_neg (by omega), if_pos (by omega), if_pos (by omega)]
      rfl
  | succ d ih =>
    intro i k s hi hs hm hk
    obtain ⟨k, rfl⟩ : ∃ m, k = m + 1 := ⟨k - 1, by omega⟩
    have hlt : i < n := by omega
    have hsz : ∀ x : Int, (strOfNums [x]).size = 1 := fun x => rfl
    have hw : wrap64 ((i : Int) + 1) = ((i + 1 : Nat) : Int) := by rw [w64_id (by omega) (by omega)]; omega
    obtain ⟨r, h1, h2⟩ := ih (i + 1) k (s ++ strOfNums [wrap64 (97 + Int.tmod (i : Int) 26) % 256]) (by omega) (by rw [ByteArray.size_append, hsz, hs]) (by omega) (by omega)
    refine ⟨r, h1, ?_⟩
    rw [turnstilelaw3_fit.l0, if_pos (by omega), Option.bind_some, hw, if_pos (by rw [hsz]; omega)]
    exact h2
theorem fit_any (s : ByteArray) (n : Int) (h0 : 0 ≤ n) (hn : n ≤ 24) (hs : s.size ≤ 140737488355000) :
    ∃ r : ByteArray, r.size = n.toNat ∧ ∀ W : World, Calls Try.prog 21 #[.string s, .int .i64 n] W fun e w' => e = .returned (.string r) ∧ Below W.heap.size W w' := by
  obtain ⟨m, rfl⟩ := Int.eq_ofNat_of_zero_le h0
  obtain ⟨r, h1, h2⟩ := fit_go m (by omega) (max s.size m - s.size) s.size 25 s (by omega) rfl hs (by omega)
  exact ⟨r, h1, fun W => turnstilelaw3_fit.calls 25 s _ r W h2⟩

theorem whole_any (s : ByteArray) (m : Nat) (hm : m ≤ 1000) (hs : s.size ≤ 140737488355000) :
    ∃ r : ByteArray, r.size % 8 = 0 ∧ r.size ≤ 8 * m ∧ ∀ W : World, Calls Try.prog 23 #[.string s, .int .i64 (m : Int)] W fun e w' => e = .returned (.string r) ∧ Below W.heap.size W w' := by
  have h : ∃ r : ByteArray, r.size % 8 = 0 ∧ r.size ≤ 8 * m ∧ turnstilelaw3_whole.f s (m : Int) = some r := by
    unfold turnstilelaw3_whole.f
    have e1 : wrap64 ((s.size : Int) / 8) = ((s.size / 8 : Nat) : Int) := by rw [w64_id (by omega) (by omega)]; omega
    have e2 : wrap64 (8 * (m : Int)) = ((8 * m : Nat) : Int) := by rw [w64_id (by omega) (by omega)]; omega
    have e3 : wrap64 (8 * ((s.size / 8 : Nat) : Int)) = ((8 * (s.size / 8) : Nat) : Int) := by rw [w64_id (by omega) (by omega)]; omega
    rw [e1, e2, e3]
    by_cases h1 : ((s.size / 8 : Nat) : Int) > (m : Int)
    · rw [if_pos h1, if_pos (by omega), if_pos (by omega)]
      exact ⟨_, by rw [ByteArray.size_extract]; omega, by rw [ByteArray.size_extract]; omega, rfl⟩
    · rw [if_neg h1, if_pos (by omega), if_pos (by omega)]
      exact ⟨_, by rw [ByteArray.size_extract]; omega, by rw [ByteArray.size_extract]; omega, rfl⟩
  obtain ⟨r, h1, h2, h3⟩ := h
  exact ⟨r, h1, h2, fun W => (turnstilelaw3_whole.calls s _ r W h3).mono fun e w' ⟨he, hd⟩ => ⟨he, hd.below⟩⟩

/-- All bits turned. -/
def overL (l : List UInt8) : List UInt8 := l.map fun b => b ^^^ 255
def overS (s : ByteArray) : ByteArray := ⟨(overL s.data.toList).toArray⟩
theorem overS_size (s : ByteArray) : (overS s).size = s.size := by
  show (overL s.data.toList).toArray.size = s.data.size
  simp [overL]
theorem xor_u8 : ∀ b : UInt8, Go.bits .xor .u8 ((b.toNat : Nat) : Int) 255 = (((b ^^^ 255).toNat : Nat) : Int) := by
  have h : ∀ n : Fin 256, Go.bits .xor .u8 ((n : Nat) : Int) 255 = (((UInt8.ofNat n ^^^ 255).toNat : Nat) : Int) := by decide +kernel
  intro b
  have := h ⟨b.toNat, b.toNat_lt⟩
  simpa using this
theorem over_go (s : ByteArray) (hs : s.size ≤ 100000) : ∀ d (i k : Nat), i + d = s.size → d < k →
    turnstilelaw3_over.l0 k s (ints (overL (s.data.toList.take i))) (i : Int) = some (overS s) := by
  intro d
  induction d with
  | zero =>
    intro i k hi hk
    obtain ⟨k, rfl⟩ : ∃ m, k = m + 1 := ⟨k - 1, by omega⟩
    rw [turnstilelaw3_over.l0, if_neg (by omega), strOfNums_ints, List.take_of_length_le (by rw [Array.length_toList]; show s.size ≤ i; omega)]
    rfl
  | succ d ih =>
    intro i k hi hk
    obtain ⟨k, rfl⟩ : ∃ m, k = m + 1 := ⟨k - 1, by omega⟩
    have hlt : i < s.data.toList.length := by rw [Array.length_toList]; show i < s.size; omega
    have hw : wrap64 ((i : Int) + 1) = ((i + 1 : Nat) : Int) := by rw [w64_id (by omega) (by omega)]; omega
    have hbt : bt s (i : Int) = ((s.data.toList[i].toNat : Nat) : Int) := by
      unfold bt
      rw [dif_pos (by simp; omega)]
      rfl
    have hsn : ints (overL (s.data.toList.take i)) ++ [(((s.data.toList[i] ^^^ 255).toNat : Nat) : Int)] = ints (overL (s.data.toList.take (i + 1))) := by
      rw [List.take_succ_eq_append_getElem hlt]; simp [ints, overL]
    have hlen : (ints (overL (s.data.toList.take i))).length < 140737488355328 := by
      simp only [ints, overL, List.length_map, List.length_take]; omega
    have c1 : (i : Int) < (s.size : Int) := by omega
    have c2 : (0 : Int) ≤ (i : Int) := by omega
    rw [turnstilelaw3_over.l0, if_pos c1, if_pos c2, if_pos hlen, hbt, xor_u8, hsn, hw]
    exact ih (i + 1) k (by omega) (by omega)
theorem over_any (s : ByteArray) (hs : s.size ≤ 100000) (W : World) :
    Calls Try.prog 25 #[.string s] W fun e w' => e = .returned (.string (overS s)) ∧ Below W.heap.size W w' :=
  turnstilelaw3_over.calls (s.size + 1) s (overS s) W (over_go s hs s.size 0 (s.size + 1) (by omega) (by omega))

def someS (s : ByteArray) (m : Nat) : ByteArray := if s.size > m then s.extract 0 m else s
theorem someS_size (s : ByteArray) (m : Nat) : (someS s m).size ≤ m := by
  unfold someS
  split
  · rw [ByteArray.size_extract]; omega
  · omega
theorem some_any (s : ByteArray) (m : Nat) (W : World) :
    Calls Try.prog 31 #[.string s, .int .i64 (m : Int)] W fun e w' => e = .returned (.string (someS s m)) ∧ Below W.heap.size W w' := by
  refine (turnstilelaw3_some.calls s (m : Int) (someS s m) W ?_).mono fun e w' ⟨he, hd⟩ => ⟨he, hd.below⟩
  unfold turnstilelaw3_some.f someS
  by_cases h : s.size > m
  · rw [if_pos (by omega), if_pos (by omega), if_pos (by omega), if_pos h]; rfl
  · rw [if_neg (by omega), if_neg h]

/-! ### under -/
theorem kind_of_size {s : ByteArray} (h : s.size = 8 ∨ s.size = 16 ∨ s.size = 24) : 1 ≤ kindOf s.data.toList ∧ s.size = 8 * kindOf s.data.toList := by
  have e : s.data.toList.length = s.size := by rw [Array.length_toList]; rfl
  unfold kindOf
  rw [e]
  rcases h with h | h | h <;> rw [h] <;> decide
/-- What is encrypted under a key. -/
def underS (key s : ByteArray) : ByteArray := blocksStr (ecbB key.data.toList false s) s
set_option maxHeartbeats 1000000 in
set_option maxRecDepth 100000 in
theorem under_any (key s : ByteArray) (hk : key.size = 8 ∨ key.size = 16 ∨ key.size = 24) (hs : s.size % 8 = 0) (hm : s.size ≤ 140737488355000) (w : World) :
    Calls Try.prog 24 #[.string key, .string s] w fun e w' => e = .returned (.string (underS key s)) ∧ Below w.heap.size w w' := by
  have HN := Aside0.mk (new_yes key (kind_of_size hk).1)
  have HE := Aside0.mk (fun g (W : World) hg => encrypt_yes g key.data.toList s hs hm W hg)
  clear hk hs hm
  go_enter Try.func24, Try.ntmps24
  go_wp2_with fail
  refine (HN.out _).mono ?_
  rintro e w1 ⟨g, rfl, hge, hg, hb1⟩
  have B1 := Aside0.mk hb1
  have G1 := Aside0.mk hg
  clear hb1 hg hge HN
  go_wp2_with fail
  refine (HE.out g w1 G1.out).mono ?_
  rintro e w2 ⟨rfl, hb2⟩
  replace B1 := Aside0.mk (B1.out.trans (hb2.mono B1.out.size))
  clear hb2 HE G1
  go_wp2_with fail
  go_ret
  exact ⟨rfl, B1.out⟩
end Go.Proofs.Ytopobangjpehnaa.Walk
