/- Filling, tags, the document's own, and the walk of the law SealTags. -/
import Derived.Test.YtopobangjpehnaaShelf
import Derived.Test.YtopobangjpehnaaPrF
import Derived.Test.YtopobangjpehnaaPrG
import Derived.Test.YtopobangjpehnaaEachLaw
import Derived.Test.YtopobangjpehnaaPrM
import Derived.StillTailTactics
import Derived.Test.YtopobangjpehnaaRefC
set_option linter.unusedVariables false
set_option linter.unusedSimpArgs false
namespace Go.Proofs.Ytopobangjpehnaa.Seal
open Go.RowKit Go.Proofs.YtopobangjpehnaaW.PrintWords Go.Proofs.YtopobangjpehnaaW.PrintLast Go.Proofs.YtopobangjpehnaaW.PrintMore Pr Des Num Walk

/-- Noughts behind a text. -/
def zeros (n : Nat) : List UInt8 := List.replicate n 0
def fillL (t : List UInt8) : List UInt8 := if t = [] then zeros 8 else t ++ zeros ((8 - t.length % 8) % 8)
def padL (m : Int) (l : List UInt8) : List UInt8 := fillL (if m = 2 then l ++ [128] else l)
def padS (m : Int) (s : ByteArray) : ByteArray := lst (padL m s.data.toList)
theorem slen (s : ByteArray) : s.data.toList.length = s.size := by rw [Array.length_toList]; rfl
theorem fillL_length (t : List UInt8) : (fillL t).length % 8 = 0 ∧ 8 ≤ (fillL t).length ∧ t.length ≤ (fillL t).length ∧ (fillL t).length ≤ t.length + 8 := by
  unfold fillL zeros
  split
  · rename_i h; subst h; simp
  · rename_i h
    have h0 : 0 < t.length := List.length_pos_iff.2 h
    rw [List.length_append, List.length_replicate]
    omega
theorem padS_size (m : Int) (s : ByteArray) : (padS m s).size % 8 = 0 ∧ 8 ≤ (padS m s).size ∧ s.size ≤ (padS m s).size ∧ (padS m s).size ≤ s.size + 9 := by
  have h := fillL_length (if m = 2 then s.data.toList ++ [128] else s.data.toList)
  unfold padS padL
  rw [lst_size]
  have e := slen s
  split at h
  · rename_i hm; rw [List.length_append, e] at h; simp only [List.length_singleton] at h; rw [if_pos hm]; omega
  · rename_i hm; rw [e] at h; rw [if_neg hm]; omega
theorem repeatL_zero (c : Nat) : Lib.repeatL [0] c = zeros c := by
  rw [show ([0] : List UInt8) = List.replicate 1 0 from rfl, Lib.repeatL_replicate, Nat.mul_one]; rfl
theorem repeat_any (c : Nat) (hc : c ≤ 8) (w : World) :
    Calls Try.prog 56 #[.string ⟨#[0]⟩, .int .i64 (c : Int)] w fun e w' => e = .returned (.string (lst (zeros c))) ∧ Below w.heap.size w w' := by
  have h := Try.strings_Repeat ⟨#[0]⟩ c w (by omega) (by show 1 * c ≤ _; omega)
  rw [show (⟨#[0]⟩ : ByteArray).data.toList = [0] from rfl, repeatL_zero] at h
  exact h
theorem lst_self (s : ByteArray) : lst s.data.toList = s := byteArray_ext rfl
theorem lst_app (s : ByteArray) (l : List UInt8) : s ++ lst l = lst (s.data.toList ++ l) := by rw [← lst_append, lst_self]

set_option maxHeartbeats 2000000 in
set_option maxRecDepth 100000 in
theorem pad_no (m : Int) (h1 : m ≠ 1) (h2 : m ≠ 2) (s : ByteArray) (w : World) :
    Calls Try.prog 26 #[.int .i64 m, .string s] w fun e w' => e = .returned (.tuple #[.string ⟨#[]⟩, .int .i64 1]) ∧ Below w.heap.size w w' := by
  have b1 : (m == 1) = false := by rw [beq_eq_false_iff_ne]; exact h1
  have b2 : (m == 2) = false := by rw [beq_eq_false_iff_ne]; exact h2
  clear h1 h2
  go_enter Try.func26, Try.ntmps26
  go_wp2_with fail
  go_ret2
  exact ⟨rfl, Below.refl _ _⟩
set_option maxHeartbeats 2000000 in
set_option maxRecDepth 100000 in
theorem pad_one (s : ByteArray) (hm : s.size ≤ 140737488354000) (w : World) :
    Calls Try.prog 26 #[.int .i64 1, .string s] w fun e w' => e = .returned (.tuple #[.string (padS 1 s), .int .i64 0]) ∧ Below w.heap.size w w' := by
  by_cases h0 : s.size = 0
  · have hs : s = ⟨#[]⟩ := byteArray_ext (List.eq_nil_of_length_eq_zero (by rw [slen]; exact h0))
    subst hs
    have hp : padS 1 ⟨#[]⟩ = lst (zeros 8) := rfl
    rw [hp]
    have R := Aside0.mk (repeat_any 8 (by decide))
    clear h0 hm hp
    go_enter Try.func26, Try.ntmps26
    go_wp2_with fail
    refine (R.out _).mono ?_
    rintro e w1 ⟨rfl, hb⟩
    have B := Aside0.mk hb
    clear hb
    go_wp2_with fail
    go_ret2
    exact ⟨rfl, B.out⟩
  · have hne : s.data.toList ≠ [] := fun h => h0 (by rw [← slen, h]; rfl)
    have he : s.toList.isEmpty = false := by rw [ByteArray.toList_eq, List.isEmpty_eq_false_iff]; exact hne
    obtain ⟨c, hc⟩ : ∃ c : Nat, c = (8 - s.size % 8) % 8 := ⟨_, rfl⟩
    have hp : s ++ lst (zeros c) = padS 1 s := by
      rw [lst_app]
      unfold padS padL fillL
      rw [if_neg (show ¬ (1 : Int) = 2 by decide), if_neg hne, slen, hc]
    have R := Aside0.mk (repeat_any c (by omega))
    have hz : (lst (zeros c)).size ≤ 8 := by rw [lst_size]; unfold zeros; rw [List.length_replicate]; omega
    have hcc : Aside0 ((8 - (s.size : Int) % 8) % 8 = (c : Int) ∧ -((s.size : Int) % 8) % 8 = (c : Int)) := ⟨by omega⟩
    clear h0 hne hc
    go_enter Try.func26, Try.ntmps26
    go_wp2_with fail
    rw [hcc.out.1, hcc.out.2]
    refine (R.out _).mono ?_
    rintro e w1 ⟨rfl, hb⟩
    have B := Aside0.mk hb
    clear hb
    go_wp2_with fail
    go_ret2
    exact ⟨rfl, B.out⟩
set_option maxHeartbeats 2000000 in
set_option maxRecDepth 100000 in
theorem pad_two (s : ByteArray) (hm : s.size ≤ 140737488354000) (w : World) :
    Calls Try.prog 26 #[.int .i64 2, .string s] w fun e w' => e = .returned (.tuple #[.string (padS 2 s), .int .i64 0]) ∧ Below w.heap.size w w' := by
  obtain ⟨t, ht⟩ : ∃ t, s ++ ⟨#[128]⟩ = t := ⟨_, rfl⟩
  have htl : t.data.toList = s.data.toList ++ [128] := by rw [← ht, ByteArray.data_append]; simp
  have hts : t.size = s.size + 1 := by rw [← slen, htl, List.length_append, slen]; rfl
  obtain ⟨c, hc⟩ : ∃ c : Nat, c = (8 - t.size % 8) % 8 := ⟨_, rfl⟩
  have hp : t ++ lst (zeros c) = padS 2 s := by
    rw [lst_app]
    unfold padS padL fillL
    rw [if_pos rfl, ← htl, if_neg (fun h => by rw [← slen, h] at hts; simp at hts), slen, hc]
  have R := Aside0.mk (repeat_any c (by omega))
  have hz : (lst (zeros c)).size ≤ 8 := by rw [lst_size]; unfold zeros; rw [List.length_replicate]; omega
  have hcc : Aside0 ((8 - (t.size : Int) % 8) % 8 = (c : Int) ∧ -((t.size : Int) % 8) % 8 = (c : Int)) := ⟨by omega⟩
  have hm2 : t.size ≤ 140737488354001 := by omega
  clear hc htl hts
  go_enter Try.func26, Try.ntmps26
  go_wp2_with fail
  rw [hcc.out.1, hcc.out.2]
  refine (R.out _).mono ?_
  rintro e w1 ⟨rfl, hb⟩
  have B := Aside0.mk hb
  clear hb
  go_wp2_with fail
  go_ret2
  exact ⟨rfl, B.out⟩
theorem pad_any (m : Int) (h : m = 1 ∨ m = 2) (s : ByteArray) (hm : s.size ≤ 140737488354000) (w : World) :
    Calls Try.prog 26 #[.int .i64 m, .string s] w fun e w' => e = .returned (.tuple #[.string (padS m s), .int .i64 0]) ∧ Below w.heap.size w w' := by
  rcases h with rfl | rfl
  · exact pad_one s hm w
  · exact pad_two s hm w

/-! ### The document's own -/
theorem rpad_go : ∀ (d k : Nat) (t : ByteArray), t.size ≤ 140737488355000 → t.size ≠ 0 → (8 - t.size % 8) % 8 = d → d < k →
    turnstileref4_Pad.l0 k t = some (lst (t.data.toList ++ zeros d), 0) := by
  intro d
  induction d with
  | zero =>
    intro k t hm h0 hd hk
    obtain ⟨k, rfl⟩ : ∃ m, k = m + 1 := ⟨k - 1, by omega⟩
    rw [turnstileref4_Pad.l0, if_pos (by omega), if_neg (by omega)]
    rw [show zeros 0 = [] from rfl, List.append_nil, lst_self]
  | succ d ih =>
    intro k t hm h0 hd hk
    obtain ⟨k, rfl⟩ : ∃ m, k = m + 1 := ⟨k - 1, by omega⟩
    have hl : (t ++ (⟨#[0]⟩ : ByteArray)).data.toList = t.data.toList ++ [0] := by rw [ByteArray.data_append]; simp
    have hz : (t ++ (⟨#[0]⟩ : ByteArray)).size = t.size + 1 := by rw [← slen, hl, List.length_append, slen]; rfl
    have hn := ih k (t ++ (⟨#[0]⟩ : ByteArray)) (by omega) (by omega) (by omega) (by omega)
    rw [turnstileref4_Pad.l0, if_neg (by omega), if_pos (by omega), hn, hl, List.append_assoc]
    rfl
theorem rpad_fill (t : ByteArray) (hm : t.size ≤ 140737488354500) (k : Nat) (hk : 10 < k) : turnstileref4_Pad.l0 k t = some (lst (fillL t.data.toList), 0) := by
  by_cases h0 : t.size = 0
  · have ht : t = ⟨#[]⟩ := byteArray_ext (List.eq_nil_of_length_eq_zero (by rw [slen]; exact h0))
    subst ht
    obtain ⟨k, rfl⟩ : ∃ m, k = m + 1 := ⟨k - 1, by omega⟩
    rw [turnstileref4_Pad.l0, if_pos (by decide), if_pos (by decide), if_pos (by decide)]
    have := rpad_go 7 k ((⟨#[]⟩ : ByteArray) ++ (⟨#[0]⟩ : ByteArray)) (by decide) (by decide) (by decide) (by omega)
    rw [this]
    rfl
  · rw [rpad_go _ k t (by omega) h0 rfl (by omega)]
    unfold fillL
    rw [if_neg (fun h => h0 (by rw [← slen, h]; rfl)), slen]
theorem refPad_yes (m : Int) (h : m = 1 ∨ m = 2) (s : ByteArray) (hm : s.size ≤ 140737488354000) (w : World) :
    Calls Try.prog 27 #[.int .i64 m, .string s] w fun e w' => e = .returned (.tuple #[.string (padS m s), .int .i64 0]) ∧ Below w.heap.size w w' := by
  refine (turnstileref4_Pad.calls 20 m s (padS m s) 0 w ?_).mono fun e w' ⟨he, hd⟩ => ⟨he, hd.below⟩
  unfold turnstileref4_Pad.f padS padL
  rcases h with rfl | rfl
  · rw [if_pos rfl, if_pos (by omega), turnstileref4_Pad.j0, rpad_fill _ (by rw [ByteArray.size_append]; show s.size + 0 ≤ _; omega) 19 (by decide), ByteArray.data_append]
    simp
  · rw [if_neg (by decide), if_pos rfl, if_pos (by omega), turnstileref4_Pad.j0, rpad_fill _ (by rw [ByteArray.size_append]; show s.size + 1 ≤ _; omega) 19 (by decide), ByteArray.data_append]
    simp
theorem refPad_no (m : Int) (h1 : m ≠ 1) (h2 : m ≠ 2) (s : ByteArray) (w : World) :
    Calls Try.prog 27 #[.int .i64 m, .string s] w fun e w' => e = .returned (.tuple #[.string ⟨#[]⟩, .int .i64 1]) ∧ Below w.heap.size w w' := by
  refine (turnstileref4_Pad.calls 20 m s ⟨#[]⟩ 1 w ?_).mono fun e w' ⟨he, hd⟩ => ⟨he, hd.below⟩
  unfold turnstileref4_Pad.f
  rw [if_neg h1, if_neg h2]
/-- What both answer, of any method. -/
def padT (m : Int) (s : ByteArray) : ByteArray := if m = 1 ∨ m = 2 then padS m s else ⟨#[]⟩
def padE (m : Int) : Int := if m = 1 ∨ m = 2 then 0 else 1
theorem pad_all (m : Int) (s : ByteArray) (hm : s.size ≤ 140737488354000) (w : World) :
    Calls Try.prog 26 #[.int .i64 m, .string s] w fun e w' => e = .returned (.tuple #[.string (padT m s), .int .i64 (padE m)]) ∧ Below w.heap.size w w' := by
  unfold padT padE
  by_cases h : m = 1 ∨ m = 2
  · rw [if_pos h, if_pos h]; exact pad_any m h s hm w
  · rw [if_neg h, if_neg h]; exact pad_no m (fun e => h (.inl e)) (fun e => h (.inr e)) s w
theorem refPad_all (m : Int) (s : ByteArray) (hm : s.size ≤ 140737488354000) (w : World) :
    Calls Try.prog 27 #[.int .i64 m, .string s] w fun e w' => e = .returned (.tuple #[.string (padT m s), .int .i64 (padE m)]) ∧ Below w.heap.size w w' := by
  unfold padT padE
  by_cases h : m = 1 ∨ m = 2
  · rw [if_pos h, if_pos h]; exact refPad_yes m h s hm w
  · rw [if_neg h, if_neg h]; exact refPad_no m (fun e => h (.inl e)) (fun e => h (.inr e)) s w

/-! ### Same -/
theorem or_u8s (a b : UInt8) : Go.bits .or .u8 ((a.toNat : Nat) : Int) ((b.toNat : Nat) : Int) = (((a ||| b).toNat : Nat) : Int) := by
  have ha := a.toNat_lt
  have hb := b.toNat_lt
  show IntKind.u8.wrap (((BitVec.ofInt 8 (a.toNat : Int) ||| BitVec.ofInt 8 (b.toNat : Int) : BitVec 8).toNat : Nat) : Int) = _
  rw [BitVec.toNat_or, BitVec.ofInt_natCast, BitVec.ofInt_natCast, BitVec.toNat_ofNat, BitVec.toNat_ofNat, Nat.mod_eq_of_lt ha, Nat.mod_eq_of_lt hb, IntKind.wrap_u8, UInt8.toNat_or]
  have h : a.toNat ||| b.toNat < 2 ^ 8 := Nat.or_lt_two_pow ha hb
  omega
theorem bt_l (s : ByteArray) (i : Nat) (h : i < s.data.toList.length) : bt s (i : Int) = ((s.data.toList[i].toNat : Nat) : Int) := by
  have h' : i < s.size := by rw [Array.length_toList] at h; exact h
  rw [← bt_at s (i : Int) h']
  rfl
theorem same_go (a b : ByteArray) (h : a.size = b.size) (hm : a.size ≤ 140737488355328) : ∀ (d i k : Nat) (c : UInt8), i + d = a.size → d < k →
    seal_Same.l0 k a b ((c.toNat : Nat) : Int) (a.size : Int) (i : Int) = some (decide (c = 0 ∧ a.data.toList.drop i = b.data.toList.drop i)) := by
  intro d
  induction d with
  | zero =>
    intro i k c hi hk
    obtain ⟨k, rfl⟩ : ∃ m, k = m + 1 := ⟨k - 1, by omega⟩
    rw [seal_Same.l0, if_neg (by omega), List.drop_of_length_le (by rw [slen]; omega), List.drop_of_length_le (by rw [slen]; omega)]
    congr 1
    rw [Bool.eq_iff_iff, beq_iff_eq, decide_eq_true_iff]
    constructor
    · intro h0; exact ⟨UInt8.toNat_inj.1 (by have : c.toNat = 0 := by omega
                                             exact this), rfl⟩
    · rintro ⟨rfl, _⟩; rfl
  | succ d ih =>
    intro i k c hi hk
    obtain ⟨k, rfl⟩ : ∃ m, k = m + 1 := ⟨k - 1, by omega⟩
    have ha : i < a.data.toList.length := by rw [slen]; omega
    have hb : i < b.data.toList.length := by rw [slen]; omega
    have hw : wrap64 ((i : Int) + 1) = ((i + 1 : Nat) : Int) := by rw [w64_id (by omega) (by omega)]; omega
    rw [seal_Same.l0, if_pos (by omega), if_pos (by omega), if_pos (by omega), if_pos (by omega), bt_l a i ha, bt_l b i hb, xor_u8s, or_u8s, hw, ih (i + 1) k _ (by omega) (by omega)]
    rw [List.drop_eq_getElem_cons ha, List.drop_eq_getElem_cons hb]
    congr 1
    rw [decide_eq_decide]
    rw [UInt8.or_eq_zero_iff, UInt8.xor_eq_zero_iff, List.cons.injEq]
    constructor
    · rintro ⟨⟨h1, h2⟩, h3⟩; exact ⟨h1, h2, h3⟩
    · rintro ⟨h1, h2, h3⟩; exact ⟨⟨h1, h2⟩, h3⟩
theorem same_any (a b : ByteArray) (hm : a.size ≤ 140737488355328) (w : World) :
    Calls Try.prog 28 #[.string a, .string b] w fun e w' => e = .returned (.bool (decide (a = b))) ∧ Below w.heap.size w w' := by
  refine (seal_Same.calls (a.size + 1) a b _ w ?_).mono fun e w' ⟨he, hd⟩ => ⟨he, hd.below⟩
  unfold seal_Same.f
  by_cases h : a.size = b.size
  · have := same_go a b h hm a.size 0 (a.size + 1) 0 (by omega) (by omega)
    rw [show (((0 : UInt8).toNat : Nat) : Int) = 0 from rfl, show ((0 : Nat) : Int) = 0 from rfl] at this
    rw [if_pos (by omega), this, List.drop_zero, List.drop_zero]
    congr 1
    rw [decide_eq_decide]
    exact ⟨fun ⟨_, h2⟩ => byteArray_ext h2, fun h2 => ⟨rfl, by rw [h2]⟩⟩
  · rw [if_neg (by omega), decide_eq_false (fun e => h (by rw [e]))]
end Go.Proofs.Ytopobangjpehnaa.Seal

set_option linter.unusedVariables false
set_option linter.unusedSimpArgs false
namespace Go.Proofs.Ytopobangjpehnaa.Seal
open Go.RowKit Go.Proofs.YtopobangjpehnaaW.PrintWords Go.Proofs.YtopobangjpehnaaW.PrintLast Go.Proofs.YtopobangjpehnaaW.PrintMore Pr Des Num Walk

/-- Eight bytes, of 64 bits. -/
def T8 (x : List Bool) : ByteArray := lst (bytes8 (num x))
theorem T8_size (x : List Bool) : (T8 x).size = 8 := by unfold T8; rw [lst_size, bytes8_length]
theorem T8_bits (x : List Bool) (h : x.length = 64) : bitsB (T8 x).data.toList = x := by
  unfold T8; rw [lst_list, bitsB_bytes8, (num64 _ h).2]
theorem T8_of (s : ByteArray) (h : s.size = 8) : s = T8 (bitsB s.data.toList) := by
  apply byteArray_ext
  unfold T8
  rw [lst_list, bytes8_bits _ (by rw [Array.length_toList]; exact h)]
theorem T8_inj {x y : List Bool} (hx : x.length = 64) (hy : y.length = 64) (h : T8 x = T8 y) : x = y := by
  rw [← T8_bits x hx, h, T8_bits y hy]
theorem sl_to (s : ByteArray) (n : Nat) (h : n ≤ s.size) (w : World) (k : Int) (hk : k = (n : Int)) :
    (Instr.slice 9 (.string s) none (some (.int .i64 k)) none).run Try.prog w = .ok (.string (s.extract 0 n)) w := by
  subst hk
  rw [run_slice_string_h (P := Try.prog) w 9 s Try.underlying9 .i64 _ (by omega) (by omega)]
  congr 3
theorem sl_from (s : ByteArray) (n : Nat) (h : n ≤ s.size) (w : World) (k : Int) (hk : k = (n : Int)) :
    (Instr.slice 9 (.string s) (some (.int .i64 k)) none none).run Try.prog w = .ok (.string (s.extract n s.size)) w := by
  subst hk
  rw [run_slice_string_l (P := Try.prog) w 9 s Try.underlying9 .i64 _ (by omega) (by omega)]
  congr 3
theorem kind8 (k : ByteArray) (h : k.size = 8) : 1 ≤ kindOf k.data.toList := by unfold kindOf; rw [slen, h]; decide
theorem enc8 (g : Nat) (k : ByteArray) (x : List Bool) (hx : x.length = 64) (W : World) (hg : Blk W g 72 (keyBlock k.data.toList)) :
    Calls Try.prog 40 #[.pointer (some ⟨g, 0, none⟩), .string (T8 x)] W fun e w' => e = .returned (.tuple #[.string (T8 (turnB k.data.toList false x)), .int .i64 0]) ∧ Below W.heap.size W w' := by
  have := encrypt_yes g k.data.toList (T8 x) (by rw [T8_size]) (by rw [T8_size]; decide) W hg
  rw [one_block _ _ _ (T8_size x), T8_bits x hx] at this
  exact this
theorem dec8 (g : Nat) (k : ByteArray) (x : List Bool) (hx : x.length = 64) (W : World) (hg : Blk W g 72 (keyBlock k.data.toList)) :
    Calls Try.prog 52 #[.pointer (some ⟨g, 0, none⟩), .string (T8 x)] W fun e w' => e = .returned (.tuple #[.string (T8 (turnB k.data.toList true x)), .int .i64 0]) ∧ Below W.heap.size W w' := by
  have := decrypt_yes g k.data.toList (T8 x) (by rw [T8_size]) (by rw [T8_size]; decide) W hg
  rw [one_block _ _ _ (T8_size x), T8_bits x hx] at this
  exact this
/-- The part of a text that is the last block. -/
theorem last_block (A : Nat → List Bool) (p : ByteArray) (n : Nat) (hp : p.size = 8 * (n + 1)) : (blocksStr A p).extract (p.size - 8) (blocksStr A p).size = T8 (A n) := by
  have hz := blocksStr_size A p (by omega)
  apply byteArray_ext
  rw [Go.Lib.extract_data, hz, blocksStr_list, show p.size / 8 = n + 1 by omega, outBytes_succ, show p.size - 8 = 8 * n by omega]
  rw [List.drop_append_of_le_length (by rw [outBytes_length]; exact Nat.le_refl _), List.drop_of_length_le (by rw [outBytes_length]; exact Nat.le_refl _), List.nil_append, List.take_of_length_le (by rw [bytes8_length]; omega)]
  rfl
theorem zeros8_bits : bitsB (lst (zeros 8)).data.toList = bitsN 64 0 := by decide +kernel

set_option maxHeartbeats 2000000 in
set_option maxRecDepth 100000 in
theorem turned_any (g : Nat) (k u : ByteArray) (hu : u.size = 8) (x : List Bool) (hx : x.length = 64) (w : World) (hg : Blk w g 72 (keyBlock k.data.toList)) :
    Calls Try.prog 70 #[.pointer (some ⟨g, 0, none⟩), .string u, .string (T8 x)] w fun e w' => e = .returned (.tuple #[.string (T8 (turnB k.data.toList false (turnB u.data.toList true x))), .int .i64 0]) ∧ Below w.heap.size w w' := by
  have N := Aside0.mk (new_yes u (kind8 u hu))
  have D := Aside0.mk (fun g W hg => dec8 g u x hx W hg)
  have E := Aside0.mk (fun W hg => enc8 g k (turnB u.data.toList true x) (turnB_length _ _ _ hx) W hg)
  have G := Aside0.mk hg
  clear hu hx hg
  go_enter Try.func70, Try.ntmps70
  go_wp2_with fail
  refine (N.out _).mono ?_
  rintro e w1 ⟨g1, rfl, hge, hg1, hb⟩
  have B := Aside0.mk hb
  have G1 := Aside0.mk hg1
  replace G := Aside0.mk (G.out.step hb)
  clear hb hg1 hge N
  go_wp2_with fail
  refine (D.out g1 _ G1.out).mono ?_
  rintro e w2 ⟨rfl, hb⟩
  replace B := Aside0.mk (B.out.trans (hb.mono B.out.size))
  replace G := Aside0.mk (G.out.step hb)
  clear hb
  go_wp2_with fail
  refine (E.out _ G.out).mono ?_
  rintro e w3 ⟨rfl, hb⟩
  replace B := Aside0.mk (B.out.trans (hb.mono B.out.size))
  clear hb
  go_wp2_with fail
  go_ret2
  exact ⟨rfl, B.out⟩

/-! ### What a tag is -/
/-- What a chain from noughts comes to at its last block. -/
def cbcEnd (k : List UInt8) (p : ByteArray) : List Bool := cbcB k (bitsN 64 0) p (p.size / 8 - 1)
def tagX (alg m : Int) (key s : ByteArray) : List Bool :=
  if alg = 1 then cbcEnd (key.extract 0 8).data.toList (padS m s)
  else turnB (key.extract 0 8).data.toList false (turnB (key.extract 8 key.size).data.toList true (cbcEnd (key.extract 0 8).data.toList (padS m s)))
theorem cbcEnd_length (k : List UInt8) (p : ByteArray) (h : p.size % 8 = 0) (h8 : 8 ≤ p.size) : (cbcEnd k p).length = 64 :=
  cbcB_length k (bitsN 64 0) (bitsN_length _ _) p (p.size / 8) (by omega) _ (by omega)
theorem tagX_length (alg m : Int) (key s : ByteArray) : (tagX alg m key s).length = 64 := by
  have h := padS_size m s
  have hl := cbcEnd_length (key.extract 0 8).data.toList (padS m s) h.1 h.2.1
  unfold tagX
  split
  · exact hl
  · exact turnB_length _ _ _ (turnB_length _ _ _ hl)
/-- How many bytes a key must have; none: there is no such algorithm, no such method. -/
def wantsN (alg m : Int) : Int := if m = 1 ∨ m = 2 then (if alg = 1 then 8 else if alg = 3 then 16 else 0) else 0
theorem wants_any (alg m : Int) (w : World) : Calls Try.prog 63 #[.int .i64 alg, .int .i64 m] w fun e w' => e = .returned (.int .i64 (wantsN alg m)) ∧ Below w.heap.size w w' := by
  refine (seal_wants.calls 5 alg m (wantsN alg m) w ?_).mono fun e w' ⟨he, hd⟩ => ⟨he, hd.below⟩
  unfold seal_wants.f wantsN
  have hj : ∀ b, seal_wants.j0 5 alg b = if b = true then (some 0) else (if alg = 1 then (some 8) else (if alg = 3 then (some 16) else (some 0))) := fun b => rfl
  have hf : seal_wants.j0 5 alg false = some (if alg = 1 then 8 else if alg = 3 then 16 else 0) := by
    rw [hj, if_neg (by decide)]
    split
    · rfl
    · split <;> rfl
  by_cases h1 : m = 1
  · rw [if_pos h1, if_pos (show m = 1 ∨ m = 2 from .inl h1), hf]
  · rw [if_neg h1]
    by_cases h2 : m = 2
    · subst h2
      rw [show ((2 : Int) != 2) = false from rfl, hf, if_pos (show (2 : Int) = 1 ∨ (2 : Int) = 2 from .inr rfl)]
    · rw [hj, if_pos (by rw [bne_iff_ne]; exact h2), if_neg (show ¬ (m = 1 ∨ m = 2) by omega)]

set_option maxHeartbeats 2000000 in
set_option maxRecDepth 100000 in
theorem tag_arg (alg m : Int) (h : wantsN alg m = 0) (key s : ByteArray) (w : World) :
    Calls Try.prog 44 #[.int .i64 alg, .int .i64 m, .string key, .string s] w fun e w' => e = .returned (.tuple #[.string ⟨#[]⟩, .int .i64 1]) ∧ Below w.heap.size w w' := by
  have N := Aside0.mk (wants_any alg m)
  rw [h] at N
  clear h
  go_enter Try.func44, Try.ntmps44
  go_wp2_with fail
  refine (N.out _).mono ?_
  rintro e w1 ⟨rfl, hb⟩
  have B := Aside0.mk hb
  clear hb
  go_wp2_with fail
  go_ret2
  exact ⟨rfl, B.out⟩
set_option maxHeartbeats 2000000 in
set_option maxRecDepth 100000 in
theorem tag_key (alg m : Int) (h : wantsN alg m ≠ 0) (key s : ByteArray) (hk : (key.size : Int) ≠ wantsN alg m) (w : World) :
    Calls Try.prog 44 #[.int .i64 alg, .int .i64 m, .string key, .string s] w fun e w' => e = .returned (.tuple #[.string ⟨#[]⟩, .int .i64 30]) ∧ Below w.heap.size w w' := by
  have N := Aside0.mk (wants_any alg m)
  generalize wantsN alg m = n at *
  have b1 : (n == 0) = false := by rw [beq_eq_false_iff_ne]; exact h
  have b2 : ((key.size : Int) != n) = true := by rw [bne_iff_ne]; exact hk
  clear h hk
  go_enter Try.func44, Try.ntmps44
  go_wp2_with fail
  refine (N.out _).mono ?_
  rintro e w1 ⟨rfl, hb⟩
  have B := Aside0.mk hb
  clear hb
  go_wp2_with fail
  go_ret2
  exact ⟨rfl, B.out⟩
set_option maxHeartbeats 4000000 in
set_option maxRecDepth 100000 in
theorem tag_yes (alg m : Int) (hm : m = 1 ∨ m = 2) (ha : alg = 1 ∨ alg = 3) (key s : ByteArray) (hk : (key.size : Int) = wantsN alg m) (hs : s.size ≤ 140737488354000) (w : World) :
    Calls Try.prog 44 #[.int .i64 alg, .int .i64 m, .string key, .string s] w fun e w' => e = .returned (.tuple #[.string (T8 (tagX alg m key s)), .int .i64 0]) ∧ Below w.heap.size w w' := by
  have W0 := Aside0.mk (wants_any alg m)
  have hp := padS_size m s
  have hk8 : 8 ≤ key.size := by
    unfold wantsN at hk
    rw [if_pos hm] at hk
    rcases ha with rfl | rfl
    · rw [if_pos rfl] at hk; omega
    · rw [if_neg (by decide), if_pos rfl] at hk; omega
  have P := Aside0.mk (pad_any m hm s (by omega))
  have ha8 : (key.extract 0 8).size = 8 := by rw [ByteArray.size_extract]; omega
  obtain ⟨n, hn⟩ : ∃ n, (padS m s).size = 8 * (n + 1) := ⟨(padS m s).size / 8 - 1, by omega⟩
  have hN := new_yes (key.extract 0 8) (kind8 _ ha8)
  have hC := fun g W hg => chain_yes g (key.extract 0 8).data.toList (lst (zeros 8)) (padS m s) rfl hp.1 (by omega) W hg
  rw [zeros8_bits] at hC
  have hL := last_block (cbcB (key.extract 0 8).data.toList (bitsN 64 0) (padS m s)) (padS m s) n hn
  have hcz := blocksStr_size (cbcB (key.extract 0 8).data.toList (bitsN 64 0) (padS m s)) (padS m s) hp.1
  have hE : cbcB (key.extract 0 8).data.toList (bitsN 64 0) (padS m s) n = cbcEnd (key.extract 0 8).data.toList (padS m s) := by
    unfold cbcEnd; rw [hn]; congr 1; omega
  rw [hE] at hL
  have hEl := cbcEnd_length (key.extract 0 8).data.toList (padS m s) hp.1 hp.2.1
  have hX : tagX alg m key s = if alg = 1 then cbcEnd (key.extract 0 8).data.toList (padS m s) else turnB (key.extract 0 8).data.toList false (turnB (key.extract 8 key.size).data.toList true (cbcEnd (key.extract 0 8).data.toList (padS m s))) := rfl
  have sa := fun W => sl_to key 8 hk8 W 8 rfl
  have sb := fun W => sl_from key 8 hk8 W 8 rfl
  have hb8 : alg = 3 → (key.extract 8 key.size).size = 8 := by
    intro h3; subst h3
    rw [ByteArray.size_extract]
    unfold wantsN at hk
    rw [if_pos hm, if_neg (by decide), if_pos rfl] at hk
    omega
  have R := Aside0.mk (repeat_any 8 (by decide))
  generalize cbcEnd (key.extract 0 8).data.toList (padS m s) = L at *
  generalize blocksStr (cbcB (key.extract 0 8).data.toList (bitsN 64 0) (padS m s)) (padS m s) = c at *
  generalize key.extract 0 8 = ka at *
  generalize key.extract 8 key.size = kb at *
  generalize padS m s = p at *
  have sc := fun W => sl_from c (p.size - 8) (by omega) W ((c.size : Int) - 8) (by omega)
  rw [hL] at sc
  have hcm : c.size ≤ 140737488355000 := by omega
  have b1 : ((key.size : Int) != wantsN alg m) = false := by rw [bne_eq_false_iff_eq]; exact hk
  have N := Aside0.mk hN
  have C := Aside0.mk hC
  have HX := Aside0.mk hX
  have h1 : wantsN alg m = 8 ∨ wantsN alg m = 16 := by
    unfold wantsN; rw [if_pos hm]
    rcases ha with rfl | rfl
    · exact .inl rfl
    · exact .inr rfl
  have b0 : (wantsN alg m == 0) = false := by rw [beq_eq_false_iff_ne]; omega
  have T := Aside0.mk (fun g W hg (h3 : alg = 3) => turned_any g ka kb (hb8 h3) L hEl W hg)
  have h8l : c.size = p.size := hcz
  have h8c : 8 ≤ c.size := by omega
  generalize wantsN alg m = wn at *
  clear hk hN hC hX hL hE hEl ha8 hb8 hn hcz hp hk8 hs h1 h8l
  rcases ha with rfl | rfl
  · rw [HX.out, if_pos rfl]
    go_enter Try.func44, Try.ntmps44
    go_wp2_with fail
    refine (W0.out _).mono ?_
    rintro e w1 ⟨rfl, hb⟩
    have B := Aside0.mk hb
    clear hb
    go_wp2_with fail
    refine (N.out _).mono ?_
    rintro e w2 ⟨g, rfl, hge, hg, hb⟩
    replace B := Aside0.mk (B.out.trans (hb.mono B.out.size))
    have G := Aside0.mk hg
    clear hb hg hge N
    go_wp2_with fail
    refine (P.out _).mono ?_
    rintro e w3 ⟨rfl, hb⟩
    replace B := Aside0.mk (B.out.trans (hb.mono B.out.size))
    replace G := Aside0.mk (G.out.step hb)
    clear hb
    go_wp2_with fail
    refine (R.out _).mono ?_
    rintro e w4 ⟨rfl, hb⟩
    replace B := Aside0.mk (B.out.trans (hb.mono B.out.size))
    replace G := Aside0.mk (G.out.step hb)
    clear hb
    go_wp2_with fail
    refine (C.out g _ G.out).mono ?_
    rintro e w5 ⟨rfl, hb⟩
    replace B := Aside0.mk (B.out.trans (hb.mono B.out.size))
    replace G := Aside0.mk (G.out.step hb)
    clear hb
    go_wp2_with fail
    go_ret2
    exact ⟨rfl, B.out⟩
  · rw [HX.out, if_neg (by decide)]
    go_enter Try.func44, Try.ntmps44
    go_wp2_with fail
    refine (W0.out _).mono ?_
    rintro e w1 ⟨rfl, hb⟩
    have B := Aside0.mk hb
    clear hb
    go_wp2_with fail
    refine (N.out _).mono ?_
    rintro e w2 ⟨g, rfl, hge, hg, hb⟩
    replace B := Aside0.mk (B.out.trans (hb.mono B.out.size))
    have G := Aside0.mk hg
    clear hb hg hge N
    go_wp2_with fail
    refine (P.out _).mono ?_
    rintro e w3 ⟨rfl, hb⟩
    replace B := Aside0.mk (B.out.trans (hb.mono B.out.size))
    replace G := Aside0.mk (G.out.step hb)
    clear hb
    go_wp2_with fail
    refine (R.out _).mono ?_
    rintro e w4 ⟨rfl, hb⟩
    replace B := Aside0.mk (B.out.trans (hb.mono B.out.size))
    replace G := Aside0.mk (G.out.step hb)
    clear hb
    go_wp2_with fail
    refine (C.out g _ G.out).mono ?_
    rintro e w5 ⟨rfl, hb⟩
    replace B := Aside0.mk (B.out.trans (hb.mono B.out.size))
    replace G := Aside0.mk (G.out.step hb)
    clear hb
    go_wp2_with fail
    refine (T.out g _ G.out (by trivial)).mono ?_
    rintro e w6 ⟨rfl, hb⟩
    replace B := Aside0.mk (B.out.trans (hb.mono B.out.size))
    clear hb
    go_wp2_with fail
    go_ret2
    exact ⟨rfl, B.out⟩
/-- What Tag answers, of any arguments. -/
def tagT (alg m : Int) (key s : ByteArray) : ByteArray := if wantsN alg m ≠ 0 ∧ (key.size : Int) = wantsN alg m then T8 (tagX alg m key s) else ⟨#[]⟩
def tagE (alg m : Int) (key : ByteArray) : Int := if wantsN alg m = 0 then 1 else if (key.size : Int) = wantsN alg m then 0 else 30
theorem wants_ok {alg m : Int} (h : wantsN alg m ≠ 0) : (m = 1 ∨ m = 2) ∧ (alg = 1 ∨ alg = 3) := by
  unfold wantsN at h
  by_cases hm : m = 1 ∨ m = 2
  · rw [if_pos hm] at h
    refine ⟨hm, ?_⟩
    by_cases h1 : alg = 1
    · exact .inl h1
    · rw [if_neg h1] at h
      by_cases h3 : alg = 3
      · exact .inr h3
      · rw [if_neg h3] at h; exact absurd rfl h
  · rw [if_neg hm] at h; exact absurd rfl h
theorem tag_all (alg m : Int) (key s : ByteArray) (hs : s.size ≤ 140737488354000) (w : World) :
    Calls Try.prog 44 #[.int .i64 alg, .int .i64 m, .string key, .string s] w fun e w' => e = .returned (.tuple #[.string (tagT alg m key s), .int .i64 (tagE alg m key)]) ∧ Below w.heap.size w w' := by
  unfold tagT tagE
  by_cases h : wantsN alg m = 0
  · rw [if_neg (fun x => x.1 h), if_pos h]; exact tag_arg alg m h key s w
  · rw [if_neg h]
    by_cases hk : (key.size : Int) = wantsN alg m
    · rw [if_pos ⟨h, hk⟩, if_pos hk]; exact tag_yes alg m (wants_ok h).1 (wants_ok h).2 key s hk hs w
    · rw [if_neg (fun x => hk x.2), if_neg hk]; exact tag_key alg m h key s hk w
end Go.Proofs.Ytopobangjpehnaa.Seal

set_option linter.unusedVariables false
set_option linter.unusedSimpArgs false
namespace Go.Proofs.Ytopobangjpehnaa.Seal
open Go.RowKit Go.Proofs.YtopobangjpehnaaW.PrintWords Go.Proofs.YtopobangjpehnaaW.PrintLast Go.Proofs.YtopobangjpehnaaW.PrintMore Pr Des Num Walk

theorem pick4_any (c n : Int) (hc : -9223372036854775808 ≤ c ∧ c ≤ 9223372036854775807) (hn : 1 ≤ n) (hn2 : n ≤ 9223372036854775807) :
    ∃ r : Nat, (r : Int) < n ∧ ∀ W : World, Calls Try.prog 35 #[.int .i64 c, .int .i64 n] W fun e w' => e = .returned (.int .i64 (r : Int)) ∧ Below W.heap.size W w' := by
  have h : ∃ r : Int, 0 ≤ r ∧ r < n ∧ turnstilelaw4_pick.f c n = some r := by
    unfold turnstilelaw4_pick.f
    by_cases h0 : c < 0
    · have e1 : wrap64 (c + 1) = c + 1 := by unfold wrap64; omega
      have e2 : wrap64 (-(c + 1)) = -(c + 1) := by unfold wrap64; omega
      rw [if_pos h0, if_neg (by omega), e1, e2]
      exact ⟨_, Int.tmod_nonneg _ (by omega), Int.tmod_lt_of_pos _ (by omega), rfl⟩
    · rw [if_neg h0, if_neg (by omega)]
      exact ⟨_, Int.tmod_nonneg _ (by omega), Int.tmod_lt_of_pos _ (by omega), rfl⟩
  obtain ⟨r, h1, h2, h3⟩ := h
  obtain ⟨m, rfl⟩ := Int.eq_ofNat_of_zero_le h1
  exact ⟨m, h2, fun W => (turnstilelaw4_pick.calls c n _ W h3).mono fun e w' ⟨he, hd⟩ => ⟨he, hd.below⟩⟩

/-- Bytes as cells. -/
def bcells (l : List UInt8) : Array Value := (l.map fun b => Value.int .u8 ((b.toNat : Nat) : Int)).toArray
theorem bcells_set (l : List UInt8) (i : Nat) (b : UInt8) : (bcells l).setIfInBounds i (.int .u8 ((b.toNat : Nat) : Int)) = bcells (l.set i b) := by
  simp [bcells, List.map_set]
theorem bcells_get (l : List UInt8) (i : Nat) (h : i < l.length) : (bcells l)[i]? = some (.int .u8 ((l[i].toNat : Nat) : Int)) := by
  simp [bcells, h]
theorem bcells_string {w : World} {g c : Nat} {l : List UInt8} (h : Blk w g 5 (bcells l)) (hm : l.length ≤ 9223372036854775807) : (convert 53 9 (.slice (some ⟨g, 0, none⟩) l.length c)).run Try.prog w = .ok (.string (lst l)) w := by
  have hr : ReadsInt w .u8 (some ⟨g, 0, none⟩) l.length (ints l) := by
    refine ⟨by simp [ints], hm, fun h0 => ⟨_, rfl, fun j hj => ?_⟩⟩
    rw [addr_add, Nat.zero_add, h.cell, bcells_get l j hj]
    congr 2
    simp [ints, List.getD_eq_getElem?_getD, hj]
  rw [string_of_reads Try.underlying53 Try.underlying5 Try.underlying9 hr, strOfNums_ints]
  rfl
/-- The byte i of what is fitted. -/
def fitAt (s : ByteArray) (i : Nat) : UInt8 := if s.size = 0 then UInt8.ofNat (17 * i) else s.data.toList.getD (i % s.size) 0 + UInt8.ofNat (i / s.size)
def fitTo (s : ByteArray) (n i : Nat) : List UInt8 := (List.range n).map fun j => if j < i then fitAt s j else 0
def fitS (s : ByteArray) (n : Nat) : ByteArray := lst (fitTo s n n)
theorem fitTo_length (s : ByteArray) (n i : Nat) : (fitTo s n i).length = n := by simp [fitTo]
theorem fitS_size (s : ByteArray) (n : Nat) : (fitS s n).size = n := by unfold fitS; rw [lst_size, fitTo_length]
theorem fitTo_set (s : ByteArray) (n i : Nat) (h : i < n) (x : UInt8) (hx : x = fitAt s i) : (fitTo s n i).set i x = fitTo s n (i + 1) := by
  subst hx
  apply List.ext_getElem
  · simp [fitTo]
  · intro j h1 h2
    rw [List.length_set, fitTo_length] at h1
    simp only [fitTo, List.getElem_set, List.getElem_map, List.getElem_range]
    by_cases e : i = j
    · subst e; simp
    · rw [if_neg e]
      by_cases hj : j < i
      · rw [if_pos hj, if_pos (by omega)]
      · rw [if_neg hj, if_neg (by omega)]
theorem fit_first (i : Nat) (h : i < 16) : (UInt8.ofNat (17 * i)).toNat = 17 * i := by
  rw [UInt8.toNat_ofNat']; omega

set_option maxHeartbeats 2000000 in
set_option maxRecDepth 100000 in
theorem fitted_none8 (s : ByteArray) (h0 : s.size = 0) (w : World) :
    Calls Try.prog 36 #[.string s, .int .i64 8] w fun e w' => e = .returned (.string (fitS s 8)) ∧ Below w.heap.size w w' := by
  have hmk : ∀ w : World, (Instr.makeSlice 53 (.int .i64 8) (.int .i64 8)).run Try.prog w = .ok (.slice (some ⟨w.heap.size, 0, none⟩) 8 8) (w.alloc (.cells (bcells (fitTo s 8 0)) 5)) := fun w => by
    rw [show bcells (fitTo s 8 0) = #[.int .u8 0, .int .u8 0, .int .u8 0, .int .u8 0, .int .u8 0, .int .u8 0, .int .u8 0, .int .u8 0] from rfl]
    kernel_rfl
  have H0 := Aside0.mk h0
  have b0 : (0 < s.size) = False := by rw [h0]; simp
  have G : Aside0 (Blk (w.alloc (.cells (bcells (fitTo s 8 0)) 5)) w.heap.size 5 (bcells (fitTo s 8 0))) := ⟨Blk.new w 5 _⟩
  have B : Aside0 (Below w.heap.size w (w.alloc (.cells (bcells (fitTo s 8 0)) 5))) := ⟨below_alloc (Below.refl _ _) _⟩
  clear h0
  go_enter Try.func36, Try.ntmps36
  go_wp2_with fail
  generalize w.alloc (.cells (bcells (fitTo s 8 0)) 5) = w1 at *
  clear hmk
  go_loopw [6] (fun v6 wr => ∃ i : Nat, i ≤ 8 ∧ v6 = .int .i64 (i : Int) ∧ Aside0 (Blk wr w.heap.size 5 (bcells (fitTo s 8 i))) ∧ Aside0 (Below w.heap.size w wr)) (fun v6 _ => 8 - (intOf v6).toNat)
  case atStart => exact ⟨0, by omega, rfl, G, B⟩
  case round =>
    clear G B
    obtain ⟨i, hi, rfl, G, B⟩ := hrel
    by_cases hlt : i < 8
    · have q1 : wr.cell? ⟨w.heap.size, i, none⟩ = some (.int .u8 (((fitTo s 8 i)[i]'(by rw [fitTo_length]; exact hlt)).toNat : Nat)) := (G.out.cell i).trans (bcells_get _ i (by rw [fitTo_length]; exact hlt))
      have q2 : wr.frozen? ⟨w.heap.size, i, none⟩ = false := G.out.frozen i
      have G' : Aside0 (Blk (wr.setCell ⟨w.heap.size, i, none⟩ (.int .u8 (17 * (i : Int)))) w.heap.size 5 (bcells (fitTo s 8 (i + 1)))) := ⟨by
        have h := G.out.set_ i (.int .u8 (((UInt8.ofNat (17 * i)).toNat : Nat) : Int))
        rw [bcells_set, fitTo_set s 8 i hlt _ (by unfold fitAt; rw [if_pos H0.out]), fit_first i (by omega)] at h
        exact h⟩
      have B' : Aside0 (Below w.heap.size w (wr.setCell ⟨w.heap.size, i, none⟩ (.int .u8 (17 * (i : Int))))) := ⟨B.out.setCell (Nat.le_refl _) _⟩
      go_wp2_with fail
      exact ⟨⟨i + 1, by omega, by go_num, G', B'⟩, by simp [intOf]; omega⟩
    · obtain rfl : i = 8 := by omega
      have hcv := bcells_string (c := 8) G.out (by rw [fitTo_length]; decide)
      rw [fitTo_length] at hcv
      rw [show lst (fitTo s 8 8) = fitS s 8 from rfl] at hcv
      go_wp2_with fail
      go_ret
      exact ⟨rfl, B.out⟩
set_option maxHeartbeats 2000000 in
set_option maxRecDepth 100000 in
theorem fitted_some8 (s : ByteArray) (h0 : 0 < s.size) (hm : s.size ≤ 140737488355000) (w : World) :
    Calls Try.prog 36 #[.string s, .int .i64 8] w fun e w' => e = .returned (.string (fitS s 8)) ∧ Below w.heap.size w w' := by
  have hmk : ∀ w : World, (Instr.makeSlice 53 (.int .i64 8) (.int .i64 8)).run Try.prog w = .ok (.slice (some ⟨w.heap.size, 0, none⟩) 8 8) (w.alloc (.cells (bcells (fitTo s 8 0)) 5)) := fun w => by
    rw [show bcells (fitTo s 8 0) = #[.int .u8 0, .int .u8 0, .int .u8 0, .int .u8 0, .int .u8 0, .int .u8 0, .int .u8 0, .int .u8 0] from rfl]
    kernel_rfl
  have G : Aside0 (Blk (w.alloc (.cells (bcells (fitTo s 8 0)) 5)) w.heap.size 5 (bcells (fitTo s 8 0))) := ⟨Blk.new w 5 _⟩
  have B : Aside0 (Below w.heap.size w (w.alloc (.cells (bcells (fitTo s 8 0)) 5))) := ⟨below_alloc (Below.refl _ _) _⟩
  go_enter Try.func36, Try.ntmps36
  go_wp2_with fail
  generalize w.alloc (.cells (bcells (fitTo s 8 0)) 5) = w1 at *
  clear hmk
  go_loopw [6] (fun v6 wr => ∃ i : Nat, i ≤ 8 ∧ v6 = .int .i64 (i : Int) ∧ Aside0 (Blk wr w.heap.size 5 (bcells (fitTo s 8 i))) ∧ Aside0 (Below w.heap.size w wr)) (fun v6 _ => 8 - (intOf v6).toNat)
  case atStart => exact ⟨0, by omega, rfl, G, B⟩
  case round =>
    clear G B
    obtain ⟨i, hi, rfl, G, B⟩ := hrel
    by_cases hlt : i < 8
    · have q1 : wr.cell? ⟨w.heap.size, i, none⟩ = some (.int .u8 (((fitTo s 8 i)[i]'(by rw [fitTo_length]; exact hlt)).toNat : Nat)) := (G.out.cell i).trans (bcells_get _ i (by rw [fitTo_length]; exact hlt))
      have q2 : wr.frozen? ⟨w.heap.size, i, none⟩ = false := G.out.frozen i
      have bz : ((s.size : Int) == 0) = false := by rw [beq_eq_false_iff_ne]; omega
      obtain ⟨r, hr⟩ : ∃ r, i % s.size = r := ⟨_, rfl⟩
      obtain ⟨q, hq⟩ : ∃ q, i / s.size = q := ⟨_, rfl⟩
      have hrl : r < s.size := by rw [← hr]; exact Nat.mod_lt _ h0
      have hq16 : q < 16 := by rw [← hq]; exact Nat.lt_of_le_of_lt (Nat.div_le_self _ _) (by omega)
      have er : (i : Int).tmod (s.size : Int) = (r : Int) := by rw [← hr]; rfl
      have eq_ : (i : Int).tdiv (s.size : Int) = (q : Int) := by rw [← hq]; rfl
      obtain ⟨y, hy⟩ : ∃ y, s[r]'hrl = y := ⟨_, rfl⟩
      have HV : Aside0 (fitAt s i = y + UInt8.ofNat q) := ⟨by
        unfold fitAt
        rw [if_neg (by omega), hr, hq, ← hy]
        congr 1
        rw [List.getD_eq_getElem?_getD, List.getElem?_eq_getElem (by rw [slen]; exact hrl)]
        rfl⟩
      have X := Aside0.mk (G.out.set_ i (.int .u8 (((UInt8.ofNat (17 * i)).toNat : Nat) : Int)))
      rw [bcells_set, fit_first i (by omega)] at X
      have Y := Aside0.mk (B.out.setCell (p := ⟨w.heap.size, i, none⟩) (Nat.le_refl _) (.int .u8 (17 * (i : Int))))
      have bz2 : (s.size == 0) = false := by rw [beq_eq_false_iff_ne]; omega
      have bz3 : ¬ s.size = 0 := by omega
      go_wp2_with fail
      have X' : Aside0 (Blk (wr.setCell ⟨w.heap.size, i, none⟩ (.int .u8 (17 * (i : Int)))) w.heap.size 5 (bcells ((fitTo s 8 i).set i (UInt8.ofNat (17 * i))))) := ⟨X.out⟩
      clear X G B q1 q2
      generalize wr.setCell ⟨w.heap.size, i, none⟩ (.int .u8 (17 * (i : Int))) = w2 at *
      have q1 : w2.cell? ⟨w.heap.size, i, none⟩ = some (.int .u8 (17 * (i : Int))) := by
        have h := (X'.out.cell i).trans (bcells_get _ i (by rw [List.length_set, fitTo_length]; exact hlt))
        rw [h, List.getElem_set_self, fit_first i (by omega)]
        rfl
      have q2 : w2.frozen? ⟨w.heap.size, i, none⟩ = false := X'.out.frozen i
      have hv : IntKind.u8.wrap (((y.toNat : Nat) : Int) + IntKind.u8.wrap (IntKind.i64.wrap (q : Int))) = (((fitAt s i).toNat : Nat) : Int) := by
        rw [HV.out, IntWalk.i64_in _ (by omega), IntKind.wrap_u8, IntKind.wrap_u8, UInt8.toNat_add, UInt8.toNat_ofNat']
        have := y.toNat_lt
        omega
      go_still_tail 15, (by kernel_rfl)
      change wpList _ _ _ _ _ w2.drew
      have G2 := Aside0.mk (X'.out.drew.set_ i (.int .u8 (((fitAt s i).toNat : Nat) : Int)))
      rw [bcells_set, List.set_set, fitTo_set s 8 i hlt _ rfl] at G2
      have B2 := Aside0.mk (Y.out.drew.setCell (p := ⟨w.heap.size, i, none⟩) (Nat.le_refl _) (.int .u8 (((fitAt s i).toNat : Nat) : Int)))
      clear hv X' Y er eq_ hr hq hy bz bz2 bz3 hrl hq16
      generalize (((fitAt s i).toNat : Nat) : Int) = V at *
      go_wp2
      exact ⟨⟨i + 1, by omega, by go_num, G2, B2⟩, by simp [intOf]; omega⟩
    · obtain rfl : i = 8 := by omega
      have hcv := bcells_string (c := 8) G.out (by rw [fitTo_length]; decide)
      rw [fitTo_length] at hcv
      rw [show lst (fitTo s 8 8) = fitS s 8 from rfl] at hcv
      go_wp2_with fail
      go_ret
      exact ⟨rfl, B.out⟩
set_option maxHeartbeats 2000000 in
set_option maxRecDepth 100000 in
theorem fitted_none16 (s : ByteArray) (h0 : s.size = 0) (w : World) :
    Calls Try.prog 36 #[.string s, .int .i64 16] w fun e w' => e = .returned (.string (fitS s 16)) ∧ Below w.heap.size w w' := by
  have hmk : ∀ w : World, (Instr.makeSlice 53 (.int .i64 16) (.int .i64 16)).run Try.prog w = .ok (.slice (some ⟨w.heap.size, 0, none⟩) 16 16) (w.alloc (.cells (bcells (fitTo s 16 0)) 5)) := fun w => by
    rw [show bcells (fitTo s 16 0) = #[.int .u8 0, .int .u8 0, .int .u8 0, .int .u8 0, .int .u8 0, .int .u8 0, .int .u8 0, .int .u8 0, .int .u8 0, .int .u8 0, .int .u8 0, .int .u8 0, .int .u8 0, .int .u8 0, .int .u8 0, .int .u8 0] from rfl]
    kernel_rfl
  have H0 := Aside0.mk h0
  have b0 : (0 < s.size) = False := by rw [h0]; simp
  have G : Aside0 (Blk (w.alloc (.cells (bcells (fitTo s 16 0)) 5)) w.heap.size 5 (bcells (fitTo s 16 0))) := ⟨Blk.new w 5 _⟩
  have B : Aside0 (Below w.heap.size w (w.alloc (.cells (bcells (fitTo s 16 0)) 5))) := ⟨below_alloc (Below.refl _ _) _⟩
  clear h0
  go_enter Try.func36, Try.ntmps36
  go_wp2_with fail
  generalize w.alloc (.cells (bcells (fitTo s 16 0)) 5) = w1 at *
  clear hmk
  go_loopw [6] (fun v6 wr => ∃ i : Nat, i ≤ 16 ∧ v6 = .int .i64 (i : Int) ∧ Aside0 (Blk wr w.heap.size 5 (bcells (fitTo s 16 i))) ∧ Aside0 (Below w.heap.size w wr)) (fun v6 _ => 16 - (intOf v6).toNat)
  case atStart => exact ⟨0, by omega, rfl, G, B⟩
  case round =>
    clear G B
    obtain ⟨i, hi, rfl, G, B⟩ := hrel
    by_cases hlt : i < 16
    · have q1 : wr.cell? ⟨w.heap.size, i, none⟩ = some (.int .u8 (((fitTo s 16 i)[i]'(by rw [fitTo_length]; exact hlt)).toNat : Nat)) := (G.out.cell i).trans (bcells_get _ i (by rw [fitTo_length]; exact hlt))
      have q2 : wr.frozen? ⟨w.heap.size, i, none⟩ = false := G.out.frozen i
      have G' : Aside0 (Blk (wr.setCell ⟨w.heap.size, i, none⟩ (.int .u8 (17 * (i : Int)))) w.heap.size 5 (bcells (fitTo s 16 (i + 1)))) := ⟨by
        have h := G.out.set_ i (.int .u8 (((UInt8.ofNat (17 * i)).toNat : Nat) : Int))
        rw [bcells_set, fitTo_set s 16 i hlt _ (by unfold fitAt; rw [if_pos H0.out]), fit_first i (by omega)] at h
        exact h⟩
      have B' : Aside0 (Below w.heap.size w (wr.setCell ⟨w.heap.size, i, none⟩ (.int .u8 (17 * (i : Int))))) := ⟨B.out.setCell (Nat.le_refl _) _⟩
      go_wp2_with fail
      exact ⟨⟨i + 1, by omega, by go_num, G', B'⟩, by simp [intOf]; omega⟩
    · obtain rfl : i = 16 := by omega
      have hcv := bcells_string (c := 16) G.out (by rw [fitTo_length]; decide)
      rw [fitTo_length] at hcv
      rw [show lst (fitTo s 16 16) = fitS s 16 from rfl] at hcv
      go_wp2_with fail
      go_ret
      exact ⟨rfl, B.out⟩
set_option maxHeartbeats 2000000 in
set_option maxRecDepth 100000 in
theorem fitted_some16 (s : ByteArray) (h0 : 0 < s.size) (hm : s.size ≤ 140737488355000) (w : World) :
    Calls Try.prog 36 #[.string s, .int .i64 16] w fun e w' => e = .returned (.string (fitS s 16)) ∧ Below w.heap.size w w' := by
  have hmk : ∀ w : World, (Instr.makeSlice 53 (.int .i64 16) (.int .i64 16)).run Try.prog w = .ok (.slice (some ⟨w.heap.size, 0, none⟩) 16 16) (w.alloc (.cells (bcells (fitTo s 16 0)) 5)) := fun w => by
    rw [show bcells (fitTo s 16 0) = #[.int .u8 0, .int .u8 0, .int .u8 0, .int .u8 0, .int .u8 0, .int .u8 0, .int .u8 0, .int .u8 0, .int .u8 0, .int .u8 0, .int .u8 0, .int .u8 0, .int .u8 0, .int .u8 0, .int .u8 0, .int .u8 0] from rfl]
    kernel_rfl
  have G : Aside0 (Blk (w.alloc (.cells (bcells (fitTo s 16 0)) 5)) w.heap.size 5 (bcells (fitTo s 16 0))) := ⟨Blk.new w 5 _⟩
  have B : Aside0 (Below w.heap.size w (w.alloc (.cells (bcells (fitTo s 16 0)) 5))) := ⟨below_alloc (Below.refl _ _) _⟩
  go_enter Try.func36, Try.ntmps36
  go_wp2_with fail
  generalize w.alloc (.cells (bcells (fitTo s 16 0)) 5) = w1 at *
  clear hmk
  go_loopw [6] (fun v6 wr => ∃ i : Nat, i ≤ 16 ∧ v6 = .int .i64 (i : Int) ∧ Aside0 (Blk wr w.heap.size 5 (bcells (fitTo s 16 i))) ∧ Aside0 (Below w.heap.size w wr)) (fun v6 _ => 16 - (intOf v6).toNat)
  case atStart => exact ⟨0, by omega, rfl, G, B⟩
  case round =>
    clear G B
    obtain ⟨i, hi, rfl, G, B⟩ := hrel
    by_cases hlt : i < 16
    · have q1 : wr.cell? ⟨w.heap.size, i, none⟩ = some (.int .u8 (((fitTo s 16 i)[i]'(by rw [fitTo_length]; exact hlt)).toNat : Nat)) := (G.out.cell i).trans (bcells_get _ i (by rw [fitTo_length]; exact hlt))
      have q2 : wr.frozen? ⟨w.heap.size, i, none⟩ = false := G.out.frozen i
      have bz : ((s.size : Int) == 0) = false := by rw [beq_eq_false_iff_ne]; omega
      obtain ⟨r, hr⟩ : ∃ r, i % s.size = r := ⟨_, rfl⟩
      obtain ⟨q, hq⟩ : ∃ q, i / s.size = q := ⟨_, rfl⟩
      have hrl : r < s.size := by rw [← hr]; exact Nat.mod_lt _ h0
      have hq16 : q < 16 := by rw [← hq]; exact Nat.lt_of_le_of_lt (Nat.div_le_self _ _) (by omega)
      have er : (i : Int).tmod (s.size : Int) = (r : Int) := by rw [← hr]; rfl
      have eq_ : (i : Int).tdiv (s.size : Int) = (q : Int) := by rw [← hq]; rfl
      obtain ⟨y, hy⟩ : ∃ y, s[r]'hrl = y := ⟨_, rfl⟩
      have HV : Aside0 (fitAt s i = y + UInt8.ofNat q) := ⟨by
        unfold fitAt
        rw [if_neg (by omega), hr, hq, ← hy]
        congr 1
        rw [List.getD_eq_getElem?_getD, List.getElem?_eq_getElem (by rw [slen]; exact hrl)]
        rfl⟩
      have X := Aside0.mk (G.out.set_ i (.int .u8 (((UInt8.ofNat (17 * i)).toNat : Nat) : Int)))
      rw [bcells_set, fit_first i (by omega)] at X
      have Y := Aside0.mk (B.out.setCell (p := ⟨w.heap.size, i, none⟩) (Nat.le_refl _) (.int .u8 (17 * (i : Int))))
      have bz2 : (s.size == 0) = false := by rw [beq_eq_false_iff_ne]; omega
      have bz3 : ¬ s.size = 0 := by omega
      go_wp2_with fail
      have X' : Aside0 (Blk (wr.setCell ⟨w.heap.size, i, none⟩ (.int .u8 (17 * (i : Int)))) w.heap.size 5 (bcells ((fitTo s 16 i).set i (UInt8.ofNat (17 * i))))) := ⟨X.out⟩
      clear X G B q1 q2
      generalize wr.setCell ⟨w.heap.size, i, none⟩ (.int .u8 (17 * (i : Int))) = w2 at *
      have q1 : w2.cell? ⟨w.heap.size, i, none⟩ = some (.int .u8 (17 * (i : Int))) := by
        have h := (X'.out.cell i).trans (bcells_get _ i (by rw [List.length_set, fitTo_length]; exact hlt))
        rw [h, List.getElem_set_self, fit_first i (by omega)]
        rfl
      have q2 : w2.frozen? ⟨w.heap.size, i, none⟩ = false := X'.out.frozen i
      have hv : IntKind.u8.wrap (((y.toNat : Nat) : Int) + IntKind.u8.wrap (IntKind.i64.wrap (q : Int))) = (((fitAt s i).toNat : Nat) : Int) := by
        rw [HV.out, IntWalk.i64_in _ (by omega), IntKind.wrap_u8, IntKind.wrap_u8, UInt8.toNat_add, UInt8.toNat_ofNat']
        have := y.toNat_lt
        omega
      go_still_tail 15, (by kernel_rfl)
      change wpList _ _ _ _ _ w2.drew
      have G2 := Aside0.mk (X'.out.drew.set_ i (.int .u8 (((fitAt s i).toNat : Nat) : Int)))
      rw [bcells_set, List.set_set, fitTo_set s 16 i hlt _ rfl] at G2
      have B2 := Aside0.mk (Y.out.drew.setCell (p := ⟨w.heap.size, i, none⟩) (Nat.le_refl _) (.int .u8 (((fitAt s i).toNat : Nat) : Int)))
      clear hv X' Y er eq_ hr hq hy bz bz2 bz3 hrl hq16
      generalize (((fitAt s i).toNat : Nat) : Int) = V at *
      go_wp2
      exact ⟨⟨i + 1, by omega, by go_num, G2, B2⟩, by simp [intOf]; omega⟩
    · obtain rfl : i = 16 := by omega
      have hcv := bcells_string (c := 16) G.out (by rw [fitTo_length]; decide)
      rw [fitTo_length] at hcv
      rw [show lst (fitTo s 16 16) = fitS s 16 from rfl] at hcv
      go_wp2_with fail
      go_ret
      exact ⟨rfl, B.out⟩
theorem fitted_any (s : ByteArray) (n : Int) (hn : n = 8 ∨ n = 16) (hm : s.size ≤ 140737488355000) (w : World) :
    Calls Try.prog 36 #[.string s, .int .i64 n] w fun e w' => e = .returned (.string (fitS s n.toNat)) ∧ Below w.heap.size w w' := by
  rcases hn with rfl | rfl
  · rcases Nat.eq_zero_or_pos s.size with h | h
    · exact fitted_none8 s h w
    · exact fitted_some8 s h hm w
  · rcases Nat.eq_zero_or_pos s.size with h | h
    · exact fitted_none16 s h w
    · exact fitted_some16 s h hm w
end Go.Proofs.Ytopobangjpehnaa.Seal

set_option linter.unusedVariables false
set_option linter.unusedSimpArgs false
namespace Go.Proofs.Ytopobangjpehnaa.Seal
open Go.RowKit Go.Proofs.YtopobangjpehnaaW.PrintWords Go.Proofs.YtopobangjpehnaaW.PrintLast Go.Proofs.YtopobangjpehnaaW.PrintMore Pr Des Num Walk

def sizeN (alg : Int) : Int := if alg = 1 then 8 else if alg = 3 then 16 else 0
theorem refSize_any (alg : Int) (w : World) : Calls Try.prog 77 #[.int .i64 alg] w fun e w' => e = .returned (.int .i64 (sizeN alg)) ∧ Below w.heap.size w w' := by
  refine (turnstileref4_size.calls alg (sizeN alg) w ?_).mono fun e w' ⟨he, hd⟩ => ⟨he, hd.below⟩
  unfold turnstileref4_size.f sizeN
  split
  · rfl
  · split <;> rfl
theorem refMake8 (w : World) : (Instr.makeSlice 53 (.int .i64 8) (.int .i64 8)).run Try.prog w = .ok (.slice (some ⟨w.heap.size, 0, none⟩) 8 8) (w.alloc (.cells #[.int .u8 0, .int .u8 0, .int .u8 0, .int .u8 0, .int .u8 0, .int .u8 0, .int .u8 0, .int .u8 0] 5)) := by kernel_rfl
theorem refZero8 (W : World) (g : Nat) (h : Blk W g 5 #[.int .u8 0, .int .u8 0, .int .u8 0, .int .u8 0, .int .u8 0, .int .u8 0, .int .u8 0, .int .u8 0]) :
    (convert 53 9 (.slice (some ⟨g, 0, none⟩) 8 8)).run Try.prog W = .ok (.string (lst (zeros 8))) W := by
  have hr : ReadsInt W .u8 (some ⟨g, 0, none⟩) 8 (ints (zeros 8)) := by
    refine ⟨rfl, by decide, fun h0 => ⟨_, rfl, fun j hj => ?_⟩⟩
    rw [addr_add, Nat.zero_add, h.cell]
    have : j = 0 ∨ j = 1 ∨ j = 2 ∨ j = 3 ∨ j = 4 ∨ j = 5 ∨ j = 6 ∨ j = 7 := by omega
    rcases this with rfl | rfl | rfl | rfl | rfl | rfl | rfl | rfl <;> rfl
  rw [string_of_reads Try.underlying53 Try.underlying5 Try.underlying9 hr, strOfNums_ints]
  rfl

theorem refZeroD (W : World) : (convert 53 9 (.slice (some ⟨W.heap.size, 0, none⟩) 8 8)).run Try.prog (W.alloc (.cells #[.int .u8 0, .int .u8 0, .int .u8 0, .int .u8 0, .int .u8 0, .int .u8 0, .int .u8 0, .int .u8 0] 5)).drew = .ok (.string (lst (zeros 8))) (W.alloc (.cells #[.int .u8 0, .int .u8 0, .int .u8 0, .int .u8 0, .int .u8 0, .int .u8 0, .int .u8 0, .int .u8 0] 5)).drew :=
  refZero8 _ W.heap.size (Blk.new W 5 _).drew
set_option maxHeartbeats 2000000 in
set_option maxRecDepth 100000 in
theorem refTag_arg (alg m : Int) (h : wantsN alg m = 0) (key s : ByteArray) (hs : s.size ≤ 140737488354000) (w : World) :
    Calls Try.prog 54 #[.int .i64 alg, .int .i64 m, .string key, .string s] w fun e w' => e = .returned (.tuple #[.string ⟨#[]⟩, .int .i64 1]) ∧ Below w.heap.size w w' := by
  have P := Aside0.mk (refPad_all m s hs)
  have Z := Aside0.mk (refSize_any alg)
  have h2 : (sizeN alg == 0) = true ∨ (sizeN alg == 0) = false ∧ (padE m != 0) = true := by
    rw [beq_iff_eq, beq_eq_false_iff_ne, bne_iff_ne]
    unfold wantsN at h
    unfold sizeN padE
    by_cases hm : m = 1 ∨ m = 2
    · rw [if_pos hm] at h
      exact .inl h
    · rw [if_neg hm]
      by_cases hz : (if alg = 1 then (8 : Int) else if alg = 3 then 16 else 0) = 0
      · exact .inl hz
      · exact .inr ⟨hz, by decide⟩
  generalize sizeN alg = z at *
  generalize padE m = E at *
  generalize padT m s = T at *
  clear h hs
  rcases h2 with b1 | ⟨b1, b2⟩
  all_goals
    go_enter Try.func54, Try.ntmps54
    go_wp2_with fail
    refine (P.out _).mono ?_
    rintro e w1 ⟨rfl, hb⟩
    have B := Aside0.mk hb
    clear hb
    go_wp2_with fail
    refine (Z.out _).mono ?_
    rintro e w2 ⟨rfl, hb⟩
    replace B := Aside0.mk (B.out.trans (hb.mono B.out.size))
    clear hb
    go_wp2_with fail
    go_ret2
    exact ⟨rfl, B.out⟩
theorem wants_size {alg m : Int} (h : wantsN alg m ≠ 0) : wantsN alg m = sizeN alg := by
  unfold wantsN at h ⊢
  unfold sizeN
  by_cases hm : m = 1 ∨ m = 2
  · rw [if_pos hm]
  · rw [if_neg hm] at h; exact absurd rfl h
set_option maxHeartbeats 2000000 in
set_option maxRecDepth 100000 in
theorem refTag_key (alg m : Int) (h : wantsN alg m ≠ 0) (key s : ByteArray) (hk : (key.size : Int) ≠ wantsN alg m) (hs : s.size ≤ 140737488354000) (w : World) :
    Calls Try.prog 54 #[.int .i64 alg, .int .i64 m, .string key, .string s] w fun e w' => e = .returned (.tuple #[.string ⟨#[]⟩, .int .i64 30]) ∧ Below w.heap.size w w' := by
  have P := Aside0.mk (refPad_yes m (wants_ok h).1 s hs)
  have Z := Aside0.mk (refSize_any alg)
  rw [wants_size h] at hk
  have hz : sizeN alg ≠ 0 := by rw [← wants_size h]; exact h
  generalize sizeN alg = z at *
  have b1 : (z == 0) = false := by rw [beq_eq_false_iff_ne]; exact hz
  have b2 : ((key.size : Int) != z) = true := by rw [bne_iff_ne]; exact hk
  clear h hs hk hz
  go_enter Try.func54, Try.ntmps54
  go_wp2_with fail
  refine (P.out _).mono ?_
  rintro e w1 ⟨rfl, hb⟩
  have B := Aside0.mk hb
  clear hb
  go_wp2_with fail
  refine (Z.out _).mono ?_
  rintro e w2 ⟨rfl, hb⟩
  replace B := Aside0.mk (B.out.trans (hb.mono B.out.size))
  clear hb
  go_wp2_with fail
  refine (Z.out _).mono ?_
  rintro e w3 ⟨rfl, hb⟩
  replace B := Aside0.mk (B.out.trans (hb.mono B.out.size))
  clear hb
  go_wp2_with fail
  go_ret2
  exact ⟨rfl, B.out⟩
theorem refTurn8 (k : ByteArray) (hk : k.size = 8) (x : List Bool) (hx : x.length = 64) (back : Bool) (w : World) :
    Calls Try.prog 59 #[.string k, .string (T8 x), .bool back] w fun e w' => e = .returned (.tuple #[.string (T8 (turnB k.data.toList back x)), .int .i64 0]) ∧ Below w.heap.size w w' := by
  have := Ref.refTurn_yes k (T8 x) (.inl hk) (by rw [T8_size]) (by rw [T8_size]; decide) back w
  rw [one_block _ _ _ (T8_size x), T8_bits x hx] at this
  exact this
set_option maxHeartbeats 4000000 in
set_option maxRecDepth 100000 in
theorem refTag_yes (alg m : Int) (hm : m = 1 ∨ m = 2) (ha : alg = 1 ∨ alg = 3) (key s : ByteArray) (hk : (key.size : Int) = wantsN alg m) (hs : s.size ≤ 140737488354000) (w : World) :
    Calls Try.prog 54 #[.int .i64 alg, .int .i64 m, .string key, .string s] w fun e w' => e = .returned (.tuple #[.string (T8 (tagX alg m key s)), .int .i64 0]) ∧ Below w.heap.size w w' := by
  have hw : wantsN alg m = sizeN alg := by unfold wantsN; rw [if_pos hm]; rfl
  rw [hw] at hk
  have hp := padS_size m s
  have P := Aside0.mk (refPad_yes m hm s hs)
  have Z := Aside0.mk (refSize_any alg)
  have hk8 : 8 ≤ key.size := by
    unfold sizeN at hk
    rcases ha with rfl | rfl
    · rw [if_pos rfl] at hk; omega
    · rw [if_neg (by decide), if_pos rfl] at hk; omega
  have ha8 : (key.extract 0 8).size = 8 := by rw [ByteArray.size_extract]; omega
  obtain ⟨n, hn⟩ : ∃ n, (padS m s).size = 8 * (n + 1) := ⟨(padS m s).size / 8 - 1, by omega⟩
  have hC := fun W => Ref.refChain_fwd (key.extract 0 8) (lst (zeros 8)) (padS m s) (.inl ha8) rfl hp.1 (by omega) W
  rw [zeros8_bits] at hC
  have hL := last_block (cbcB (key.extract 0 8).data.toList (bitsN 64 0) (padS m s)) (padS m s) n hn
  have hcz := blocksStr_size (cbcB (key.extract 0 8).data.toList (bitsN 64 0) (padS m s)) (padS m s) hp.1
  have hE : cbcB (key.extract 0 8).data.toList (bitsN 64 0) (padS m s) n = cbcEnd (key.extract 0 8).data.toList (padS m s) := by
    unfold cbcEnd; rw [hn]; congr 1; omega
  rw [hE] at hL
  have hEl := cbcEnd_length (key.extract 0 8).data.toList (padS m s) hp.1 hp.2.1
  have hX : tagX alg m key s = if alg = 1 then cbcEnd (key.extract 0 8).data.toList (padS m s) else turnB (key.extract 0 8).data.toList false (turnB (key.extract 8 key.size).data.toList true (cbcEnd (key.extract 0 8).data.toList (padS m s))) := rfl
  have sa := fun W => sl_to key 8 hk8 W 8 rfl
  have sb := fun W => sl_from key 8 hk8 W 8 rfl
  have hb8 : alg = 3 → (key.extract 8 key.size).size = 8 := by
    intro h3; subst h3
    rw [ByteArray.size_extract]
    unfold sizeN at hk
    rw [if_neg (by decide), if_pos rfl] at hk
    omega
  generalize cbcEnd (key.extract 0 8).data.toList (padS m s) = L at *
  generalize blocksStr (cbcB (key.extract 0 8).data.toList (bitsN 64 0) (padS m s)) (padS m s) = c at *
  generalize key.extract 0 8 = ka at *
  generalize key.extract 8 key.size = kb at *
  generalize padS m s = p at *
  have sc := fun W => sl_from c (p.size - 8) (by omega) W ((c.size : Int) - 8) (by omega)
  rw [hL] at sc
  have hcm : c.size ≤ 140737488355000 := by omega
  have C := Aside0.mk hC
  have HX := Aside0.mk hX
  have T1 := Aside0.mk (fun W (h3 : alg = 3) => refTurn8 kb (hb8 h3) L hEl true W)
  have T2 := Aside0.mk (fun W => refTurn8 ka ha8 (turnB kb.data.toList true L) (turnB_length _ _ _ hEl) false W)
  have h8c : 8 ≤ c.size := by omega
  have b1 : ((key.size : Int) != sizeN alg) = false := by rw [bne_eq_false_iff_eq]; exact hk
  have b0 : (sizeN alg == 0) = false := by
    rw [beq_eq_false_iff_ne, ← hk]
    omega
  have hmk := refMake8
  have hz8 := refZeroD
  generalize sizeN alg = zn at *
  clear hk hC hX hL hE hEl ha8 hb8 hn hcz hp hk8 hs hw hm
  rcases ha with rfl | rfl
  · rw [HX.out, if_pos rfl]
    go_enter Try.func54, Try.ntmps54
    go_wp2_with fail
    refine (P.out _).mono ?_
    rintro e w1 ⟨rfl, hb⟩
    have B := Aside0.mk hb
    clear hb
    go_wp2_with fail
    refine (Z.out _).mono ?_
    rintro e w2 ⟨rfl, hb⟩
    replace B := Aside0.mk (B.out.trans (hb.mono B.out.size))
    clear hb
    go_wp2_with fail
    refine (Z.out _).mono ?_
    rintro e w3 ⟨rfl, hb⟩
    replace B := Aside0.mk (B.out.trans (hb.mono B.out.size))
    clear hb
    go_wp2_with fail
    go_region_with (go_at_call 72; refine (C.out _).mono ?_; rintro e w4 ⟨rfl, hb⟩)
    have b4 := (below_alloc B.out (.cells #[.int .u8 0, .int .u8 0, .int .u8 0, .int .u8 0, .int .u8 0, .int .u8 0, .int .u8 0, .int .u8 0] 5)).drew
    replace B := Aside0.mk (b4.trans (hb.mono b4.size))
    clear b4 hb hmk hz8
    go_wp2_with fail
    go_ret2
    exact ⟨rfl, B.out⟩
  · rw [HX.out, if_neg (by decide)]
    go_enter Try.func54, Try.ntmps54
    go_wp2_with fail
    refine (P.out _).mono ?_
    rintro e w1 ⟨rfl, hb⟩
    have B := Aside0.mk hb
    clear hb
    go_wp2_with fail
    refine (Z.out _).mono ?_
    rintro e w2 ⟨rfl, hb⟩
    replace B := Aside0.mk (B.out.trans (hb.mono B.out.size))
    clear hb
    go_wp2_with fail
    refine (Z.out _).mono ?_
    rintro e w3 ⟨rfl, hb⟩
    replace B := Aside0.mk (B.out.trans (hb.mono B.out.size))
    clear hb
    go_wp2_with fail
    go_region_with (go_at_call 72; refine (C.out _).mono ?_; rintro e w4 ⟨rfl, hb⟩)
    have b4 := (below_alloc B.out (.cells #[.int .u8 0, .int .u8 0, .int .u8 0, .int .u8 0, .int .u8 0, .int .u8 0, .int .u8 0, .int .u8 0] 5)).drew
    replace B := Aside0.mk (b4.trans (hb.mono b4.size))
    clear b4 hb hmk hz8
    go_wp2_with fail
    refine (T1.out _ (by trivial)).mono ?_
    rintro e w5 ⟨rfl, hb⟩
    replace B := Aside0.mk (B.out.trans (hb.mono B.out.size))
    clear hb
    go_wp2_with fail
    refine (T2.out _).mono ?_
    rintro e w6 ⟨rfl, hb⟩
    replace B := Aside0.mk (B.out.trans (hb.mono B.out.size))
    clear hb
    go_wp2_with fail
    go_ret2
    exact ⟨rfl, B.out⟩
theorem refTag_all (alg m : Int) (key s : ByteArray) (hs : s.size ≤ 140737488354000) (w : World) :
    Calls Try.prog 54 #[.int .i64 alg, .int .i64 m, .string key, .string s] w fun e w' => e = .returned (.tuple #[.string (tagT alg m key s), .int .i64 (tagE alg m key)]) ∧ Below w.heap.size w w' := by
  unfold tagT tagE
  by_cases h : wantsN alg m = 0
  · rw [if_neg (fun x => x.1 h), if_pos h]; exact refTag_arg alg m h key s hs w
  · rw [if_neg h]
    by_cases hk : (key.size : Int) = wantsN alg m
    · rw [if_pos ⟨h, hk⟩, if_pos hk]; exact refTag_yes alg m (wants_ok h).1 (wants_ok h).2 key s hk hs w
    · rw [if_neg (fun x => hk x.2), if_neg hk]; exact refTag_key alg m h key s hk hs w
end Go.Proofs.Ytopobangjpehnaa.Seal

set_option linter.unusedVariables false
set_option linter.unusedSimpArgs false
namespace Go.Proofs.Ytopobangjpehnaa.Seal
open Go.RowKit Go.Proofs.YtopobangjpehnaaW.PrintWords Go.Proofs.YtopobangjpehnaaW.PrintLast Go.Proofs.YtopobangjpehnaaW.PrintMore Pr Des Num Walk

theorem pick2T_any (c : Int) (hc : -9223372036854775808 ≤ c ∧ c ≤ 9223372036854775807) : ∃ r : Int, (r = 0 ∨ r = 1) ∧ ∀ W : World, Calls Try.prog 35 #[.int .i64 c, .int .i64 2] W fun e w' => e = .returned (.int .i64 r) ∧ Below W.heap.size W w' := by
  obtain ⟨r, h1, h2⟩ := pick4_any c 2 hc (by decide) (by decide)
  exact ⟨(r : Int), by omega, h2⟩
theorem tag_known : bytes8 (num (tagX 1 1 ⟨#[1, 35, 69, 103, 137, 171, 205, 239]⟩ ⟨#[78, 111, 119, 32, 105, 115, 32, 116, 104, 101, 32, 116, 105, 109, 101, 32, 102, 111, 114, 32, 97, 108, 108, 32]⟩)) = [112, 163, 6, 64, 204, 118, 221, 139] := by decide +kernel
set_option maxHeartbeats 4000000 in
set_option maxRecDepth 100000 in
theorem tags_core (alg m0 : Int) (ra n rm m : Int) (hn : ra = 0 ∧ n = 1 ∨ ra = 1 ∧ n = 3) (hm : rm = 0 ∧ m = 1 ∨ rm = 1 ∧ m = 2)
    (HA : ∀ W : World, Calls Try.prog 35 #[.int .i64 alg, .int .i64 2] W fun e w' => e = .returned (.int .i64 ra) ∧ Below W.heap.size W w')
    (HM : ∀ W : World, Calls Try.prog 35 #[.int .i64 m0, .int .i64 2] W fun e w' => e = .returned (.int .i64 rm) ∧ Below W.heap.size W w')
    (key : ByteArray) (hk : key.size ≤ 140737488351232) (s : ByteArray) (hs : s.size ≤ 140737488351232) (w : World) :
    Calls Try.prog 15 #[.int .i64 alg, .int .i64 m0, .string key, .string s] w fun e w' => e = .returned (.bool true) ∧ Below w.heap.size w w' := by
  have h0 := fun W => tag_yes 1 1 (.inl rfl) (.inl rfl) ⟨#[1, 35, 69, 103, 137, 171, 205, 239]⟩ ⟨#[78, 111, 119, 32, 105, 115, 32, 116, 104, 101, 32, 116, 105, 109, 101, 32, 102, 111, 114, 32, 97, 108, 108, 32]⟩ rfl (by decide) W
  unfold T8 at h0
  rw [tag_known, show lst [112, 163, 6, 64, 204, 118, 221, 139] = ⟨#[112, 163, 6, 64, 204, 118, 221, 139]⟩ from rfl] at h0
  have T0 := Aside0.mk h0
  have T1 := Aside0.mk (tag_all alg m0 key s (by omega))
  have T2 := Aside0.mk (refTag_all alg m0 key s (by omega))
  have K := Aside0.mk (fitted_any key (4 + 4 * n) (by omega) (by omega))
  generalize fitS key (4 + 4 * n).toNat = k at *
  have T3 := Aside0.mk (tag_all n m k s (by omega))
  have T4 := Aside0.mk (refTag_all n m k s (by omega))
  generalize tagT alg m0 key s = A1 at *
  generalize tagE alg m0 key = A2 at *
  generalize tagT n m k s = A3 at *
  generalize tagE n m k = A4 at *
  have HA' := Aside0.mk HA
  have HM' := Aside0.mk HM
  clear h0 hk hs HA HM
  rcases hn with ⟨rfl, rfl⟩ | ⟨rfl, rfl⟩ <;> rcases hm with ⟨rfl, rfl⟩ | ⟨rfl, rfl⟩
  all_goals
    go_enter Try.func15, Try.ntmps15
    go_wp2_with fail
    refine (T0.out _).mono ?_
    rintro e w1 ⟨rfl, hb⟩
    have B := Aside0.mk hb
    clear hb
    go_wp2_with fail
    refine (T1.out _).mono ?_
    rintro e w2 ⟨rfl, hb⟩
    replace B := Aside0.mk (B.out.trans (hb.mono B.out.size))
    clear hb
    go_wp2_with fail
    refine (T2.out _).mono ?_
    rintro e w3 ⟨rfl, hb⟩
    replace B := Aside0.mk (B.out.trans (hb.mono B.out.size))
    clear hb
    go_wp2_with fail
    refine (HA'.out _).mono ?_
    rintro e w4 ⟨rfl, hb⟩
    replace B := Aside0.mk (B.out.trans (hb.mono B.out.size))
    clear hb
    go_wp2_with fail
    refine (HM'.out _).mono ?_
    rintro e w5 ⟨rfl, hb⟩
    replace B := Aside0.mk (B.out.trans (hb.mono B.out.size))
    clear hb
    go_wp2_with fail
    refine (K.out _).mono ?_
    rintro e w6 ⟨rfl, hb⟩
    replace B := Aside0.mk (B.out.trans (hb.mono B.out.size))
    clear hb
    go_wp2_with fail
    refine (T3.out _).mono ?_
    rintro e w7 ⟨rfl, hb⟩
    replace B := Aside0.mk (B.out.trans (hb.mono B.out.size))
    clear hb
    go_wp2_with fail
    refine (T4.out _).mono ?_
    rintro e w8 ⟨rfl, hb⟩
    replace B := Aside0.mk (B.out.trans (hb.mono B.out.size))
    clear hb
    go_wp2_with fail
    go_ret
    exact ⟨by simp, B.out⟩
theorem tags_law (alg : Int) (ha : (Lit.int .i64 alg).wf = true) (m : Int) (hm : (Lit.int .i64 m).wf = true) (key : ByteArray) (hk : key.size ≤ 140737488351232) (s : ByteArray) (hs : s.size ≤ 140737488351232) (w : World) :
    Calls Try.prog 15 #[.int .i64 alg, .int .i64 m, .string key, .string s] w fun e w' => e = .returned (.bool true) ∧ Below w.heap.size w w' := by
  obtain ⟨ra, h1, HA⟩ := pick2T_any alg (wf_i64 ha)
  obtain ⟨rm, h2, HM⟩ := pick2T_any m (wf_i64 hm)
  exact tags_core alg m ra (1 + 2 * ra) rm (1 + rm) (by omega) (by omega) HA HM key hk s hs w
end Go.Proofs.Ytopobangjpehnaa.Seal
