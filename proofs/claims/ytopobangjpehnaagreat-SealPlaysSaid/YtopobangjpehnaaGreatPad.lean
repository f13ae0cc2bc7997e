/- seal.Pad and the document's own Pad: what a text is filled up to. -/
import Derived.Test.YtopobangjpehnaaGreatShelf
import Derived.Test.YtopobangjpehnaaGreatPrF
import Derived.Test.YtopobangjpehnaaGreatPrG
import Derived.Test.YtopobangjpehnaaGreatXorAll
set_option linter.unusedVariables false
set_option linter.unusedSimpArgs false
namespace Go.Proofs.YtopobangjpehnaaGreat.Seal
open Go.RowKit Go.Proofs.YtopobangjpehnaaGreatW.PrintWords Go.Proofs.YtopobangjpehnaaGreatW.PrintLast Go.Proofs.YtopobangjpehnaaGreatW.PrintMore Pr Des Num Walk

/-- Noughts behind a text. -/
def zeros (n : Nat) : List UInt8 := List.replicate n 0
def fillL (t : List UInt8) : List UInt8 := if t = [] then zeros 8 else t ++ zeros ((8 - t.length % 8) % 8)
def padL (m : Int) (l : List UInt8) : List UInt8 := fillL (if m = 2 then l ++ [128] else l)
def padS (m : Int) (s : ByteArray) : ByteArray := lst (padL m s.data.toList)
theorem slen (s : ByteArray) : s.data.toList.length = s.size := by rw [Array.length_toList]; rfl
theorem fillL_length (t : List UInt8) : (fillL t).length % 8 = 0 ∧ 8 ≤ (fillL t).length ∧ t.length ≤ (fillL t).length ∧ (fillL t).length ≤ t.length + 8 := by
  unfold fillL zeros
  split
  · rename_i h; subst h; simp
  · rename_i h
    have h0 : 0 < t.length := List.length_pos_iff.2 h
    rw [List.length_append, List.length_replicate]
    omega
theorem padS_size (m : Int) (s : ByteArray) : (padS m s).size % 8 = 0 ∧ 8 ≤ (padS m s).size ∧ s.size ≤ (padS m s).size ∧ (padS m s).size ≤ s.size + 9 := by
  have h := fillL_length (if m = 2 then s.data.toList ++ [128] else s.data.toList)
  unfold padS padL
  rw [lst_size]
  have e := slen s
  split at h
  · rename_i hm; rw [List.length_append, e] at h; simp only [List.length_singleton] at h; rw [if_pos hm]; omega
  · rename_i hm; rw [e] at h; rw [if_neg hm]; omega
theorem repeatL_zero (c : Nat) : Lib.repeatL [0] c = zeros c := by
  rw [show ([0] : List UInt8) = List.replicate 1 0 from rfl, Lib.repeatL_replicate, Nat.mul_one]; rfl
theorem repeat_any (c : Nat) (hc : c ≤ 8) (w : World) :
    Calls Tryz.prog 38 #[.string ⟨#[0]⟩, .int .i64 (c : Int)] w fun e w' => e = .returned (.string (lst (zeros c))) ∧ Below w.heap.size w w' := by
  have h := Tryz.strings_Repeat ⟨#[0]⟩ c w (by omega) (by show 1 * c ≤ _; omega)
  rw [show (⟨#[0]⟩ : ByteArray).data.toList = [0] from rfl, repeatL_zero] at h
  exact h
theorem lst_self (s : ByteArray) : lst s.data.toList = s := byteArray_ext rfl
theorem lst_app (s : ByteArray) (l : List UInt8) : s ++ lst l = lst (s.data.toList ++ l) := by rw [← lst_append, lst_self]

set_option maxHeartbeats 2000000 in
set_option maxRecDepth 100000 in
theorem pad_no (m : Int) (h1 : m ≠ 1) (h2 : m ≠ 2) (s : ByteArray) (w : World) :
    Calls Tryz.prog 36 #[.int .i64 m, .string s] w fun e w' => e = .returned (.tuple #[.string ⟨#[]⟩, .int .i64 1]) ∧ Below w.heap.size w w' := by
  have b1 : (m == 1) = false := by rw [beq_eq_false_iff_ne]; exact h1
  have b2 : (m == 2) = false := by rw [beq_eq_false_iff_ne]; exact h2
  clear h1 h2
  go_enter Tryz.func36, Tryz.ntmps36
  go_wp2_with fail
  go_ret2
  exact ⟨rfl, Below.refl _ _⟩
set_option maxHeartbeats 2000000 in
set_option maxRecDepth 100000 in
theorem pad_one (s : ByteArray) (hm : s.size ≤ 140737488354000) (w : World) :
    Calls Tryz.prog 36 #[.int .i64 1, .string s] w fun e w' => e = .returned (.tuple #[.string (padS 1 s), .int .i64 0]) ∧ Below w.heap.size w w' := by
  by_cases h0 : s.size = 0
  · have hs : s = ⟨#[]⟩ := byteArray_ext (List.eq_nil_of_length_eq_zero (by rw [slen]; exact h0))
    subst hs
    have hp : padS 1 ⟨#[]⟩ = lst (zeros 8) := rfl
    rw [hp]
    have R := Aside0.mk (repeat_any 8 (by decide))
    clear h0 hm hp
    go_enter Tryz.func36, Tryz.ntmps36
    go_wp2_with fail
    refine (R.out _).mono ?_
    rintro e w1 ⟨rfl, hb⟩
    have B := Aside0.mk hb
    clear hb
    go_wp2_with fail
    go_ret2
    exact ⟨rfl, B.out⟩
  · have hne : s.data.toList ≠ [] := fun h => h0 (by rw [← slen, h]; rfl)
    have he : s.toList.isEmpty = false := by rw [ByteArray.toList_eq, List.isEmpty_eq_false_iff]; exact hne
    obtain ⟨c, hc⟩ : ∃ c : Nat, c = (8 - s.size % 8) % 8 := ⟨_, rfl⟩
    have hp : s ++ lst (zeros c) = padS 1 s := by
      rw [lst_app]
      unfold padS padL fillL
      rw [if_neg (show ¬ (1 : Int) = 2 by decide), if_neg hne, slen, hc]
    have R := Aside0.mk (repeat_any c (by omega))
    have hz : (lst (zeros c)).size ≤ 8 := by rw [lst_size]; unfold zeros; rw [List.length_replicate]; omega
    have hcc : Aside0 ((8 - (s.size : Int) % 8) % 8 = (c : Int) ∧ -((s.size : Int) % 8) % 8 = (c : Int)) := ⟨by omega⟩
    clear h0 hne hc
    go_enter Tryz.func36, Tryz.ntmps36
    go_wp2_with fail
    rw [hcc.out.1, hcc.out.2]
    refine (R.out _).mono ?_
    rintro e w1 ⟨rfl, hb⟩
    have B := Aside0.mk hb
    clear hb
    go_wp2_with fail
    go_ret2
    exact ⟨rfl, B.out⟩
set_option maxHeartbeats 2000000 in
set_option maxRecDepth 100000 in
theorem pad_two (s : ByteArray) (hm : s.size ≤ 140737488354000) (w : World) :
    Calls Tryz.prog 36 #[.int .i64 2, .string s] w fun e w' => e = .returned (.tuple #[.string (padS 2 s), .int .i64 0]) ∧ Below w.heap.size w w' := by
  obtain ⟨t, ht⟩ : ∃ t, s ++ ⟨#[128]⟩ = t := ⟨_, rfl⟩
  have htl : t.data.toList = s.data.toList ++ [128] := by rw [← ht, ByteArray.data_append]; simp
  have hts : t.size = s.size + 1 := by rw [← slen, htl, List.length_append, slen]; rfl
  obtain ⟨c, hc⟩ : ∃ c : Nat, c = (8 - t.size % 8) % 8 := ⟨_, rfl⟩
  have hp : t ++ lst (zeros c) = padS 2 s := by
    rw [lst_app]
    unfold padS padL fillL
    rw [if_pos rfl, ← htl, if_neg (fun h => by rw [← slen, h] at hts; simp at hts), slen, hc]
  have R := Aside0.mk (repeat_any c (by omega))
  have hz : (lst (zeros c)).size ≤ 8 := by rw [lst_size]; unfold zeros; rw [List.length_replicate]; omega
  have hcc : Aside0 ((8 - (t.size : Int) % 8) % 8 = (c : Int) ∧ -((t.size : Int) % 8) % 8 = (c : Int)) := ⟨by omega⟩
  have hm2 : t.size ≤ 140737488354001 := by omega
  clear hc htl hts
  go_enter Tryz.func36, Tryz.ntmps36
  go_wp2_with fail
  rw [hcc.out.1, hcc.out.2]
  refine (R.out _).mono ?_
  rintro e w1 ⟨rfl, hb⟩
  have B := Aside0.mk hb
  clear hb
  go_wp2_with fail
  go_ret2
  exact ⟨rfl, B.out⟩
theorem pad_any (m : Int) (h : m = 1 ∨ m = 2) (s : ByteArray) (hm : s.size ≤ 140737488354000) (w : World) :
    Calls Tryz.prog 36 #[.int .i64 m, .string s] w fun e w' => e = .returned (.tuple #[.string (padS m s), .int .i64 0]) ∧ Below w.heap.size w w' := by
  rcases h with rfl | rfl
  · exact pad_one s hm w
  · exact pad_two s hm w

/-! ### The document's own -/
theorem rpad_go : ∀ (d k : Nat) (t : ByteArray), t.size ≤ 140737488355000 → t.size ≠ 0 → (8 - t.size % 8) % 8 = d → d < k →
    turnstileref4_Pad.l0 k t = some (lst (t.data.toList ++ zeros d), 0) := by
  intro d
  induction d with
  | zero =>
    intro k t hm h0 hd hk
    obtain ⟨k, rfl⟩ : ∃ m, k = m + 1 := ⟨k - 1, by omega⟩
    rw [turnstileref4_Pad.l0, if_pos (by omega), if_neg (by omega)]
    rw [show zeros 0 = [] from rfl, List.append_nil, lst_self]
  | succ d ih =>
    intro k t hm h0 hd hk
    obtain ⟨k, rfl⟩ : ∃ m, k = m + 1 := ⟨k - 1, by omega⟩
    have hl : (t ++ (⟨#[0]⟩ : ByteArray)).data.toList = t.data.toList ++ [0] := by rw [ByteArray.data_append]; simp
    have hz : (t ++ (⟨#[0]⟩ : ByteArray)).size = t.size + 1 := by rw [← slen, hl, List.length_append, slen]; rfl
    have hn := ih k (t ++ (⟨#[0]⟩ : ByteArray)) (by omega) (by omega) (by omega) (by omega)
    rw [turnstileref4_Pad.l0, if_neg (by omega), if_pos (by omega), hn, hl, List.append_assoc]
    rfl
theorem rpad_fill (t : ByteArray) (hm : t.size ≤ 140737488354500) (k : Nat) (hk : 10 < k) : turnstileref4_Pad.l0 k t = some (lst (fillL t.data.toList), 0) := by
  by_cases h0 : t.size = 0
  · have ht : t = ⟨#[]⟩ := byteArray_ext (List.eq_nil_of_length_eq_zero (by rw [slen]; exact h0))
    subst ht
    obtain ⟨k, rfl⟩ : ∃ m, k = m + 1 := ⟨k - 1, by omega⟩
    rw [turnstileref4_Pad.l0, if_pos (by decide), if_pos (by decide), if_pos (by decide)]
    have := rpad_go 7 k ((⟨#[]⟩ : ByteArray) ++ (⟨#[0]⟩ : ByteArray)) (by decide) (by decide) (by decide) (by omega)
    rw [this]
    rfl
  · rw [rpad_go _ k t (by omega) h0 rfl (by omega)]
    unfold fillL
    rw [if_neg (fun h => h0 (by rw [← slen, h]; rfl)), slen]
theorem refPad_yes (m : Int) (h : m = 1 ∨ m = 2) (s : ByteArray) (hm : s.size ≤ 140737488354000) (w : World) :
    Calls Tryz.prog 40 #[.int .i64 m, .string s] w fun e w' => e = .returned (.tuple #[.string (padS m s), .int .i64 0]) ∧ Below w.heap.size w w' := by
  refine (turnstileref4_Pad.calls 20 m s (padS m s) 0 w ?_).mono fun e w' ⟨he, hd⟩ => ⟨he, hd.below⟩
  unfold turnstileref4_Pad.f padS padL
  rcases h with rfl | rfl
  · rw [if_pos rfl, if_pos (by omega), turnstileref4_Pad.j0, rpad_fill _ (by rw [ByteArray.size_append]; show s.size + 0 ≤ _; omega) 19 (by decide), ByteArray.data_append]
    simp
  · rw [if_neg (by decide), if_pos rfl, if_pos (by omega), turnstileref4_Pad.j0, rpad_fill _ (by rw [ByteArray.size_append]; show s.size + 1 ≤ _; omega) 19 (by decide), ByteArray.data_append]
    simp
theorem refPad_no (m : Int) (h1 : m ≠ 1) (h2 : m ≠ 2) (s : ByteArray) (w : World) :
    Calls Tryz.prog 40 #[.int .i64 m, .string s] w fun e w' => e = .returned (.tuple #[.string ⟨#[]⟩, .int .i64 1]) ∧ Below w.heap.size w w' := by
  refine (turnstileref4_Pad.calls 20 m s ⟨#[]⟩ 1 w ?_).mono fun e w' ⟨he, hd⟩ => ⟨he, hd.below⟩
  unfold turnstileref4_Pad.f
  rw [if_neg h1, if_neg h2]
/-- What both answer, of any method. -/
def padT (m : Int) (s : ByteArray) : ByteArray := if m = 1 ∨ m = 2 then padS m s else ⟨#[]⟩
def padE (m : Int) : Int := if m = 1 ∨ m = 2 then 0 else 1
theorem pad_all (m : Int) (s : ByteArray) (hm : s.size ≤ 140737488354000) (w : World) :
    Calls Tryz.prog 36 #[.int .i64 m, .string s] w fun e w' => e = .returned (.tuple #[.string (padT m s), .int .i64 (padE m)]) ∧ Below w.heap.size w w' := by
  unfold padT padE
  by_cases h : m = 1 ∨ m = 2
  · rw [if_pos h, if_pos h]; exact pad_any m h s hm w
  · rw [if_neg h, if_neg h]; exact pad_no m (fun e => h (.inl e)) (fun e => h (.inr e)) s w
theorem refPad_all (m : Int) (s : ByteArray) (hm : s.size ≤ 140737488354000) (w : World) :
    Calls Tryz.prog 40 #[.int .i64 m, .string s] w fun e w' => e = .returned (.tuple #[.string (padT m s), .int .i64 (padE m)]) ∧ Below w.heap.size w w' := by
  unfold padT padE
  by_cases h : m = 1 ∨ m = 2
  · rw [if_pos h, if_pos h]; exact refPad_yes m h s hm w
  · rw [if_neg h, if_neg h]; exact refPad_no m (fun e => h (.inl e)) (fun e => h (.inr e)) s w

/-! ### Same -/
theorem or_u8s (a b : UInt8) : Go.bits .or .u8 ((a.toNat : Nat) : Int) ((b.toNat : Nat) : Int) = (((a ||| b).toNat : Nat) : Int) := by
  have ha := a.toNat_lt
  have hb := b.toNat_lt
  show IntKind.u8.wrap (((BitVec.ofInt 8 (a.toNat : Int) ||| BitVec.ofInt 8 (b.toNat : Int) : BitVec 8).toNat : Nat) : Int) = _
  rw [BitVec.toNat_or, BitVec.ofInt_natCast, BitVec.ofInt_natCast, BitVec.toNat_ofNat, BitVec.toNat_ofNat, Nat.mod_eq_of_lt ha, Nat.mod_eq_of_lt hb, IntKind.wrap_u8, UInt8.toNat_or]
  have h : a.toNat ||| b.toNat < 2 ^ 8 := Nat.or_lt_two_pow ha hb
  omega
theorem bt_l (s : ByteArray) (i : Nat) (h : i < s.data.toList.length) : bt s (i : Int) = ((s.data.toList[i].toNat : Nat) : Int) := by
  have h' : i < s.size := by rw [Array.length_toList] at h; exact h
  rw [← bt_at s (i : Int) h']
  rfl
theorem same_go (a b : ByteArray) (h : a.size = b.size) (hm : a.size ≤ 140737488355328) : ∀ (d i k : Nat) (c : UInt8), i + d = a.size → d < k →
    seal_Same.l0 k a b ((c.toNat : Nat) : Int) (a.size : Int) (i : Int) = some (decide (c = 0 ∧ a.data.toList.drop i = b.data.toList.drop i)) := by
  intro d
  induction d with
  | zero =>
    intro i k c hi hk
    obtain ⟨k, rfl⟩ : ∃ m, k = m + 1 := ⟨k - 1, by omega⟩
    rw [seal_Same.l0, if_neg (by omega), List.drop_of_length_le (by rw [slen]; omega), List.drop_of_length_le (by rw [slen]; omega)]
    congr 1
    rw [Bool.eq_iff_iff, beq_iff_eq, decide_eq_true_iff]
    constructor
    · intro h0; exact ⟨UInt8.toNat_inj.1 (by have : c.toNat = 0 := by omega
                                             exact this), rfl⟩
    · rintro ⟨rfl, _⟩; rfl
  | succ d ih =>
    intro i k c hi hk
    obtain ⟨k, rfl⟩ : ∃ m, k = m + 1 := ⟨k - 1, by omega⟩
    have ha : i < a.data.toList.length := by rw [slen]; omega
    have hb : i < b.data.toList.length := by rw [slen]; omega
    have hw : wrap64 ((i : Int) + 1) = ((i + 1 : Nat) : Int) := by rw [w64_id (by omega) (by omega)]; omega
    rw [seal_Same.l0, if_pos (by omega), if_pos (by omega), if_pos (by omega), if_pos (by omega), bt_l a i ha, bt_l b i hb, xor_u8s, or_u8s, hw, ih (i + 1) k _ (by omega) (by omega)]
    rw [List.drop_eq_getElem_cons ha, List.drop_eq_getElem_cons hb]
    congr 1
    rw [decide_eq_decide]
    rw [UInt8.or_eq_zero_iff, UInt8.xor_eq_zero_iff, List.cons.injEq]
    constructor
    · rintro ⟨⟨h1, h2⟩, h3⟩; exact ⟨h1, h2, h3⟩
    · rintro ⟨h1, h2, h3⟩; exact ⟨⟨h1, h2⟩, h3⟩
theorem same_any (a b : ByteArray) (hm : a.size ≤ 140737488355328) (w : World) :
    Calls Tryz.prog 28 #[.string a, .string b] w fun e w' => e = .returned (.bool (decide (a = b))) ∧ Below w.heap.size w w' := by
  refine (seal_Same.calls (a.size + 1) a b _ w ?_).mono fun e w' ⟨he, hd⟩ => ⟨he, hd.below⟩
  unfold seal_Same.f
  by_cases h : a.size = b.size
  · have := same_go a b h hm a.size 0 (a.size + 1) 0 (by omega) (by omega)
    rw [show (((0 : UInt8).toNat : Nat) : Int) = 0 from rfl, show ((0 : Nat) : Int) = 0 from rfl] at this
    rw [if_pos (by omega), this, List.drop_zero, List.drop_zero]
    congr 1
    rw [decide_eq_decide]
    exact ⟨fun ⟨_, h2⟩ => byteArray_ext h2, fun h2 => ⟨rfl, by rw [h2]⟩⟩
  · rw [if_neg (by omega), decide_eq_false (fun e => h (by rw [e]))]
end Go.Proofs.YtopobangjpehnaaGreat.Seal
