/- The walk of the law CipherParts. -/
import Derived.Test.YtopobangjpehnaaWeakLaw
set_option linter.unusedVariables false
set_option linter.unusedSimpArgs false
namespace Go.Proofs.Ytopobangjpehnaa.Walk
open Go.RowKit Go.Proofs.YtopobangjpehnaaW.PrintWords Go.Proofs.YtopobangjpehnaaW.PrintLast Go.Proofs.YtopobangjpehnaaW.PrintMore Pr Des Num

theorem partAt_mid (p q r : List UInt8) (j : Nat) (hp : p.length = 8 * j) (hq : q.length = 8) : partAt (p ++ q ++ r) j = bitsB q := by
  unfold partAt
  rw [← hp, List.append_assoc, List.drop_left, ← hq, List.take_left]
theorem three (key : List UInt8) (hk : kindOf key ≠ 1) (x : List Bool) :
    turnB key false x = oneB (partOf key 2) false (oneB (partOf key 1) true (oneB (partOf key 0) false x)) := by
  unfold turnB; rw [if_neg hk]; rfl
theorem single (key : List UInt8) (hl : key.length = 8) (x : List Bool) : turnB key false x = oneB (bitsB key) false x := by
  have hk : kindOf key = 1 := by unfold kindOf; rw [if_pos hl]
  have hp : partOf key 0 = bitsB key := by
    unfold partOf; rw [if_neg (by omega)]
    have := partAt_mid [] key [] 0 rfl hl
    simpa using this
  unfold turnB; rw [if_pos hk, hp]
theorem double (a c : List UInt8) (ha : a.length = 8) (hc : c.length = 8) (x : List Bool) : turnB (a ++ c) false x = oneB (bitsB a) false (oneB (bitsB c) true (oneB (bitsB a) false x)) := by
  have hk : kindOf (a ++ c) = 2 := by unfold kindOf; rw [List.length_append, ha, hc]; rfl
  have h0 : partAt (a ++ c) 0 = bitsB a := by simpa using partAt_mid [] a c 0 rfl ha
  have h1 : partAt (a ++ c) 1 = bitsB c := by simpa using partAt_mid a c [] 1 ha hc
  rw [three _ (by omega)]
  unfold partOf
  rw [if_pos ⟨hk, rfl⟩, if_neg (by omega), if_neg (by omega), h0, h1]
theorem triple (a c d : List UInt8) (ha : a.length = 8) (hc : c.length = 8) (hd : d.length = 8) (x : List Bool) : turnB (a ++ c ++ d) false x = oneB (bitsB d) false (oneB (bitsB c) true (oneB (bitsB a) false x)) := by
  have hk : kindOf (a ++ c ++ d) = 3 := by unfold kindOf; rw [List.length_append, List.length_append, ha, hc, hd]; rfl
  have h0 : partAt (a ++ c ++ d) 0 = bitsB a := by simpa using partAt_mid [] a (c ++ d) 0 rfl ha
  have h1 : partAt (a ++ c ++ d) 1 = bitsB c := partAt_mid a c d 1 ha hc
  have h2 : partAt (a ++ c ++ d) 2 = bitsB d := by simpa using partAt_mid (a ++ c) d [] 2 (by rw [List.length_append, ha, hc]) hd
  rw [three _ (by omega)]
  unfold partOf
  rw [if_neg (by omega), if_neg (by omega), if_neg (by omega), h0, h1, h2]
theorem unturn (k : List Bool) (x : List Bool) (hx : x.length = 64) : oneB k true (oneB k false x) = x := oneB_back k false x hx
theorem unturn' (k : List Bool) (x : List Bool) (hx : x.length = 64) : oneB k false (oneB k true x) = x := oneB_back k true x hx
theorem app_list (a b : ByteArray) : (a ++ b).data.toList = a.data.toList ++ b.data.toList := by rw [ByteArray.data_append]; simp
theorem len_list (a : ByteArray) : a.data.toList.length = a.size := by rw [Array.length_toList]; rfl
theorem under_aa (a t : ByteArray) (ha : a.size = 8) (ht : t.size % 8 = 0) : underS (a ++ a) t = underS a t := by
  have h := (len_list a).trans ha
  refine ecb_congr _ _ false (fun x hx => ?_) t ht
  rw [app_list, double _ _ h h, single _ h, unturn _ _ hx]
theorem under_aac (a c t : ByteArray) (ha : a.size = 8) (hc : c.size = 8) (ht : t.size % 8 = 0) : underS (a ++ a ++ c) t = underS c t := by
  have h := (len_list a).trans ha
  have h' := (len_list c).trans hc
  refine ecb_congr _ _ false (fun x hx => ?_) t ht
  rw [app_list, app_list, triple _ _ _ h h h', single _ h', unturn _ _ hx]
theorem under_acc (a c t : ByteArray) (ha : a.size = 8) (hc : c.size = 8) (ht : t.size % 8 = 0) : underS (a ++ c ++ c) t = underS a t := by
  have h := (len_list a).trans ha
  have h' := (len_list c).trans hc
  refine ecb_congr _ _ false (fun x hx => ?_) t ht
  rw [app_list, app_list, triple _ _ _ h h' h', single _ h, unturn' _ _ (oneB_length _ _ _)]
theorem under_aca (a c t : ByteArray) (ha : a.size = 8) (hc : c.size = 8) (ht : t.size % 8 = 0) : underS (a ++ c ++ a) t = underS (a ++ c) t := by
  have h := (len_list a).trans ha
  have h' := (len_list c).trans hc
  refine ecb_congr _ _ false (fun x hx => ?_) t ht
  rw [app_list, app_list, triple _ _ _ h h' h, double _ _ h h']
theorem under_hi7 (a b t : ByteArray) (h : hi7 a.data.toList = hi7 b.data.toList) (ht : t.size % 8 = 0) : underS a t = underS b t :=
  ecb_congr _ _ false (fun x hx => turnB_hi7 h false x hx) t ht

set_option maxHeartbeats 4000000 in
set_option maxRecDepth 100000 in
theorem parts_law (w : World) (one : ByteArray) (h1 : one.size ≤ 140737488351232) (two : ByteArray) (h2 : two.size ≤ 140737488351232) (s : ByteArray) (hs : s.size ≤ 140737488351232)
    (A : Option Addr) (len cap : Nat) (hlen : len ≤ 140737488351232) (hlow : Bools w A len) :
    Calls Try.prog 14 #[.string one, .string two, .string s, .slice A len cap] w fun e w' => e = .returned (.bool true) ∧ Below w.heap.size w w' := by
  obtain ⟨a, ha, HA⟩ := fit_any one 8 (by omega) (by omega) (by omega)
  obtain ⟨c, hc, HC⟩ := fit_any two 8 (by omega) (by omega) (by omega)
  obtain ⟨t, ht, hts, HW⟩ := whole_any s 20 (by decide) (by omega)
  have ha8 : a.size = 8 := by omega
  have hc8 : c.size = 8 := by omega
  have UA := under_any a t (.inl ha8) ht (by omega)
  have UC := under_any c t (.inl hc8) ht (by omega)
  have UAA := under_any (a ++ a) t (.inr (.inl (by rw [ByteArray.size_append]; omega))) ht (by omega)
  rw [under_aa a t ha8 ht] at UAA
  have UAAC := under_any (a ++ a ++ c) t (.inr (.inr (by rw [ByteArray.size_append, ByteArray.size_append]; omega))) ht (by omega)
  rw [under_aac a c t ha8 hc8 ht] at UAAC
  have UACC := under_any (a ++ c ++ c) t (.inr (.inr (by rw [ByteArray.size_append, ByteArray.size_append]; omega))) ht (by omega)
  rw [under_acc a c t ha8 hc8 ht] at UACC
  have UACA := under_any (a ++ c ++ a) t (.inr (.inr (by rw [ByteArray.size_append, ByteArray.size_append]; omega))) ht (by omega)
  rw [under_aca a c t ha8 hc8 ht] at UACA
  have hac : (a ++ c).size = 16 := by rw [ByteArray.size_append]; omega
  have UAC := under_any (a ++ c) t (.inr (.inl hac)) ht (by omega)
  have k1 := cat a a (by omega)
  have k2 := cat a c (by omega)
  have k3 := cat (a ++ a) c (by rw [ByteArray.size_append]; omega)
  have k4 := cat (a ++ c) c (by omega)
  have k5 := cat (a ++ c) a (by omega)
  have hX : (underS a t).size = t.size := blocksStr_size _ _ ht
  have hY : (underS c t).size = t.size := blocksStr_size _ _ ht
  generalize hXe : underS a t = X at *
  generalize hYe : underS c t = Y at *
  generalize ha3 : a ++ a ++ c = aac at *
  generalize ha2 : a ++ a = aa at *
  generalize ha4 : a ++ c ++ c = acc at *
  generalize ha5 : a ++ c ++ a = aca at *
  generalize ha6 : a ++ c = ac at *
  clear hXe hYe ha3 ha2 ha4 ha5 ha6
  have c1 : ((X.size : Int) != (t.size : Int)) = false := by rw [bne_eq_false_iff_eq, hX]
  have c2 : ((Y.size : Int) != (t.size : Int)) = false := by rw [bne_eq_false_iff_eq, hY]
  have UK : ∀ k : ByteArray, k.size = 16 → hi7 k.data.toList = hi7 ac.data.toList → ∀ W : World, Calls Try.prog 24 #[.string k, .string t] W fun e w' => e = .returned (.string (underS ac t)) ∧ Below W.heap.size W w' := by
    intro k hk hh W
    have := under_any k t (.inr (.inl hk)) ht (by omega) W
    rwa [under_hi7 k ac t hh ht] at this
  have hkind : ∀ k : ByteArray, k.size = 16 → 1 ≤ kindOf k.data.toList := fun k hk => (kind_of_size (.inr (.inl hk))).1
  have CK : ∀ k : ByteArray, k.size = 16 → hi7 k.data.toList = hi7 ac.data.toList → ∀ W : World, Calls Try.prog 41 #[.string k] W fun e w' => e = .returned (.tuple #[.string ⟨(checkB ac.data.toList).toArray⟩, .int .i64 0]) ∧ Below W.heap.size W w' := by
    intro k hk hh W
    have := check_yes k (hkind k hk) W
    rwa [checkB_hi7 hh] at this
  have WK : ∀ k : ByteArray, hi7 k.data.toList = hi7 ac.data.toList → ∀ W : World, Calls Try.prog 42 #[.string k] W fun e w' => e = .returned (.bool (weakB ac.data.toList)) ∧ Below W.heap.size W w' := by
    intro k hh W
    have := weak_any k W
    rwa [weakB_hi7 hh] at this
  have OK := odd_any ac (by omega)
  have hp1 : (oddS ac).size = 16 := by rw [oddS_size, hac]
  have hp2 : hi7 (oddS ac).data.toList = hi7 ac.data.toList := by
    show hi7 (oddL ac.data.toList) = _
    exact oddL_hi7 _
  generalize oddS ac = p at *
  generalize (⟨(checkB ac.data.toList).toArray⟩ : ByteArray) = q at *
  generalize weakB ac.data.toList = wv at *
  generalize underS ac t = Z at *
  have HA' := Aside0.mk HA
  have HC' := Aside0.mk HC
  have HW' := Aside0.mk HW
  have UA' := Aside0.mk UA
  have UC' := Aside0.mk UC
  have UAA' := Aside0.mk UAA
  have UAAC' := Aside0.mk UAAC
  have UACC' := Aside0.mk UACC
  have UACA' := Aside0.mk UACA
  have UAC' := Aside0.mk UAC
  have UK' := Aside0.mk UK
  have CK' := Aside0.mk CK
  have WK' := Aside0.mk WK
  have OK' := Aside0.mk OK
  have UP' := Aside0.mk (UK p hp1 hp2)
  have CP' := Aside0.mk (CK p hp1 hp2)
  have CA' := Aside0.mk (CK ac hac rfl)
  have WA' := Aside0.mk (WK ac rfl)
  have HL := Aside0.mk hlow
  have HS := Aside0.mk hac
  clear HA HC HW UA UC UAA UAAC UACC UACA UAC UK CK WK OK hkind hlow hX hY h1 h2 hs ha hc ht hts ha8 hc8 hp1 hp2 hac
  go_enter Try.func14, Try.ntmps14
  go_wp2_with fail
  refine (known_any _).mono ?_
  rintro e w1 ⟨rfl, hb⟩
  have B := Aside0.mk hb
  clear hb
  go_wp2_with fail
  refine (HA'.out _).mono ?_
  rintro e w2 ⟨rfl, hb⟩
  replace B := Aside0.mk (B.out.trans (hb.mono B.out.size))
  clear hb
  go_wp2_with fail
  refine (HC'.out _).mono ?_
  rintro e w3 ⟨rfl, hb⟩
  replace B := Aside0.mk (B.out.trans (hb.mono B.out.size))
  clear hb
  go_wp2_with fail
  refine (HW'.out _).mono ?_
  rintro e w4 ⟨rfl, hb⟩
  replace B := Aside0.mk (B.out.trans (hb.mono B.out.size))
  clear hb
  go_wp2_with fail
  refine (UA'.out _).mono ?_
  rintro e w5 ⟨rfl, hb⟩
  replace B := Aside0.mk (B.out.trans (hb.mono B.out.size))
  clear hb
  go_wp2_with fail
  refine (UC'.out _).mono ?_
  rintro e w6 ⟨rfl, hb⟩
  replace B := Aside0.mk (B.out.trans (hb.mono B.out.size))
  clear hb
  go_wp2_with fail
  refine (UAA'.out _).mono ?_
  rintro e w7 ⟨rfl, hb⟩
  replace B := Aside0.mk (B.out.trans (hb.mono B.out.size))
  clear hb
  go_wp2_with fail
  refine (UAAC'.out _).mono ?_
  rintro e w8 ⟨rfl, hb⟩
  replace B := Aside0.mk (B.out.trans (hb.mono B.out.size))
  clear hb
  go_wp2_with fail
  refine (UACC'.out _).mono ?_
  rintro e w9 ⟨rfl, hb⟩
  replace B := Aside0.mk (B.out.trans (hb.mono B.out.size))
  clear hb
  go_wp2_with fail
  refine (UACA'.out _).mono ?_
  rintro e w10 ⟨rfl, hb⟩
  replace B := Aside0.mk (B.out.trans (hb.mono B.out.size))
  clear hb
  go_wp2_with fail
  refine (UAC'.out _).mono ?_
  rintro e w11 ⟨rfl, hb⟩
  replace B := Aside0.mk (B.out.trans (hb.mono B.out.size))
  clear hb
  have hcv := print_bytes (P := Try.prog) 9 53 5 Try.underlying9 Try.underlying53 Try.underlying5 ac w11
  have R := Aside0.mk (BRow.new w11 ac)
  have HS2 : Aside0 (w.heap.size ≤ w11.heap.size) := ⟨B.out.size⟩
  replace B := Aside0.mk (bytes_below B.out B.out.size 5 ac)
  rw [HS.out] at hcv
  generalize Lib.bytesWorld w11 5 ac = w12 at *
  generalize grownCap w11 16 0 5 = cp at *
  go_wp2_with fail
  clear hcv
  go_loopw [16] (fun v14 wr => ∃ (i : Nat) (l : List UInt8), i ≤ 16 ∧ v14 = .int .i64 i ∧ Aside0 (BRow wr w11.heap.size l) ∧ Aside0 (l.length = 16 ∧ hi7 l = hi7 ac.data.toList) ∧ Aside0 (Below w.heap.size w wr)) (fun i _ => 16 - (intOf i).toNat)
  case atStart => exact ⟨0, ac.data.toList, Nat.zero_le _, rfl, R, ⟨⟨(len_list ac).trans HS.out, rfl⟩⟩, B⟩
  case round =>
    clear R B
    obtain ⟨i, l, hi, rfl, R, HI, B⟩ := hrel
    by_cases hlt : i < 16 ∧ i < len
    · obtain ⟨hl8, hln⟩ := hlt
      obtain ⟨ad, b, rfl, ha, hblk⟩ := HL.out i hln
      have hil : i < l.length := by rw [HI.out.1]; exact hl8
      obtain ⟨x, hx⟩ : ∃ x : UInt8, l[i] = x := ⟨_, rfl⟩
      have q1 : wr.cell? ⟨w11.heap.size, i, none⟩ = some (.int .u8 ((x.toNat : Nat) : Int)) := by rw [R.out.cell i hil, hx]
      have q2 : wr.frozen? ⟨w11.heap.size, i, none⟩ = false := R.out.frozen i hil
      have q3 : wr.cell? (ad.add i) = some (.bool b) := (B.out.cell hblk).trans ha
      have HX := Aside0.mk (hi7_set l i x hil hx)
      have R2 := R.out.set_ i (x ^^^ 1)
      rw [UInt8.toNat_xor] at R2
      have hx1 := xor_one x
      rw [UInt8.toNat_xor] at hx1
      have HR2 := Aside0.mk R2
      clear ha hblk hil hx R2
      cases b
      · go_wp2
        go_roundw
        case rel => exact ⟨i + 1, l, by omega, by go_num, R, HI, B⟩
        case measure => simp [intOf]; omega
      · go_wp2
        exact ⟨⟨i + 1, l.set i (x ^^^ 1), by omega, by go_num, ⟨HR2.out⟩, ⟨⟨by rw [List.length_set]; exact HI.out.1, HX.out.trans HI.out.2⟩⟩, ⟨B.out.setCell (p := ⟨w11.heap.size, i, none⟩) HS2.out _⟩⟩, by simp [intOf]; omega⟩
    · have hz : ∀ W : World, BRow W w11.heap.size l → (convert 53 9 (.slice (some ⟨w11.heap.size, 0, none⟩) 16 cp)).run Try.prog W = .ok (.string ⟨l.toArray⟩) W := by
        intro W hR
        have := hR.string (c := cp) (by rw [HI.out.1]; decide)
        rwa [HI.out.1] at this
      obtain ⟨key, hkey⟩ : ∃ key : ByteArray, key = ⟨l.toArray⟩ := ⟨_, rfl⟩
      have hkl : key.data.toList = l := by rw [hkey]
      have hks : key.size = 16 := by rw [← len_list, hkl, HI.out.1]
      have hhi : hi7 key.data.toList = hi7 ac.data.toList := by rw [hkl]; exact HI.out.2
      rw [← hkey] at hz
      have CB := Aside0.mk (CK'.out key hks hhi)
      have WB := Aside0.mk (WK'.out key hhi)
      have UB := Aside0.mk (UK'.out key hks hhi)
      have HZ := Aside0.mk hz
      clear hkey hkl hks hhi hz HI
      by_cases h8 : i < 16
      · have hnl : ¬ i < len := fun h => hlt ⟨h8, h⟩
        clear hlt
        go_wp2_with fail
        refine (OK'.out _).mono ?_
        rintro e x1 ⟨rfl, hb⟩
        replace B := Aside0.mk (B.out.trans (hb.mono B.out.size))
        replace R := Aside0.mk (R.out.step hb)
        clear hb
        go_wp2_with fail
        refine (CA'.out _).mono ?_
        rintro e x2 ⟨rfl, hb⟩
        replace B := Aside0.mk (B.out.trans (hb.mono B.out.size))
        replace R := Aside0.mk (R.out.step hb)
        clear hb
        have hz := HZ.out x2 R.out
        go_wp2_with fail
        clear hz
        refine (CB.out _).mono ?_
        rintro e x3 ⟨rfl, hb⟩
        replace B := Aside0.mk (B.out.trans (hb.mono B.out.size))
        replace R := Aside0.mk (R.out.step hb)
        clear hb
        go_wp2_with fail
        refine (CP'.out _).mono ?_
        rintro e x4 ⟨rfl, hb⟩
        replace B := Aside0.mk (B.out.trans (hb.mono B.out.size))
        replace R := Aside0.mk (R.out.step hb)
        clear hb
        go_wp2_with fail
        refine (WA'.out _).mono ?_
        rintro e x5 ⟨rfl, hb⟩
        replace B := Aside0.mk (B.out.trans (hb.mono B.out.size))
        replace R := Aside0.mk (R.out.step hb)
        clear hb
        have hz := HZ.out x5 R.out
        go_wp2_with fail
        clear hz
        refine (WB.out _).mono ?_
        rintro e x6 ⟨rfl, hb⟩
        replace B := Aside0.mk (B.out.trans (hb.mono B.out.size))
        replace R := Aside0.mk (R.out.step hb)
        clear hb
        have hz := HZ.out x6 R.out
        go_wp2_with fail
        clear hz
        refine (UB.out _).mono ?_
        rintro e x7 ⟨rfl, hb⟩
        replace B := Aside0.mk (B.out.trans (hb.mono B.out.size))
        replace R := Aside0.mk (R.out.step hb)
        clear hb
        go_wp2_with fail
        refine (UAC'.out _).mono ?_
        rintro e x8 ⟨rfl, hb⟩
        replace B := Aside0.mk (B.out.trans (hb.mono B.out.size))
        replace R := Aside0.mk (R.out.step hb)
        clear hb
        go_wp2_with fail
        refine (UP'.out _).mono ?_
        rintro e x9 ⟨rfl, hb⟩
        replace B := Aside0.mk (B.out.trans (hb.mono B.out.size))
        replace R := Aside0.mk (R.out.step hb)
        clear hb
        go_wp2_with fail
        refine (UAC'.out _).mono ?_
        rintro e x10 ⟨rfl, hb⟩
        replace B := Aside0.mk (B.out.trans (hb.mono B.out.size))
        replace R := Aside0.mk (R.out.step hb)
        clear hb
        go_wp2_with fail
        go_ret
        exact ⟨by simp, B.out⟩
      · clear hlt
        go_wp2_with fail
        refine (OK'.out _).mono ?_
        rintro e x1 ⟨rfl, hb⟩
        replace B := Aside0.mk (B.out.trans (hb.mono B.out.size))
        replace R := Aside0.mk (R.out.step hb)
        clear hb
        go_wp2_with fail
        refine (CA'.out _).mono ?_
        rintro e x2 ⟨rfl, hb⟩
        replace B := Aside0.mk (B.out.trans (hb.mono B.out.size))
        replace R := Aside0.mk (R.out.step hb)
        clear hb
        have hz := HZ.out x2 R.out
        go_wp2_with fail
        clear hz
        refine (CB.out _).mono ?_
        rintro e x3 ⟨rfl, hb⟩
        replace B := Aside0.mk (B.out.trans (hb.mono B.out.size))
        replace R := Aside0.mk (R.out.step hb)
        clear hb
        go_wp2_with fail
        refine (CP'.out _).mono ?_
        rintro e x4 ⟨rfl, hb⟩
        replace B := Aside0.mk (B.out.trans (hb.mono B.out.size))
        replace R := Aside0.mk (R.out.step hb)
        clear hb
        go_wp2_with fail
        refine (WA'.out _).mono ?_
        rintro e x5 ⟨rfl, hb⟩
        replace B := Aside0.mk (B.out.trans (hb.mono B.out.size))
        replace R := Aside0.mk (R.out.step hb)
        clear hb
        have hz := HZ.out x5 R.out
        go_wp2_with fail
        clear hz
        refine (WB.out _).mono ?_
        rintro e x6 ⟨rfl, hb⟩
        replace B := Aside0.mk (B.out.trans (hb.mono B.out.size))
        replace R := Aside0.mk (R.out.step hb)
        clear hb
        have hz := HZ.out x6 R.out
        go_wp2_with fail
        clear hz
        refine (UB.out _).mono ?_
        rintro e x7 ⟨rfl, hb⟩
        replace B := Aside0.mk (B.out.trans (hb.mono B.out.size))
        replace R := Aside0.mk (R.out.step hb)
        clear hb
        go_wp2_with fail
        refine (UAC'.out _).mono ?_
        rintro e x8 ⟨rfl, hb⟩
        replace B := Aside0.mk (B.out.trans (hb.mono B.out.size))
        replace R := Aside0.mk (R.out.step hb)
        clear hb
        go_wp2_with fail
        refine (UP'.out _).mono ?_
        rintro e x9 ⟨rfl, hb⟩
        replace B := Aside0.mk (B.out.trans (hb.mono B.out.size))
        replace R := Aside0.mk (R.out.step hb)
        clear hb
        go_wp2_with fail
        refine (UAC'.out _).mono ?_
        rintro e x10 ⟨rfl, hb⟩
        replace B := Aside0.mk (B.out.trans (hb.mono B.out.size))
        replace R := Aside0.mk (R.out.step hb)
        clear hb
        go_wp2_with fail
        go_ret
        exact ⟨by simp, B.out⟩
end Go.Proofs.Ytopobangjpehnaa.Walk
