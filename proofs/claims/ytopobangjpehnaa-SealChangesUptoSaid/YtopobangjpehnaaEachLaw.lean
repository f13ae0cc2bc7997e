/- The walk of the law CipherEach: blocks one by one, and a chain put together by hand. -/
import Derived.Test.YtopobangjpehnaaXor
import Derived.Test.YtopobangjpehnaaTurned
set_option linter.unusedVariables false
set_option linter.unusedSimpArgs false
namespace Go.Proofs.Ytopobangjpehnaa.Walk
open Go.RowKit Go.Proofs.YtopobangjpehnaaW.PrintWords Go.Proofs.YtopobangjpehnaaW.PrintLast Go.Proofs.YtopobangjpehnaaW.PrintMore Pr Des Num

def lst (l : List UInt8) : ByteArray := ⟨l.toArray⟩
theorem lst_list (l : List UInt8) : (lst l).data.toList = l := rfl
theorem lst_size (l : List UInt8) : (lst l).size = l.length := by
  show l.toArray.size = l.length
  simp
theorem lst_append (a b : List UInt8) : lst a ++ lst b = lst (a ++ b) := by
  apply byteArray_ext
  rw [ByteArray.data_append]; simp [lst]
/-- What a block becomes. -/
def blk8 (key : List UInt8) (x : List Bool) : List UInt8 := bytes8 (num (turnB key false x))
theorem one_block (key : List UInt8) (back : Bool) (s : ByteArray) (h : s.size = 8) : blocksStr (ecbB key back s) s = lst (bytes8 (num (turnB key back (bitsB s.data.toList)))) := by
  apply byteArray_ext
  rw [blocksStr_list, lst_list, h]
  show bytes8 (num (ecbB key back s 0)) ++ [] = _
  rw [List.append_nil]
  unfold ecbB blockAt
  rw [Nat.mul_zero, List.drop_zero, List.take_of_length_le (by rw [Array.length_toList]; show s.size ≤ 8; omega)]
theorem xo_comm (a b : List Bool) : xo a b = xo b a := by
  unfold xo
  rw [List.zipWith_comm]
  congr 1; funext x y; cases x <;> cases y <;> rfl
theorem bitsN_xor (w a b : Nat) : bitsN w (a ^^^ b) = xo (bitsN w a) (bitsN w b) := by
  induction w with
  | zero => rfl
  | succ w ih => simp only [bitsN, ih, Nat.testBit_xor, xo, List.zipWith_cons_cons]
theorem bitsB_xor : ∀ (a b : List UInt8), a.length = b.length → bitsB (xorL a b) = xo (bitsB a) (bitsB b)
  | [], [], _ => rfl
  | x :: a, y :: b, h => by
    have ih := bitsB_xor a b (by simpa using h)
    simp only [xorL, List.zipWith_cons_cons, bitsB, List.flatMap_cons] at ih ⊢
    rw [ih, UInt8.toNat_xor, bitsN_xor]
    unfold xo
    rw [List.zipWith_append (by rw [bitsN_length, bitsN_length])]
theorem xorS_size (a b : ByteArray) (h : a.size = b.size) : (xorS a b).size = a.size := by
  have e1 : a.data.toList.length = a.size := by rw [Array.length_toList]; rfl
  have e2 : b.data.toList.length = b.size := by rw [Array.length_toList]; rfl
  show (xorL a.data.toList b.data.toList).toArray.size = a.size
  rw [List.size_toArray]; unfold xorL; rw [List.length_zipWith]; omega
theorem xorS_list (a b : ByteArray) : (xorS a b).data.toList = xorL a.data.toList b.data.toList := rfl
theorem block_str (t : ByteArray) (q : Nat) (h : 8 * q + 8 ≤ t.size) : (t.extract (8 * q) (8 * q + 8)).size = 8 ∧ bitsB (t.extract (8 * q) (8 * q + 8)).data.toList = blockAt t q := by
  refine ⟨by rw [ByteArray.size_extract]; omega, ?_⟩
  rw [Go.Lib.extract_data, show 8 * q + 8 - 8 * q = 8 by omega]; rfl

theorem slice_block (s : ByteArray) (i : Nat) (h : 8 * i + 8 ≤ s.size) (w : World) :
    (Instr.slice 9 (.string s) (some (.int .i64 (8 * (i : Int)))) (some (.int .i64 (8 * (i : Int) + 8))) none).run Try.prog w = .ok (.string (s.extract (8 * i) (8 * i + 8))) w := by
  rw [run_slice_string (P := Try.prog) w 9 s .i64 .i64 _ _ Try.underlying9 (by omega) (by omega) (by omega)]
  congr 3
set_option maxHeartbeats 4000000 in
set_option maxRecDepth 100000 in
theorem each_law (raw : ByteArray) (hr : raw.size ≤ 140737488351232) (parts : Int) (hp : (Lit.int .i64 parts).wf = true) (first : ByteArray) (hfi : first.size ≤ 140737488351232) (s : ByteArray) (hs : s.size ≤ 140737488351232) (w : World) :
    Calls Try.prog 9 #[.string raw, .int .i64 parts, .string first, .string s] w fun e w' => e = .returned (.bool true) ∧ Below w.heap.size w w' := by
  obtain ⟨p, hp3, HP⟩ := pick_any parts 3 (wf_i64 hp) (by decide) (by decide)
  obtain ⟨key, hkey, HF⟩ := fit_any raw (8 + 8 * (p : Int)) (by omega) (by omega) (by omega)
  obtain ⟨f, hf8, HG⟩ := fit_any first 8 (by omega) (by omega) (by omega)
  obtain ⟨t, ht, hts, HW⟩ := whole_any s 20 (by decide) (by omega)
  have hk : key.size = 8 ∨ key.size = 16 ∨ key.size = 24 := by omega
  have hf : f.size = 8 := by omega
  have hfl : f.data.toList.length = 8 := by rw [Array.length_toList]; exact hf
  have hF := first_len f hf
  obtain ⟨n, hn⟩ : ∃ n, t.size = 8 * n := ⟨t.size / 8, by omega⟩
  have hn20 : n ≤ 20 := by omega
  have hdiv : t.size / 8 = n := by omega
  have hN := new_yes key (kind_of_size hk).1
  have e1 := fun g (W : World) hg => encrypt_yes g key.data.toList t ht (by omega) W hg
  have e2 := fun g (W : World) hg => chain_yes g key.data.toList f t hf ht (by omega) W hg
  have r1 : blocksStr (ecbB key.data.toList false t) t = lst (outBytes (ecbB key.data.toList false t) n) := by unfold blocksStr lst; rw [hdiv]
  have r2 : blocksStr (cbcB key.data.toList (bitsB f.data.toList) t) t = lst (outBytes (cbcB key.data.toList (bitsB f.data.toList) t) n) := by unfold blocksStr lst; rw [hdiv]
  rw [r1] at e1
  rw [r2] at e2
  have hlast0 : f = lst (bytes8 (num (cbcPrev key.data.toList (bitsB f.data.toList) t 0))) := by
    apply byteArray_ext
    rw [lst_list]
    show _ = bytes8 (num (bitsB f.data.toList))
    rw [bytes8_bits _ hfl]
  have hround : ∀ q, q < n → ∃ b m : ByteArray, b = t.extract (8 * q) (8 * q + 8) ∧
      (∀ g (W : World), Blk W g 72 (keyBlock key.data.toList) → Calls Try.prog 40 #[.pointer (some ⟨g, 0, none⟩), .string b] W fun e w' => e = .returned (.tuple #[.string (lst (bytes8 (num (ecbB key.data.toList false t q)))), .int .i64 0]) ∧ Below W.heap.size W w') ∧
      (∀ W : World, Calls Try.prog 33 #[.string (lst (bytes8 (num (cbcPrev key.data.toList (bitsB f.data.toList) t q)))), .string b] W fun e w' => e = .returned (.tuple #[.string m, .int .i64 0]) ∧ Below W.heap.size W w') ∧
      (∀ g (W : World), Blk W g 72 (keyBlock key.data.toList) → Calls Try.prog 40 #[.pointer (some ⟨g, 0, none⟩), .string m] W fun e w' => e = .returned (.tuple #[.string (lst (bytes8 (num (cbcB key.data.toList (bitsB f.data.toList) t q)))), .int .i64 0]) ∧ Below W.heap.size W w') := by
    intro q hq
    obtain ⟨hb1, hb2⟩ := block_str t q (by omega)
    have hpl := cbcPrev_length key.data.toList _ hF t n hn q hq
    have hbl := blockAt_length t n q hn hq
    have hls : (lst (bytes8 (num (cbcPrev key.data.toList (bitsB f.data.toList) t q)))).size = 8 := by rw [lst_size, bytes8_length]
    have hms := xorS_size (lst (bytes8 (num (cbcPrev key.data.toList (bitsB f.data.toList) t q)))) (t.extract (8 * q) (8 * q + 8)) (by rw [hls, hb1])
    rw [hls] at hms
    refine ⟨t.extract (8 * q) (8 * q + 8), xorS (lst (bytes8 (num (cbcPrev key.data.toList (bitsB f.data.toList) t q)))) (t.extract (8 * q) (8 * q + 8)), rfl, ?_, ?_, ?_⟩
    · intro g W hg
      have := encrypt_yes g key.data.toList (t.extract (8 * q) (8 * q + 8)) (by rw [hb1]) (by rw [hb1]; decide) W hg
      rw [one_block _ _ _ hb1, hb2] at this
      exact this
    · intro W
      exact xor_yes _ _ (by rw [hls, hb1]) (by rw [hls]; decide) W
    · intro g W hg
      have := encrypt_yes g key.data.toList _ (by rw [hms]) (by rw [hms]; decide) W hg
      rw [one_block _ _ _ hms, xorS_list, bitsB_xor _ _ (by rw [lst_list, bytes8_length, Array.length_toList]; exact hb1.symm), lst_list, bitsB_bytes8, (num64 _ hpl).2, hb2, xo_comm, ← cbcB_eq] at this
      exact this
  have HR := Aside0.mk hround
  have HL0 := Aside0.mk hlast0
  have HN := Aside0.mk hN
  have HP' := Aside0.mk HP
  have HF' := Aside0.mk HF
  have HG' := Aside0.mk HG
  have HW' := Aside0.mk HW
  have E1 := Aside0.mk e1
  have E2 := Aside0.mk e2
  have HTN := Aside0.mk hn
  have h0 : 0 ≤ (p : Int) := by omega
  have L1 : Aside0 (∀ q, (lst (outBytes (ecbB key.data.toList false t) q)).size = 8 * q ∧ (lst (outBytes (cbcB key.data.toList (bitsB f.data.toList) t) q)).size = 8 * q) := ⟨fun q => ⟨by rw [lst_size, outBytes_length], by rw [lst_size, outBytes_length]⟩⟩
  have L2 : Aside0 (∀ q, lst (outBytes (ecbB key.data.toList false t) q) ++ lst (bytes8 (num (ecbB key.data.toList false t q))) = lst (outBytes (ecbB key.data.toList false t) (q + 1)) ∧
      lst (outBytes (cbcB key.data.toList (bitsB f.data.toList) t) q) ++ lst (bytes8 (num (cbcB key.data.toList (bitsB f.data.toList) t q))) = lst (outBytes (cbcB key.data.toList (bitsB f.data.toList) t) (q + 1)) ∧
      lst (bytes8 (num (cbcB key.data.toList (bitsB f.data.toList) t q))) = lst (bytes8 (num (cbcPrev key.data.toList (bitsB f.data.toList) t (q + 1))))) :=
    ⟨fun q => ⟨by rw [lst_append, outBytes_succ], by rw [lst_append, outBytes_succ], rfl⟩⟩
  have L3 : Aside0 (∀ (q : Nat) (x : List Bool), (lst (bytes8 (num x))).size = 8) := ⟨fun q x => by rw [lst_size, bytes8_length]⟩
  clear hround hlast0 hN HP HF HG HW e1 e2 hkey ht hts hk hf hf8 hfl hF hr hs hp hfi r1 r2 hn hdiv
  generalize hA : ecbB key.data.toList false t = A at *
  generalize hC : cbcB key.data.toList (bitsB f.data.toList) t = C at *
  generalize hV : cbcPrev key.data.toList (bitsB f.data.toList) t = V at *
  clear hA hC hV
  go_enter Try.func9, Try.ntmps9
  go_wp2_with fail
  refine (known_any _).mono ?_
  rintro e w1 ⟨rfl, hb⟩
  have B := Aside0.mk hb
  clear hb
  go_wp2_with fail
  refine (HP'.out _).mono ?_
  rintro e w2 ⟨rfl, hb⟩
  replace B := Aside0.mk (B.out.trans (hb.mono B.out.size))
  clear hb
  go_wp2_with fail
  refine (HF'.out _).mono ?_
  rintro e w3 ⟨rfl, hb⟩
  replace B := Aside0.mk (B.out.trans (hb.mono B.out.size))
  clear hb
  go_wp2_with fail
  refine (HN.out _).mono ?_
  rintro e w4 ⟨g, rfl, hge, hg, hb⟩
  replace B := Aside0.mk (B.out.trans (hb.mono B.out.size))
  have G := Aside0.mk hg
  clear hb hg hge HN
  go_wp2_with fail
  refine (HW'.out _).mono ?_
  rintro e w5 ⟨rfl, hb⟩
  replace B := Aside0.mk (B.out.trans (hb.mono B.out.size))
  replace G := Aside0.mk (G.out.step hb)
  clear hb
  go_wp2_with fail
  refine (HG'.out _).mono ?_
  rintro e w6 ⟨rfl, hb⟩
  replace B := Aside0.mk (B.out.trans (hb.mono B.out.size))
  replace G := Aside0.mk (G.out.step hb)
  clear hb HP' HF' HG' HW'
  go_wp2_with fail
  go_loopw [14, 15, 16, 17] (fun v14 v15 v16 v17 wr => ∃ q : Nat, q ≤ n ∧ v17 = .int .i64 (8 * (q : Int)) ∧ v14 = .string (lst (outBytes A q)) ∧ v15 = .string (lst (outBytes C q)) ∧ v16 = .string (lst (bytes8 (num (V q)))) ∧
      Aside0 (Blk wr g 72 (keyBlock key.data.toList)) ∧ Aside0 (Below w.heap.size w wr)) (fun _ _ _ v17 _ => t.size - (intOf v17).toNat)
  case atStart => exact ⟨0, by omega, rfl, rfl, rfl, by rw [← HL0.out], G, B⟩
  case round =>
    clear G B
    obtain ⟨q, hq, rfl, rfl, rfl, rfl, G, B⟩ := hrel
    have htn := HTN.out
    by_cases hlt : q < n
    · obtain ⟨b, m, hb, c1, c2, c3⟩ := HR.out q hlt
      have C1 := Aside0.mk c1
      have C2 := Aside0.mk c2
      have C3 := Aside0.mk c3
      have HB := Aside0.mk hb
      have s1 := (L1.out q).1
      have s2 := (L1.out q).2
      have s3 := L3.out q (A q)
      have s4 := L3.out q (C q)
      have z1 : (lst (outBytes A q)).size ≤ 1000 := by omega
      have z2 : (lst (outBytes C q)).size ≤ 1000 := by omega
      have z3 : (lst (bytes8 (num (A q)))).size ≤ 1000 := by omega
      have z4 : (lst (bytes8 (num (C q)))).size ≤ 1000 := by omega
      have u1 : 8 * q + 8 ≤ t.size := by omega
      clear c1 c2 c3 hb s1 s2 s3 s4 htn
      have hsl := slice_block t q u1
      rw [← HB.out] at hsl
      have l1 := (L2.out q).1
      have l2 := (L2.out q).2.1
      go_wp2_with fail
      refine (C1.out g _ G.out).mono ?_
      rintro e w7 ⟨rfl, hb⟩
      replace B := Aside0.mk (B.out.trans (hb.mono B.out.size))
      replace G := Aside0.mk (G.out.step hb)
      clear hb
      go_wp2_with fail
      refine (C2.out _).mono ?_
      rintro e w8 ⟨rfl, hb⟩
      replace B := Aside0.mk (B.out.trans (hb.mono B.out.size))
      replace G := Aside0.mk (G.out.step hb)
      clear hb
      go_wp2_with fail
      refine (C3.out g _ G.out).mono ?_
      rintro e w9 ⟨rfl, hb⟩
      replace B := Aside0.mk (B.out.trans (hb.mono B.out.size))
      replace G := Aside0.mk (G.out.step hb)
      clear hb
      go_wp2_with fail
      have htn := HTN.out
      exact ⟨⟨q + 1, by omega, by go_num, rfl, rfl, by rw [(L2.out q).2.2], G, B⟩, by simp [intOf]; omega⟩
    · obtain rfl : q = n := by omega
      have u1 : ¬ (8 * (q : Int) < (t.size : Int)) := by omega
      clear htn
      go_wp2_with fail
      refine (E1.out g _ G.out).mono ?_
      rintro e w7 ⟨rfl, hb⟩
      replace B := Aside0.mk (B.out.trans (hb.mono B.out.size))
      replace G := Aside0.mk (G.out.step hb)
      clear hb
      go_wp2_with fail
      refine (E2.out g _ G.out).mono ?_
      rintro e w8 ⟨rfl, hb⟩
      replace B := Aside0.mk (B.out.trans (hb.mono B.out.size))
      clear hb G
      go_wp2_with fail
      go_ret
      exact ⟨by simp, B.out⟩
end Go.Proofs.Ytopobangjpehnaa.Walk
