/- cipher.each: what becomes of the blocks of a text, whatever a block becomes. -/
import Derived.Test.YtopobangjpehnaaTurn
set_option linter.unusedVariables false
set_option linter.unusedSimpArgs false
namespace Go.Proofs.Ytopobangjpehnaa.Walk
open Go.RowKit Go.Proofs.YtopobangjpehnaaW.PrintWords Go.Proofs.YtopobangjpehnaaW.PrintLast Go.Proofs.YtopobangjpehnaaW.PrintMore Pr Des Num

/-! ### What stays -/
/-- Below B, but for the block c, nothing has turned. -/
structure Kp (B c : Nat) (w W : World) : Prop where
  os : W.os = w.os
  tape : W.tape = w.tape
  output : W.output = w.output
  size : w.heap.size ≤ W.heap.size
  block : ∀ k, k < B → k ≠ c → W.heap[k]? = w.heap[k]?
theorem Kp.refl (B c : Nat) (w : World) : Kp B c w w := ⟨rfl, rfl, rfl, Nat.le_refl _, fun _ _ _ => rfl⟩
theorem Kp.of_below {B c : Nat} {w W : World} (h : Below B w W) : Kp B c w W := ⟨h.os, h.tape, h.output, h.size, fun k hk _ => h.block k hk⟩
theorem Kp.trans {B c : Nat} {w1 w2 w3 : World} (h : Kp B c w1 w2) (k : Kp B c w2 w3) : Kp B c w1 w3 :=
  ⟨k.os.trans h.os, k.tape.trans h.tape, k.output.trans h.output, Nat.le_trans h.size k.size, fun i hi hc => (k.block i hi hc).trans (h.block i hi hc)⟩
theorem Kp.mono {B B' c : Nat} {w W : World} (h : Kp B c w W) (hB : B' ≤ B) : Kp B' c w W := ⟨h.os, h.tape, h.output, h.size, fun k hk hc => h.block k (Nat.lt_of_lt_of_le hk hB) hc⟩
theorem Kp.below {B B' c : Nat} {w W : World} (h : Kp B c w W) (hB : B' ≤ B) (hc : B' ≤ c) : Below B' w W := ⟨h.os, h.tape, h.output, h.size, fun k hk => h.block k (by omega) (by omega)⟩
/-- The world cut at a block's number. -/
def cutAt (W : World) (n : Nat) : World := { W with heap := W.heap.extract 0 n }
theorem cutAt_size (W : World) (n : Nat) (h : n ≤ W.heap.size) : (cutAt W n).heap.size = n := by
  show (W.heap.extract 0 n).size = n
  rw [Array.size_extract]; omega
theorem cutAt_below (W : World) (n : Nat) (h : n ≤ W.heap.size) : Below n (cutAt W n) W :=
  ⟨rfl, rfl, rfl, by rw [cutAt_size W n h]; exact h, fun k hk => by
    show W.heap[k]? = (W.heap.extract 0 n)[k]?
    rw [Array.getElem?_extract, if_pos (by omega), Nat.zero_add]⟩

/-- So many bytes of what blocks become. -/
def outBytes (outB : Nat → List Bool) (q : Nat) : List UInt8 := (List.range q).flatMap fun j => bytes8 (num (outB j))
theorem outBytes_length (outB : Nat → List Bool) (q : Nat) : (outBytes outB q).length = 8 * q := by
  induction q with
  | zero => rfl
  | succ q ih => unfold outBytes at *; rw [List.range_succ, List.flatMap_append, List.length_append, ih]; simp [bytes8]; omega
theorem outBytes_succ (outB : Nat → List Bool) (q : Nat) : outBytes outB (q + 1) = outBytes outB q ++ bytes8 (num (outB q)) := by
  unfold outBytes; rw [List.range_succ, List.flatMap_append]; simp
theorem strOfNums_ints (l : List UInt8) : strOfNums (ints l) = ⟨l.toArray⟩ := by
  unfold strOfNums ints
  congr 2
  rw [List.map_map]
  have : ((fun n : Int => UInt8.ofNat n.toNat) ∘ fun b : UInt8 => (b.toNat : Int)) = id := by funext b; simp
  rw [this, List.map_id]
/-- The block q of a text. -/
def blockAt (s : ByteArray) (q : Nat) : List Bool := bitsB ((s.data.toList.drop (8 * q)).take 8)

set_option maxHeartbeats 2000000 in
set_option maxRecDepth 100000 in
theorem each_no (s : ByteArray) (hs : s.size % 8 ≠ 0) (hm : s.size ≤ 140737488355000) (f : Value) (w : World) :
    Calls Try.prog 64 #[.string s, f] w fun e w' => e = .returned (.tuple #[.string ⟨#[]⟩, .int .i64 31]) ∧ Below w.heap.size w w' := by
  have hb : ((s.size : Int) % 8 != 0) = true := by rw [bne_iff_ne]; omega
  clear hs
  go_enter Try.func64, Try.ntmps64
  go_wp2_with fail
  go_ret2
  exact ⟨rfl, Below.refl _ _⟩
set_option maxHeartbeats 2000000 in
set_option maxRecDepth 100000 in
theorem each_yes (s : ByteArray) (n : Nat) (hs : s.size = 8 * n) (hm : s.size ≤ 140737488355000) (K : Nat) (hE : ∀ (args : Array Value) (w : World), (callFunc K args).run Try.prog w = .ok (.enter K args) w) (cap : Array Value) (w : World) (c : Nat) (hc : c < w.heap.size)
    (Inv : Nat → World → Prop) (outB : Nat → List Bool) (h0 : Inv 0 w)
    (hst : ∀ i W W', Inv i W → (∀ k, k < w.heap.size → W'.heap[k]? = W.heap[k]?) → Inv i W')
    (hf : ∀ i W, i < n → Inv i W → w.heap.size ≤ W.heap.size → Calls Try.prog K (#[.int .u64 ((num (blockAt s i) : Nat) : Int)] ++ cap) W fun e w' => e = .returned (.int .u64 ((num (outB i) : Nat) : Int)) ∧ Inv (i + 1) w' ∧ Kp W.heap.size c W w') :
    Calls Try.prog 64 #[.string s, .func (Fn.func K) #[] cap] w fun e w' => e = .returned (.tuple #[.string ⟨(outBytes outB n).toArray⟩, .int .i64 0]) ∧ Inv n w' ∧ Kp w.heap.size c w w' := by
  have HS := Aside0.mk hs
  have HC := Aside0.mk hc
  have HI := Aside0.mk h0
  have HST := Aside0.mk hst
  have HF := Aside0.mk hf
  obtain ⟨i0, hi, hz0, hz1, hz2⟩ := info_parts info5
  have hb : ((s.size : Int) % 8 != 0) = false := by rw [bne_eq_false_iff_eq]; omega
  have hm2 := hm
  have HM := Aside0.mk hm
  clear hs hc h0 hst hf
  go_enter Try.func64, Try.ntmps64
  go_wp2_with (refine wpList_make_own _ rfl _ _ 53 rfl w.heap.size 5 i0 (.int .u8 0) 1 Try.underlying53 hi hz0 hz1 .i64 .i64 _ s.size rfl rfl rfl ?c1 ?c2 ?c3 ?_)
  case c1 => rw [hz2]; omega
  case c2 => unfold maxLen; omega
  case c3 => exact Nat.le_refl _
  intro w1 hown hg
  have R1 : Aside0 (Kd.R (Kd.int .u8) 5 w1 w.heap.size (fun k => w.heap.size ≤ k) (.slice (some ⟨w.heap.size, 0, none⟩) 0 s.size) []) :=
    ⟨⟨fun k hk => by simp [Value.ownBlock] at hk; omega, [], hown, Reps.none _ _⟩⟩
  have B1 : Aside0 (Kp w.heap.size c w w1) := ⟨Kp.of_below ((Below.refl _ _).grown hg (Nat.le_refl _) (fun k hk => by cases hk))⟩
  have I1 : Aside0 (Inv 0 w1) := ⟨HST.out 0 w w1 HI.out (fun k hk => ((Below.refl w.heap.size w).grown hg (Nat.le_refl _) (fun k hk => by cases hk)).block k hk)⟩
  clear hown hg hi hz0 hz1 hz2 HI
  go_wp2_with fail
  go_loopw [6, 7] (fun v6 v7 wr => ∃ q : Nat, q ≤ n ∧ v7 = .int .i64 (8 * (q : Int)) ∧ Aside0 (Kd.R (Kd.int .u8) 5 wr w.heap.size (fun k => w.heap.size ≤ k) v6 (ints (outBytes outB q))) ∧ Aside0 (Inv q wr) ∧ Aside0 (Kp w.heap.size c w wr)) (fun _ v7 _ => s.size - (intOf v7).toNat)
  case atStart => exact ⟨0, Nat.zero_le _, rfl, R1, I1, B1⟩
  case round =>
    clear R1 B1 I1
    obtain ⟨q, hq, rfl, R1, I1, B1⟩ := hrel
    have hsz := HS.out
    by_cases hlt : q < n
    · have h8 : 8 * q < s.size := by omega
      have HX : Aside0 (8 ≤ (s.extract (8 * q) s.size).size ∧ bitsB ((s.extract (8 * q) s.size).data.toList.take 8) = blockAt s q) := ⟨by
        refine ⟨by rw [ByteArray.size_extract]; omega, ?_⟩
        have e : (s.data.toList.drop (8 * q)).take (s.size - 8 * q) = s.data.toList.drop (8 * q) := List.take_of_length_le (by rw [List.length_drop, Array.length_toList]; exact Nat.le_refl _)
        rw [Go.Lib.extract_data, e]
        rfl⟩
      clear hsz
      go_wp2_with fail
      refine (number_any _ HX.out.1 _).mono ?_
      rintro e w2 ⟨rfl, hb2⟩
      rw [HX.out.2]
      replace R1 := Aside0.mk (Kd.R_below R1.out hb2)
      replace I1 := Aside0.mk (HST.out q wr w2 I1.out (fun k hk => hb2.block k (Nat.lt_of_lt_of_le hk B1.out.size)))
      replace B1 := Aside0.mk (B1.out.trans ((Kp.of_below hb2).mono B1.out.size))
      clear hb2 HX
      go_wp2_with fail

      refine (HF.out q w2 hlt I1.out B1.out.size).mono ?_
      rintro e w3 ⟨rfl, hi3, hk3⟩
      replace R1 := Aside0.mk (Kd.R_step R1.out (fun k ho hk => hk3.block k hk (by have := HC.out; omega)))
      have I3 := Aside0.mk hi3
      replace B1 := Aside0.mk (B1.out.trans (hk3.mono B1.out.size))
      clear hk3 hi3 I1
      go_wp2_with fail
      obtain ⟨W0, hcs, hcb⟩ : ∃ W0 : World, W0.heap.size = w.heap.size ∧ Below w.heap.size W0 w3 := ⟨cutAt w3 w.heap.size, cutAt_size w3 w.heap.size B1.out.size, cutAt_below w3 w.heap.size B1.out.size⟩
      have hcb' : Below W0.heap.size W0 w3 := by rw [hcs]; exact hcb
      have hR : Kd.R (Kd.int .u8) 5 w3 W0.heap.size (fun k => w.heap.size ≤ k) u6 (ints (outBytes outB q)) := by rw [hcs]; exact R1.out
      have hev := bytes_eval (ints (outBytes outB q)) (num (outB q)) 9 (by unfold ints; rw [List.length_map, outBytes_length]; omega) (by decide)
      have hou : ints (outBytes outB q) ++ ints (bytes8 (num (outB q))) = ints (outBytes outB (q + 1)) := by rw [outBytes_succ]; unfold ints; rw [List.map_append]
      rw [hou] at hev
      refine (cipher_bytes.calls 9 (fun k => w.heap.size ≤ k) _ _ _ _ W0 w3 hcb' hR hev).mono ?_
      rintro e w4 ⟨v4, rfl, hR4, hb4, hk4⟩
      rw [hcs] at hR4 hb4
      replace R1 := Aside0.mk (Kd.R_mono hR4 (fun k hk => hk.elim id (fun h => Nat.le_trans B1.out.size h)))
      have hk5 : ∀ k, k < w.heap.size → w4.heap[k]? = w3.heap[k]? := fun k hk => hk4.2 k (Nat.lt_of_lt_of_le hk B1.out.size) (by omega)
      have I4 := Aside0.mk (HST.out (q + 1) w3 w4 I3.out hk5)
      replace B1 := Aside0.mk (B1.out.trans ⟨hb4.os.trans hcb.os.symm, hb4.tape.trans hcb.tape.symm, hb4.output.trans hcb.output.symm, hk4.1, fun k hk _ => hk5 k hk⟩)
      clear hcs hcb hcb' hR hev hou hR4 hb4 hk4 hk5 I3
      go_wp2_with fail
      go_roundw
      case rel => exact ⟨q + 1, by omega, by go_num, R1, I4, B1⟩
      case measure => simp [intOf]; omega
    · obtain rfl : q = n := by omega
      have hge : ¬ (8 * (q : Int) < (s.size : Int)) := by omega
      obtain ⟨A6, c6, rfl⟩ := Kd.R_slice R1.out
      have hcv := own_string (P := Try.prog) Try.underlying53 Try.underlying5 Try.underlying9 (Kd.own_of_R R1.out)
      rw [strOfNums_ints] at hcv
      clear hsz
      go_wp2_with fail
      go_ret2
      exact ⟨rfl, I1.out, B1.out⟩
end Go.Proofs.Ytopobangjpehnaa.Walk
