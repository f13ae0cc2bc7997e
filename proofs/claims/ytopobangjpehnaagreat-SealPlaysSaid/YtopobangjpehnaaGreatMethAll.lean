/- cipher: Chain, Encrypt, Decrypt, Check; what they come to on lists. -/
import Derived.Test.YtopobangjpehnaaGreatNewAll
set_option linter.unusedVariables false
set_option linter.unusedSimpArgs false
namespace Go.Proofs.YtopobangjpehnaaGreat.Walk
open Go.RowKit Go.Proofs.YtopobangjpehnaaGreatW.PrintWords Go.Proofs.YtopobangjpehnaaGreatW.PrintLast Go.Proofs.YtopobangjpehnaaGreatW.PrintMore Pr Des Num

def ecbB (key : List UInt8) (back : Bool) (s : ByteArray) (i : Nat) : List Bool := turnB key back (blockAt s i)
def cbcB (key : List UInt8) (first : List Bool) (s : ByteArray) : Nat → List Bool
  | 0 => turnB key false (xo (blockAt s 0) first)
  | i + 1 => turnB key false (xo (blockAt s (i + 1)) (cbcB key first s i))
def cbcPrev (key : List UInt8) (first : List Bool) (s : ByteArray) : Nat → List Bool
  | 0 => first
  | i + 1 => cbcB key first s i
theorem cbcB_eq (key : List UInt8) (first : List Bool) (s : ByteArray) (i : Nat) : cbcB key first s i = turnB key false (xo (blockAt s i) (cbcPrev key first s i)) := by
  cases i <;> rfl
def uncPrev (first : List Bool) (s : ByteArray) : Nat → List Bool
  | 0 => first
  | i + 1 => blockAt s i
def uncB (key : List UInt8) (first : List Bool) (s : ByteArray) (i : Nat) : List Bool := xo (turnB key true (blockAt s i)) (uncPrev first s i)

theorem blockAt_length (s : ByteArray) (n i : Nat) (hs : s.size = 8 * n) (hi : i < n) : (blockAt s i).length = 64 := by
  unfold blockAt
  rw [bitsB_length, List.length_take, List.length_drop, Array.length_toList]
  show 8 * min 8 (s.size - 8 * i) = 64
  omega
theorem blk_of {w w' : World} {B g : Nat} {t : TypeId} {cs : Array Value} (h : Blk w g t cs) (hg : g < B) (hk : ∀ k, k < B → w'.heap[k]? = w.heap[k]?) : Blk w' g t cs := (hk g hg).trans h

theorem xor_num (a b : List Bool) (ha : a.length = 64) (hb : b.length = 64) : Go.bits .xor .u64 ((num a : Nat) : Int) ((num b : Nat) : Int) = ((num (xo a b) : Nat) : Int) := by
  rw [xor_u64 _ _ (num64 a ha).1 (num64 b hb).1, num_xo _ _ (by rw [ha, hb])]
theorem xo_len64 (a b : List Bool) (ha : a.length = 64) (hb : b.length = 64) : (xo a b).length = 64 := by rw [xo_length, ha, hb]; rfl

set_option maxHeartbeats 1000000 in
set_option maxRecDepth 100000 in
theorem enc_closure (g cb : Nat) (key : List UInt8) (y : List Bool) (hy : y.length = 64) (W : World) (hb : Blk W cb 75 #[.pointer (some ⟨g, 0, none⟩)]) (hg : Blk W g 101 (keyBlock key)) :
    Calls Tryz.prog 92 #[.int .u64 ((num y : Nat) : Int), .pointer (some ⟨cb, 0, none⟩)] W fun e w' => e = .returned (.int .u64 ((num (turnB key false y) : Nat) : Int)) ∧ Below W.heap.size W w' := by
  have hT := turn_calls g key (num y) (num64 y hy).1 false W hg
  rw [(num64 y hy).2] at hT
  have HT := Aside0.mk hT
  have q0 : W.cell? ⟨cb, 0, none⟩ = some (.pointer (some ⟨g, 0, none⟩)) := (hb.cell 0).trans rfl
  clear hT hb hg hy
  go_enter Tryz.func92, Tryz.ntmps92
  go_wp2_with fail
  refine HT.out.mono ?_
  rintro e w1 ⟨rfl, hb1⟩
  have B1 := Aside0.mk hb1
  clear hb1
  go_wp2_with fail
  go_ret
  exact ⟨rfl, B1.out⟩
set_option maxHeartbeats 1000000 in
set_option maxRecDepth 100000 in
theorem dec_closure (g cb : Nat) (key : List UInt8) (y : List Bool) (hy : y.length = 64) (W : World) (hb : Blk W cb 75 #[.pointer (some ⟨g, 0, none⟩)]) (hg : Blk W g 101 (keyBlock key)) :
    Calls Tryz.prog 73 #[.int .u64 ((num y : Nat) : Int), .pointer (some ⟨cb, 0, none⟩)] W fun e w' => e = .returned (.int .u64 ((num (turnB key true y) : Nat) : Int)) ∧ Below W.heap.size W w' := by
  have hT := turn_calls g key (num y) (num64 y hy).1 true W hg
  rw [(num64 y hy).2] at hT
  have HT := Aside0.mk hT
  have q0 : W.cell? ⟨cb, 0, none⟩ = some (.pointer (some ⟨g, 0, none⟩)) := (hb.cell 0).trans rfl
  clear hT hb hg hy
  go_enter Tryz.func73, Tryz.ntmps73
  go_wp2_with fail
  refine HT.out.mono ?_
  rintro e w1 ⟨rfl, hb1⟩
  have B1 := Aside0.mk hb1
  clear hb1
  go_wp2_with fail
  go_ret
  exact ⟨rfl, B1.out⟩
set_option maxHeartbeats 1000000 in
set_option maxRecDepth 100000 in
theorem chain_closure (g cb cl : Nat) (key : List UInt8) (y l : List Bool) (hy : y.length = 64) (hl : l.length = 64) (W : World) (hb : Blk W cb 75 #[.pointer (some ⟨g, 0, none⟩)]) (hg : Blk W g 101 (keyBlock key))
    (hc : Blk W cl 96 #[.int .u64 ((num l : Nat) : Int)]) :
    Calls Tryz.prog 61 #[.int .u64 ((num y : Nat) : Int), .pointer (some ⟨cb, 0, none⟩), .pointer (some ⟨cl, 0, none⟩)] W fun e w' => e = .returned (.int .u64 ((num (turnB key false (xo y l)) : Nat) : Int)) ∧
      Blk w' cl 96 #[.int .u64 ((num (turnB key false (xo y l)) : Nat) : Int)] ∧ Kp W.heap.size cl W w' := by
  have hT := turn_calls g key (num (xo y l)) (num64 _ (xo_len64 y l hy hl)).1 false W hg
  rw [(num64 _ (xo_len64 y l hy hl)).2] at hT
  have HT := Aside0.mk hT
  have q0 : W.cell? ⟨cb, 0, none⟩ = some (.pointer (some ⟨g, 0, none⟩)) := (hb.cell 0).trans rfl
  have q1 : W.cell? ⟨cl, 0, none⟩ = some (.int .u64 ((num l : Nat) : Int)) := (hc.cell 0).trans rfl
  have hx := xor_num y l hy hl
  have HC := Aside0.mk hc
  clear hT hb hg hy hl hc
  generalize turnB key false (xo y l) = r at HT
  go_enter Tryz.func61, Tryz.ntmps61
  go_wp2_with fail
  refine HT.out.mono ?_
  rintro e w1 ⟨rfl, hb1⟩
  have B1 := Aside0.mk hb1
  have C1 := Aside0.mk (HC.out.step hb1)
  have q2 : w1.cell? ⟨cl, 0, none⟩ = some (.int .u64 ((num l : Nat) : Int)) := (C1.out.cell 0).trans rfl
  have q3 : w1.frozen? ⟨cl, 0, none⟩ = false := C1.out.frozen 0
  clear hb1 q0 q1
  go_wp2_with fail
  go_ret
  exact ⟨rfl, C1.out.set_ 0 _, (Kp.of_below B1.out).trans ⟨rfl, rfl, rfl, by simp [World.setCell], fun k hk hne => Below.heap_setCell _ _ _ _ hne⟩⟩
/-! ### The methods -/
theorem mod_eight {s : ByteArray} (h : s.size % 8 = 0) : s.size = 8 * (s.size / 8) := by omega
/-- The bytes of blocks. -/
def blocksStr (outB : Nat → List Bool) (s : ByteArray) : ByteArray := ⟨(outBytes outB (s.size / 8)).toArray⟩

set_option maxHeartbeats 1000000 in
set_option maxRecDepth 100000 in
theorem encrypt_yes (g : Nat) (key : List UInt8) (s : ByteArray) (hs : s.size % 8 = 0) (hm : s.size ≤ 140737488355000) (w : World) (hg : Blk w g 101 (keyBlock key)) :
    Calls Tryz.prog 69 #[.pointer (some ⟨g, 0, none⟩), .string s] w fun e w' => e = .returned (.tuple #[.string (blocksStr (ecbB key false s) s), .int .i64 0]) ∧ Below w.heap.size w w' := by
  have HE : Aside0 (∀ W : World, Blk W w.heap.size 75 #[.pointer (some ⟨g, 0, none⟩)] → Blk W g 101 (keyBlock key) → Below w.heap.size w W → Calls Tryz.prog 60 #[.string s, .func (Fn.func 92) #[] #[.pointer (some ⟨w.heap.size, 0, none⟩)]] W
      fun e w' => e = .returned (.tuple #[.string (blocksStr (ecbB key false s) s), .int .i64 0]) ∧ Below w.heap.size w w') := ⟨by
    intro W hcb hkb hB
    have hl := blockAt_length s (s.size / 8)
    refine (each_yes s (s.size / 8) (mod_eight hs) hm 92 Tryz.call92 _ W w.heap.size hcb.lt (fun _ W' => Blk W' w.heap.size 75 #[.pointer (some ⟨g, 0, none⟩)] ∧ Blk W' g 101 (keyBlock key)) (ecbB key false s) ⟨hcb, hkb⟩
      (fun i W1 W2 h hk => ⟨blk_of h.1 hcb.lt hk, blk_of h.2 hkb.lt hk⟩) (fun i W1 hi h hsz => ?_)).mono ?_
    · refine (enc_closure g w.heap.size key (blockAt s i) (hl i (mod_eight hs) hi) W1 h.1 h.2).mono ?_
      rintro e w2 ⟨rfl, hb⟩
      exact ⟨rfl, ⟨h.1.step hb, h.2.step hb⟩, Kp.of_below hb⟩
    · rintro e w2 ⟨rfl, _, hk⟩
      exact ⟨rfl, hB.trans (hk.below (by have := hB.size; omega) (Nat.le_refl _))⟩⟩
  have HG := Aside0.mk hg
  clear hg hs hm
  go_enter Tryz.func69, Tryz.ntmps69
  go_wp2_with fail
  refine (HE.out _ (Blk.new w 75 _) (HG.out.alloc _) ((Below.refl _ _).alloc (Nat.le_refl _) _)).mono ?_
  rintro e w1 ⟨rfl, hb1⟩
  have B1 := Aside0.mk hb1
  clear hb1
  go_wp2_with fail
  go_ret2
  exact ⟨rfl, B1.out⟩
set_option maxHeartbeats 1000000 in
set_option maxRecDepth 100000 in
theorem decrypt_yes (g : Nat) (key : List UInt8) (s : ByteArray) (hs : s.size % 8 = 0) (hm : s.size ≤ 140737488355000) (w : World) (hg : Blk w g 101 (keyBlock key)) :
    Calls Tryz.prog 44 #[.pointer (some ⟨g, 0, none⟩), .string s] w fun e w' => e = .returned (.tuple #[.string (blocksStr (ecbB key true s) s), .int .i64 0]) ∧ Below w.heap.size w w' := by
  have HE : Aside0 (∀ W : World, Blk W w.heap.size 75 #[.pointer (some ⟨g, 0, none⟩)] → Blk W g 101 (keyBlock key) → Below w.heap.size w W → Calls Tryz.prog 60 #[.string s, .func (Fn.func 73) #[] #[.pointer (some ⟨w.heap.size, 0, none⟩)]] W
      fun e w' => e = .returned (.tuple #[.string (blocksStr (ecbB key true s) s), .int .i64 0]) ∧ Below w.heap.size w w') := ⟨by
    intro W hcb hkb hB
    have hl := blockAt_length s (s.size / 8)
    refine (each_yes s (s.size / 8) (mod_eight hs) hm 73 Tryz.call73 _ W w.heap.size hcb.lt (fun _ W' => Blk W' w.heap.size 75 #[.pointer (some ⟨g, 0, none⟩)] ∧ Blk W' g 101 (keyBlock key)) (ecbB key true s) ⟨hcb, hkb⟩
      (fun i W1 W2 h hk => ⟨blk_of h.1 hcb.lt hk, blk_of h.2 hkb.lt hk⟩) (fun i W1 hi h hsz => ?_)).mono ?_
    · refine (dec_closure g w.heap.size key (blockAt s i) (hl i (mod_eight hs) hi) W1 h.1 h.2).mono ?_
      rintro e w2 ⟨rfl, hb⟩
      exact ⟨rfl, ⟨h.1.step hb, h.2.step hb⟩, Kp.of_below hb⟩
    · rintro e w2 ⟨rfl, _, hk⟩
      exact ⟨rfl, hB.trans (hk.below (by have := hB.size; omega) (Nat.le_refl _))⟩⟩
  have HG := Aside0.mk hg
  clear hg hs hm
  go_enter Tryz.func44, Tryz.ntmps44
  go_wp2_with fail
  refine (HE.out _ (Blk.new w 75 _) (HG.out.alloc _) ((Below.refl _ _).alloc (Nat.le_refl _) _)).mono ?_
  rintro e w1 ⟨rfl, hb1⟩
  have B1 := Aside0.mk hb1
  clear hb1
  go_wp2_with fail
  go_ret2
  exact ⟨rfl, B1.out⟩
set_option maxHeartbeats 1000000 in
set_option maxRecDepth 100000 in
theorem encrypt_no (p : Value) (s : ByteArray) (hs : s.size % 8 ≠ 0) (hm : s.size ≤ 140737488355000) (w : World) (hp : p.oneCell' = true) :
    Calls Tryz.prog 69 #[p, .string s] w fun e w' => e = .returned (.tuple #[.string ⟨#[]⟩, .int .i64 31]) ∧ Below w.heap.size w w' := by
  have HE := Aside0.mk (each_no s hs hm)
  clear hs hm
  go_enter Tryz.func69, Tryz.ntmps69
  go_wp2_with fail
  refine (HE.out _ _).mono ?_
  rintro e w1 ⟨rfl, hb1⟩
  have B1 := Aside0.mk (((Below.refl w.heap.size w).alloc (Nat.le_refl _) (.cells #[p] 75)).trans (hb1.mono (by simp)))
  clear hb1
  go_wp2_with fail
  go_ret2
  exact ⟨rfl, B1.out⟩
set_option maxHeartbeats 1000000 in
set_option maxRecDepth 100000 in
theorem decrypt_no (p : Value) (s : ByteArray) (hs : s.size % 8 ≠ 0) (hm : s.size ≤ 140737488355000) (w : World) (hp : p.oneCell' = true) :
    Calls Tryz.prog 44 #[p, .string s] w fun e w' => e = .returned (.tuple #[.string ⟨#[]⟩, .int .i64 31]) ∧ Below w.heap.size w w' := by
  have HE := Aside0.mk (each_no s hs hm)
  clear hs hm
  go_enter Tryz.func44, Tryz.ntmps44
  go_wp2_with fail
  refine (HE.out _ _).mono ?_
  rintro e w1 ⟨rfl, hb1⟩
  have B1 := Aside0.mk (((Below.refl w.heap.size w).alloc (Nat.le_refl _) (.cells #[p] 75)).trans (hb1.mono (by simp)))
  clear hb1
  go_wp2_with fail
  go_ret2
  exact ⟨rfl, B1.out⟩
set_option maxHeartbeats 1000000 in
set_option maxRecDepth 100000 in
theorem chain_yes (g : Nat) (key : List UInt8) (f s : ByteArray) (hf : f.size = 8) (hs : s.size % 8 = 0) (hm : s.size ≤ 140737488355000) (w : World) (hg : Blk w g 101 (keyBlock key)) :
    Calls Tryz.prog 37 #[.pointer (some ⟨g, 0, none⟩), .string f, .string s] w fun e w' => e = .returned (.tuple #[.string (blocksStr (cbcB key (bitsB f.data.toList) s) s), .int .i64 0]) ∧ Below w.heap.size w w' := by
  have htake : f.data.toList.take 8 = f.data.toList := List.take_of_length_le (by rw [Array.length_toList]; show f.size ≤ 8; omega)
  have hfl : (bitsB f.data.toList).length = 64 := by rw [bitsB_length, Array.length_toList]; show 8 * f.size = 64; omega
  have hN := number_any f (by omega)
  rw [htake] at hN
  generalize bitsB f.data.toList = first at *
  have HE : Aside0 (∀ (W : World) (cl : Nat), w.heap.size < cl → Blk W w.heap.size 75 #[.pointer (some ⟨g, 0, none⟩)] → Blk W cl 96 #[.int .u64 ((num first : Nat) : Int)] → Blk W g 101 (keyBlock key) → Below w.heap.size w W →
      Calls Tryz.prog 60 #[.string s, .func (Fn.func 61) #[] #[.pointer (some ⟨w.heap.size, 0, none⟩), .pointer (some ⟨cl, 0, none⟩)]] W
      fun e w' => e = .returned (.tuple #[.string (blocksStr (cbcB key first s) s), .int .i64 0]) ∧ Below w.heap.size w w') := ⟨by
    intro W cl hcl hcb hcc hkb hB
    have hl := blockAt_length s (s.size / 8)
    have hprev : ∀ i, i < s.size / 8 → (cbcPrev key first s i).length = 64 := by
      intro i hi
      cases i with
      | zero => exact hfl
      | succ i =>
        show (cbcB key first s i).length = 64
        induction i with
        | zero => exact turnB_length _ _ _ (xo_len64 _ _ (hl 0 (mod_eight hs) (by omega)) hfl)
        | succ i ih => exact turnB_length _ _ _ (xo_len64 _ _ (hl (i + 1) (mod_eight hs) (by omega)) (ih (by omega)))
    refine (each_yes s (s.size / 8) (mod_eight hs) hm 61 Tryz.call61 _ W cl hcc.lt (fun i W' => Blk W' w.heap.size 75 #[.pointer (some ⟨g, 0, none⟩)] ∧ Blk W' cl 96 #[.int .u64 ((num (cbcPrev key first s i) : Nat) : Int)] ∧ Blk W' g 101 (keyBlock key)) (cbcB key first s) ⟨hcb, hcc, hkb⟩
      (fun i W1 W2 h hk => ⟨blk_of h.1 hcb.lt hk, blk_of h.2.1 hcc.lt hk, blk_of h.2.2 hkb.lt hk⟩) (fun i W1 hi h hsz => ?_)).mono ?_
    · refine (chain_closure g w.heap.size cl key (blockAt s i) (cbcPrev key first s i) (hl i (mod_eight hs) hi) (hprev i hi) W1 h.1 h.2.2 h.2.1).mono ?_
      rintro e w2 ⟨rfl, hc2, hk⟩
      rw [← cbcB_eq] at hc2 ⊢
      have hgc : g ≠ cl := (h.2.2.ne_ h.2.1 (by decide))
      exact ⟨rfl, ⟨(hk.block _ h.1.lt (by omega)).trans h.1, hc2, (hk.block _ h.2.2.lt hgc).trans h.2.2⟩, hk⟩
    · rintro e w2 ⟨rfl, _, hk⟩
      exact ⟨rfl, hB.trans (hk.below (by have := hB.size; omega) (by omega))⟩⟩
  have HG := Aside0.mk hg
  have HN := Aside0.mk hN
  have hb : ((f.size : Int) != 8) = false := by rw [bne_eq_false_iff_eq]; omega
  clear hg hs hm hN htake hfl hf
  go_enter Tryz.func37, Tryz.ntmps37
  go_wp2_with fail
  refine (HN.out _).mono ?_
  rintro e w1 ⟨rfl, hb1⟩
  have C1 := Aside0.mk ((Blk.new w 75 #[.pointer (some ⟨g, 0, none⟩)]).step hb1)
  have G1 := Aside0.mk ((HG.out.alloc (.cells #[.pointer (some ⟨g, 0, none⟩)] 75)).step hb1)
  have B1 := Aside0.mk (((Below.refl w.heap.size w).alloc (Nat.le_refl _) (.cells #[.pointer (some ⟨g, 0, none⟩)] 75)).trans (hb1.mono (by simp)))
  have S1 : Aside0 (w.heap.size < w1.heap.size) := ⟨by have := hb1.size; rw [size_alloc] at this; omega⟩
  clear hb1
  go_wp2_with fail
  refine (HE.out _ _ S1.out (C1.out.alloc _) (Blk.new w1 96 _) (G1.out.alloc _) (B1.out.alloc (by have := S1.out; omega) _)).mono ?_
  rintro e w2 ⟨rfl, hb2⟩
  have B2 := Aside0.mk hb2
  clear hb2
  go_wp2_with fail
  go_ret2
  exact ⟨rfl, B2.out⟩
set_option maxHeartbeats 1000000 in
set_option maxRecDepth 100000 in
theorem chain_short (p : Value) (f s : ByteArray) (hf : f.size ≠ 8) (w : World) (hp : p.oneCell' = true) :
    Calls Tryz.prog 37 #[p, .string f, .string s] w fun e w' => e = .returned (.tuple #[.string ⟨#[]⟩, .int .i64 31]) ∧ Below w.heap.size w w' := by
  have hb : ((f.size : Int) != 8) = true := by rw [bne_iff_ne]; omega
  clear hf
  go_enter Tryz.func37, Tryz.ntmps37
  go_wp2_with fail
  go_ret2
  exact ⟨rfl, (Below.refl _ _).alloc (Nat.le_refl _) _⟩
set_option maxHeartbeats 1000000 in
set_option maxRecDepth 100000 in
theorem chain_no (p : Value) (f s : ByteArray) (hf : f.size = 8) (hs : s.size % 8 ≠ 0) (hm : s.size ≤ 140737488355000) (w : World) (hp : p.oneCell' = true) :
    Calls Tryz.prog 37 #[p, .string f, .string s] w fun e w' => e = .returned (.tuple #[.string ⟨#[]⟩, .int .i64 31]) ∧ Below w.heap.size w w' := by
  have HE := Aside0.mk (each_no s hs hm)
  have HN := Aside0.mk (number_any f (by omega))
  have hb : ((f.size : Int) != 8) = false := by rw [bne_eq_false_iff_eq]; omega
  clear hs hm hf
  go_enter Tryz.func37, Tryz.ntmps37
  go_wp2_with fail
  refine (HN.out _).mono ?_
  rintro e w1 ⟨rfl, hb1⟩
  have B1 := Aside0.mk (((Below.refl w.heap.size w).alloc (Nat.le_refl _) (.cells #[p] 75)).trans (hb1.mono (by simp)))
  clear hb1
  go_wp2_with fail
  refine (HE.out _ _).mono ?_
  rintro e w2 ⟨rfl, hb2⟩
  replace B1 := Aside0.mk ((B1.out.alloc B1.out.size (.cells #[.int .u64 ((num (bitsB (f.data.toList.take 8)) : Nat) : Int)] 96)).trans (hb2.mono (by rw [size_alloc]; have := B1.out.size; omega)))
  clear hb2
  go_wp2_with fail
  go_ret2
  exact ⟨rfl, B1.out⟩
end Go.Proofs.YtopobangjpehnaaGreat.Walk

set_option linter.unusedVariables false
set_option linter.unusedSimpArgs false
namespace Go.Proofs.YtopobangjpehnaaGreat.Walk
open Go.RowKit Go.Proofs.YtopobangjpehnaaGreatW.PrintWords Go.Proofs.YtopobangjpehnaaGreatW.PrintLast Go.Proofs.YtopobangjpehnaaGreatW.PrintMore Pr Des Num

/-- A key's check value. -/
def checkB (key : List UInt8) : List UInt8 := (bytes8 (num (turnB key false (bitsN 64 0)))).take 3

set_option maxHeartbeats 1000000 in
set_option maxRecDepth 100000 in
theorem check_no (s : ByteArray) (hk : kindOf s.data.toList = 0) (w : World) :
    Calls Tryz.prog 46 #[.string s] w fun e w' => e = .returned (.tuple #[.string ⟨#[]⟩, .int .i64 30]) ∧ Below w.heap.size w w' := by
  have HN := Aside0.mk (new_no s hk)
  clear hk
  go_enter Tryz.func46, Tryz.ntmps46
  go_wp2_with fail
  refine (HN.out _).mono ?_
  rintro e w1 ⟨rfl, hb1⟩
  have B1 := Aside0.mk hb1
  clear hb1
  go_wp2_with fail
  go_ret2
  exact ⟨rfl, B1.out⟩
set_option maxHeartbeats 1000000 in
set_option maxRecDepth 100000 in
theorem check_yes (s : ByteArray) (hk : 1 ≤ kindOf s.data.toList) (w : World) :
    Calls Tryz.prog 46 #[.string s] w fun e w' => e = .returned (.tuple #[.string ⟨(checkB s.data.toList).toArray⟩, .int .i64 0]) ∧ Below w.heap.size w w' := by
  have HN := Aside0.mk (new_yes s hk)
  clear hk
  unfold checkB
  have hT := fun g (W : World) hg => turn_calls g s.data.toList 0 (by decide) false W hg
  have HT := Aside0.mk hT
  clear hT
  generalize turnB s.data.toList false (bitsN 64 0) = r at HT ⊢
  go_enter Tryz.func46, Tryz.ntmps46
  go_wp2_with fail
  refine (HN.out _).mono ?_
  rintro e w1 ⟨g, rfl, hge, hg, hb1⟩
  have B1 := Aside0.mk hb1
  have G1 := Aside0.mk hg
  clear hb1 hg hge
  go_wp2_with fail
  refine (HT.out g w1 G1.out).mono ?_
  rintro e w2 ⟨rfl, hb2⟩
  replace B1 := Aside0.mk (B1.out.trans (hb2.mono B1.out.size))
  clear hb2 HT HN G1
  go_wp2_with fail
  refine (cipher_bytes.calls 9 (fun _ => True) (.slice none 0 0) [] _ _ w2 w2 (Below.refl _ _) (Kd.R_nil _ _ _ _ _) (bytes_eval [] (num r) 9 (by decide) (by decide))).mono ?_
  rintro e w3 ⟨v, rfl, hR, hb3, _⟩
  obtain ⟨A, c, rfl⟩ := Kd.R_slice hR
  have hC := (Kd.R_reads' hR).2
  rw [List.nil_append] at hC
  have hl : (ints (bytes8 (num r))).length = 8 := by simp [ints, bytes8]
  have hc8 : (8 : Nat) ≤ c := by rw [← hl]; exact hC.1
  have hC3 := Kd.C_take (m := 3) hC.2 (by rw [hl]; decide)
  have hl3 : ((ints (bytes8 (num r))).take 3).length = 3 := by rw [List.length_take, hl]; rfl
  rw [hl3] at hC3
  have hcv := Kd.C_string (P := Tryz.prog) (c := c) Tryz.underlying68 Tryz.underlying5 Tryz.underlying9 hC3
  rw [show (ints (bytes8 (num r))).take 3 = ints ((bytes8 (num r)).take 3) by unfold ints; rw [List.map_take], strOfNums_ints] at hcv
  replace B1 := Aside0.mk (B1.out.trans (hb3.mono B1.out.size))
  clear hb3 hR hC hl hC3 hl3
  go_wp2_with fail
  go_ret2
  exact ⟨rfl, B1.out⟩

theorem known_enc : outBytes (ecbB [19, 52, 87, 121, 155, 188, 223, 241] false ⟨#[1, 35, 69, 103, 137, 171, 205, 239]⟩) 1 = [133, 232, 19, 84, 15, 10, 180, 5] := by decide +kernel
theorem known_check : checkB [0, 0, 0, 0, 0, 0, 0, 0] = [140, 166, 77] := by decide +kernel
end Go.Proofs.YtopobangjpehnaaGreat.Walk

set_option linter.unusedVariables false
set_option linter.unusedSimpArgs false
namespace Go.Proofs.YtopobangjpehnaaGreat.Walk
open Go.RowKit Go.Proofs.YtopobangjpehnaaGreatW.PrintWords Go.Proofs.YtopobangjpehnaaGreatW.PrintLast Go.Proofs.YtopobangjpehnaaGreatW.PrintMore Pr Des Num

/-- All bits turned. -/
def overL (l : List UInt8) : List UInt8 := l.map fun b => b ^^^ 255
def overS (s : ByteArray) : ByteArray := ⟨(overL s.data.toList).toArray⟩
theorem overS_size (s : ByteArray) : (overS s).size = s.size := by
  show (overL s.data.toList).toArray.size = s.data.size
  simp [overL]
theorem xor_u8 : ∀ b : UInt8, Go.bits .xor .u8 ((b.toNat : Nat) : Int) 255 = (((b ^^^ 255).toNat : Nat) : Int) := by
  have h : ∀ n : Fin 256, Go.bits .xor .u8 ((n : Nat) : Int) 255 = (((UInt8.ofNat n ^^^ 255).toNat : Nat) : Int) := by decide +kernel
  intro b
  have := h ⟨b.toNat, b.toNat_lt⟩
  simpa using this
/-! ### under -/
theorem kind_of_size {s : ByteArray} (h : s.size = 8 ∨ s.size = 16 ∨ s.size = 24) : 1 ≤ kindOf s.data.toList ∧ s.size = 8 * kindOf s.data.toList := by
  have e : s.data.toList.length = s.size := by rw [Array.length_toList]; rfl
  unfold kindOf
  rw [e]
  rcases h with h | h | h <;> rw [h] <;> decide
/-- What is encrypted under a key. -/
def underS (key s : ByteArray) : ByteArray := blocksStr (ecbB key.data.toList false s) s
end Go.Proofs.YtopobangjpehnaaGreat.Walk

set_option linter.unusedVariables false
set_option linter.unusedSimpArgs false
namespace Go.Proofs.YtopobangjpehnaaGreat.Walk
open Pr Des Num

/-! ### Bytes and bits -/
theorem bitsN_mod (w c n : Nat) (h : w ≤ c) : bitsN w (n % 2 ^ c) = bitsN w n := by
  induction w with
  | zero => rfl
  | succ w ih => simp only [bitsN]; rw [ih (by omega), Nat.testBit_mod_two_pow]; simp [show w < c by omega]
theorem bitsN_shift (w s n : Nat) : bitsN w (n >>> s) = (bitsN (w + s) n).take w := by
  induction w with
  | zero => rfl
  | succ w ih =>
    rw [show w + 1 + s = (w + s) + 1 by omega]
    simp only [bitsN, List.take_succ_cons, Nat.testBit_shiftRight, ih]
    congr 2; omega
theorem bitsB_bytes8 (n : Nat) : bitsB (bytes8 n) = bitsN 64 n := by
  simp only [bitsB, bytes8, List.flatMap_cons, List.flatMap_nil, List.append_nil, UInt8.toNat_ofNat']
  rw [bitsN_mod 8 8 _ (Nat.le_refl _), bitsN_mod 8 8 _ (Nat.le_refl _), bitsN_mod 8 8 _ (Nat.le_refl _), bitsN_mod 8 8 _ (Nat.le_refl _), bitsN_mod 8 8 _ (Nat.le_refl _), bitsN_mod 8 8 _ (Nat.le_refl _), bitsN_mod 8 8 _ (Nat.le_refl _), bitsN_mod 8 8 _ (Nat.le_refl _)]
  simp only [bitsN, Nat.testBit_shiftRight, List.cons_append, List.nil_append, Nat.reduceAdd]
theorem bits8_inj {a b : UInt8} (h : bitsN 8 a.toNat = bitsN 8 b.toNat) : a = b := by
  have h1 := congrArg num h
  rw [num_bitsN, num_bitsN] at h1
  have ha := a.toNat_lt
  have hb := b.toNat_lt
  apply UInt8.toNat_inj.1
  omega
theorem bitsB_inj : ∀ {a b : List UInt8}, a.length = b.length → bitsB a = bitsB b → a = b
  | [], [], _, _ => rfl
  | x :: a, y :: b, hl, h => by
    simp only [bitsB, List.flatMap_cons] at h
    have h2 := List.append_inj h (by rw [bitsN_length, bitsN_length])
    rw [bits8_inj h2.1, bitsB_inj (by simpa using hl) h2.2]
theorem bytes8_length (n : Nat) : (bytes8 n).length = 8 := rfl
theorem bytes8_bits (l : List UInt8) (h : l.length = 8) : bytes8 (num (bitsB l)) = l := by
  apply bitsB_inj (by rw [bytes8_length, h])
  have hl : (bitsB l).length = 64 := by rw [bitsB_length, h]
  rw [bitsB_bytes8, (num64 _ hl).2]
theorem bitsB_cm (l : List UInt8) : bitsB (overL l) = cm (bitsB l) := by
  have h : ∀ n : Fin 256, bitsN 8 (UInt8.ofNat n ^^^ 255).toNat = cm (bitsN 8 n) := by decide +kernel
  have h8 : ∀ b : UInt8, bitsN 8 (b ^^^ 255).toNat = cm (bitsN 8 b.toNat) := by
    intro b
    have := h ⟨b.toNat, b.toNat_lt⟩
    simpa using this
  induction l with
  | nil => rfl
  | cons b l ih =>
    simp only [bitsB, overL, List.map_cons, List.flatMap_cons] at ih ⊢
    rw [ih, h8, cm_append]
theorem bytes8_cm (x : List Bool) (h : x.length = 64) : bytes8 (num (cm x)) = overL (bytes8 (num x)) := by
  apply bitsB_inj (by simp [bytes8, overL])
  rw [bitsB_bytes8, bitsB_cm, bitsB_bytes8, (num64 _ h).2, (num64 _ (by rw [cm_length]; exact h)).2]

/-! ### Parts -/
theorem part_len (key : List UInt8) (hk : 1 ≤ kindOf key) (k : Nat) (h3 : k < 3) (h1 : kindOf key = 1 → k = 0) : (partOf key k).length = 64 := by
  have hl : key.length = 8 * kindOf key := by
    unfold kindOf at hk ⊢
    split
    · omega
    · split
      · omega
      · split
        · omega
        · rename_i a b c; rw [if_neg a, if_neg b, if_neg c] at hk; omega
  unfold partOf
  by_cases h2 : kindOf key = 2 ∧ k = 2
  · rw [if_pos h2]; unfold partAt
    rw [bitsB_length, List.length_take, List.length_drop, hl, h2.1]
    rfl
  · rw [if_neg h2]; unfold partAt
    rw [bitsB_length, List.length_take, List.length_drop, hl]
    have hk3 : kindOf key ≤ 3 := by unfold kindOf; repeat' split
                                    all_goals omega
    by_cases e : kindOf key = 1
    · have := h1 e; subst this; omega
    · by_cases e2 : kindOf key = 2
      · have : ¬ k = 2 := fun h => h2 ⟨e2, h⟩
        omega
      · omega

theorem oneB_back (key : List Bool) (back : Bool) (x : List Bool) (hx : x.length = 64) : oneB key (!back) (oneB key back x) = x := by
  unfold oneB order
  cases back
  · simpa using des_back (sched key) x hx
  · have := des_back (sched key).reverse x hx
    rw [List.reverse_reverse] at this
    simpa using this
/-- There and back, a block under a whole key. -/
theorem turnB_back (key : List UInt8) (back : Bool) (x : List Bool) (hx : x.length = 64) : turnB key (!back) (turnB key back x) = x := by
  unfold turnB
  by_cases h1 : kindOf key = 1
  · rw [if_pos h1, if_pos h1]; exact oneB_back _ _ _ hx
  · rw [if_neg h1, if_neg h1]
    have l1 := fun p b y => oneB_length p b y
    have f1 : ∀ p y, y.length = 64 → oneB p true (oneB p false y) = y := fun p y hy => oneB_back p false y hy
    have f2 : ∀ p y, y.length = 64 → oneB p false (oneB p true y) = y := fun p y hy => oneB_back p true y hy
    cases back
    · show oneB (partOf key 0) true (oneB (partOf key 1) false (oneB (partOf key 2) true (oneB (partOf key 2) false (oneB (partOf key 1) true (oneB (partOf key 0) false x))))) = x
      rw [f1 _ _ (l1 _ _ _), f2 _ _ (l1 _ _ _), f1 _ _ hx]
    · show oneB (partOf key 2) false (oneB (partOf key 1) true (oneB (partOf key 0) false (oneB (partOf key 0) true (oneB (partOf key 1) false (oneB (partOf key 2) true x))))) = x
      rw [f2 _ _ (l1 _ _ _), f1 _ _ (l1 _ _ _), f2 _ _ hx]
/-- What turns each part's blocks alike turns a whole key's. -/
theorem turnB_map (φ : List Bool → List Bool) (key key' : List UInt8) (hk : kindOf key' = kindOf key)
    (h : ∀ k bk y, k < 3 → (kindOf key = 1 → k = 0) → y.length = 64 → oneB (partOf key' k) bk (φ y) = φ (oneB (partOf key k) bk y)) (back : Bool) (x : List Bool) (hx : x.length = 64) :
    turnB key' back (φ x) = φ (turnB key back x) := by
  unfold turnB
  rw [hk]
  by_cases h1 : kindOf key = 1
  · rw [if_pos h1, if_pos h1]; exact h 0 back x (by decide) (fun _ => rfl) hx
  · rw [if_neg h1, if_neg h1]
    have l1 := fun p b y => oneB_length p b y
    have g : ∀ k bk y, k < 3 → y.length = 64 → oneB (partOf key' k) bk (φ y) = φ (oneB (partOf key k) bk y) := fun k bk y h3 hy => h k bk y h3 (fun e => absurd e h1) hy
    cases back
    · show oneB (partOf key' 2) false (oneB (partOf key' 1) true (oneB (partOf key' 0) false (φ x))) = φ (oneB (partOf key 2) false (oneB (partOf key 1) true (oneB (partOf key 0) false x)))
      rw [g 0 false x (by decide) hx, g 1 true _ (by decide) (l1 _ _ _), g 2 false _ (by decide) (l1 _ _ _)]
    · show oneB (partOf key' 0) true (oneB (partOf key' 1) false (oneB (partOf key' 2) true (φ x))) = φ (oneB (partOf key 0) true (oneB (partOf key 1) false (oneB (partOf key 2) true x)))
      rw [g 2 true x (by decide) hx, g 1 false _ (by decide) (l1 _ _ _), g 0 true _ (by decide) (l1 _ _ _)]
theorem oneB_cm (key : List Bool) (hk : key.length = 64) (back : Bool) (x : List Bool) (hx : x.length = 64) : oneB (cm key) back (cm x) = cm (oneB key back x) := by
  unfold oneB order
  rw [sched_cm key hk]
  cases back
  · simpa using des_cm (sched key) x hx
  · have := des_cm (sched key).reverse x hx
    rw [List.map_reverse] at this
    simpa using this
theorem kindOf_over (key : List UInt8) : kindOf (overL key) = kindOf key := by simp [kindOf, overL]
theorem partAt_over (key : List UInt8) (j : Nat) : partAt (overL key) j = cm (partAt key j) := by
  unfold partAt
  rw [← bitsB_cm]
  congr 1
  simp [overL, List.map_drop, List.map_take]
theorem partOf_over (key : List UInt8) (j : Nat) : partOf (overL key) j = cm (partOf key j) := by
  unfold partOf
  rw [kindOf_over]
  split <;> exact partAt_over _ _
theorem turnB_over (key : List UInt8) (hk : 1 ≤ kindOf key) (back : Bool) (x : List Bool) (hx : x.length = 64) : turnB (overL key) back (cm x) = cm (turnB key back x) :=
  turnB_map cm key (overL key) (kindOf_over key) (fun k bk y h3 h1 hy => by rw [partOf_over]; exact oneB_cm _ (part_len key hk k h3 h1) bk y hy) back x hx

/-! ### Texts -/
theorem blocksStr_size (outB : Nat → List Bool) (s : ByteArray) (h : s.size % 8 = 0) : (blocksStr outB s).size = s.size := by
  show (outBytes outB (s.size / 8)).toArray.size = s.size
  rw [List.size_toArray, outBytes_length]; omega
theorem blocksStr_list (outB : Nat → List Bool) (s : ByteArray) : (blocksStr outB s).data.toList = outBytes outB (s.size / 8) := rfl
theorem outBytes_congr (a b : Nat → List Bool) (n : Nat) (h : ∀ i, i < n → a i = b i) : outBytes a n = outBytes b n := by
  induction n with
  | zero => rfl
  | succ n ih => rw [outBytes_succ, outBytes_succ, ih (fun i hi => h i (by omega)), h n (by omega)]
theorem outBytes_block (a : Nat → List Bool) (n i : Nat) (h : i < n) (hl : (a i).length = 64) : bitsB (((outBytes a n).drop (8 * i)).take 8) = a i := by
  induction n with
  | zero => omega
  | succ n ih =>
    rw [outBytes_succ]
    have hln := outBytes_length a n
    by_cases e : i = n
    · subst e
      rw [List.drop_append_of_le_length (by omega), List.drop_of_length_le (by omega), List.nil_append, List.take_of_length_le (by rw [bytes8_length]; exact Nat.le_refl _), bitsB_bytes8, (num64 _ hl).2]
    · rw [List.drop_append_of_le_length (by omega), List.take_append_of_le_length (by rw [List.length_drop, hln]; omega)]
      exact ih (by omega)
/-- A text is what its own blocks come to. -/
theorem outBytes_self (s : ByteArray) (n : Nat) (h : 8 * n ≤ s.size) : outBytes (blockAt s) n = s.data.toList.take (8 * n) := by
  have hl : s.data.toList.length = s.size := by rw [Array.length_toList]; rfl
  induction n with
  | zero => rfl
  | succ n ih =>
    rw [outBytes_succ, ih (by omega)]
    unfold blockAt
    rw [bytes8_bits _ (by rw [List.length_take, List.length_drop, hl]; omega), show 8 * (n + 1) = 8 * n + 8 by omega, List.take_add]
theorem byteArray_ext {a b : ByteArray} (h : a.data.toList = b.data.toList) : a = b := by
  cases a; cases b; congr 1; exact Array.toList_inj.1 h
theorem blocksStr_self (s : ByteArray) (h : s.size % 8 = 0) : blocksStr (blockAt s) s = s := by
  apply byteArray_ext
  rw [blocksStr_list, outBytes_self s _ (by omega), List.take_of_length_le]
  rw [Array.length_toList]; show s.size ≤ _; omega
theorem blockAt_str (a : Nat → List Bool) (s : ByteArray) (h : s.size % 8 = 0) (i : Nat) (hi : i < s.size / 8) (hl : (a i).length = 64) : blockAt (blocksStr a s) i = a i := by
  unfold blockAt
  rw [blocksStr_list]
  exact outBytes_block a _ i hi hl
theorem blocksStr_congr (a b : Nat → List Bool) (s t : ByteArray) (hs : s.size = t.size) (h : ∀ i, i < s.size / 8 → a i = b i) : blocksStr a s = blocksStr b t := by
  unfold blocksStr
  rw [← hs, outBytes_congr a b _ h]
theorem ecb_back (key : List UInt8) (back : Bool) (s : ByteArray) (h : s.size % 8 = 0) : blocksStr (ecbB key (!back) (blocksStr (ecbB key back s) s)) (blocksStr (ecbB key back s) s) = s := by
  rw [← blocksStr_self s h]
  conv => rhs; rw [← blocksStr_self s h]
  apply blocksStr_congr
  · rw [blocksStr_size _ _ (by rw [blocksStr_self s h]; exact h)]
  · intro i hi
    rw [blocksStr_self s h] at *
    rw [blocksStr_size _ _ h] at hi
    have hl := blockAt_length s (s.size / 8) i (by omega) hi
    unfold ecbB
    rw [blockAt_str _ s h i hi (turnB_length _ _ _ hl), turnB_back _ _ _ hl]
theorem overS_list (s : ByteArray) : (overS s).data.toList = overL s.data.toList := rfl
theorem blockAt_over (s : ByteArray) (i : Nat) : blockAt (overS s) i = cm (blockAt s i) := by
  unfold blockAt
  rw [overS_list, ← bitsB_cm]
  congr 1
  simp [overL, List.map_drop, List.map_take]
theorem overL_append (a b : List UInt8) : overL (a ++ b) = overL a ++ overL b := by simp [overL]
theorem outBytes_cm (a : Nat → List Bool) (n : Nat) (h : ∀ i, i < n → (a i).length = 64) : outBytes (fun i => cm (a i)) n = overL (outBytes a n) := by
  induction n with
  | zero => rfl
  | succ n ih => rw [outBytes_succ, outBytes_succ, ih (fun i hi => h i (by omega)), overL_append, bytes8_cm _ (h n (by omega))]
/-- All bits turned: what is encrypted. -/
theorem under_over (key t : ByteArray) (hk : 1 ≤ kindOf key.data.toList) (ht : t.size % 8 = 0) : underS (overS key) (overS t) = overS (underS key t) := by
  have hl := fun i hi => blockAt_length t (t.size / 8) i (by omega) hi
  apply byteArray_ext
  rw [overS_list]
  unfold underS
  rw [blocksStr_list, blocksStr_list, overS_size, overS_list, ← outBytes_cm (ecbB key.data.toList false t) _ (fun i hi => turnB_length _ _ _ (hl i hi))]
  apply outBytes_congr
  intro i hi
  unfold ecbB
  rw [blockAt_over, turnB_over _ hk _ _ (hl i hi)]
end Go.Proofs.YtopobangjpehnaaGreat.Walk

set_option linter.unusedVariables false
set_option linter.unusedSimpArgs false
namespace Go.Proofs.YtopobangjpehnaaGreat.Walk
open Pr Des Num

theorem turnB_back1 (key : List UInt8) (x : List Bool) (hx : x.length = 64) : turnB key true (turnB key false x) = x := turnB_back key false x hx
theorem turnB_back2 (key : List UInt8) (x : List Bool) (hx : x.length = 64) : turnB key false (turnB key true x) = x := turnB_back key true x hx
theorem ecb_back1 (key : List UInt8) (s : ByteArray) (h : s.size % 8 = 0) : blocksStr (ecbB key true (blocksStr (ecbB key false s) s)) (blocksStr (ecbB key false s) s) = s := ecb_back key false s h
theorem ecb_back2 (key : List UInt8) (s : ByteArray) (h : s.size % 8 = 0) : blocksStr (ecbB key false (blocksStr (ecbB key true s) s)) (blocksStr (ecbB key true s) s) = s := ecb_back key true s h
theorem cbcB_length (key : List UInt8) (first : List Bool) (hf : first.length = 64) (s : ByteArray) (n : Nat) (hs : s.size = 8 * n) (i : Nat) (hi : i < n) : (cbcB key first s i).length = 64 := by
  induction i with
  | zero => exact turnB_length _ _ _ (xo_len64 _ _ (blockAt_length s n 0 hs hi) hf)
  | succ i ih => exact turnB_length _ _ _ (xo_len64 _ _ (blockAt_length s n (i + 1) hs hi) (ih (by omega)))
theorem cbcPrev_length (key : List UInt8) (first : List Bool) (hf : first.length = 64) (s : ByteArray) (n : Nat) (hs : s.size = 8 * n) (i : Nat) (hi : i < n) : (cbcPrev key first s i).length = 64 := by
  cases i with
  | zero => exact hf
  | succ i => exact cbcB_length key first hf s n hs i (by omega)
theorem uncPrev_length (first : List Bool) (hf : first.length = 64) (s : ByteArray) (n : Nat) (hs : s.size = 8 * n) (i : Nat) (hi : i < n) : (uncPrev first s i).length = 64 := by
  cases i with
  | zero => exact hf
  | succ i => exact blockAt_length s n i hs (by omega)
theorem uncB_length (key : List UInt8) (first : List Bool) (hf : first.length = 64) (s : ByteArray) (n : Nat) (hs : s.size = 8 * n) (i : Nat) (hi : i < n) : (uncB key first s i).length = 64 :=
  xo_len64 _ _ (turnB_length _ _ _ (blockAt_length s n i hs hi)) (uncPrev_length first hf s n hs i hi)
/-- A chain, turned back. -/
theorem chain_back (key : List UInt8) (first : List Bool) (hf : first.length = 64) (s : ByteArray) (h : s.size % 8 = 0) :
    blocksStr (uncB key first (blocksStr (cbcB key first s) s)) (blocksStr (cbcB key first s) s) = s := by
  have hs : s.size = 8 * (s.size / 8) := by omega
  have hz := blocksStr_size (cbcB key first s) s h
  have hb := fun i hi => blockAt_str (cbcB key first s) s h i hi (cbcB_length key first hf s _ hs i hi)
  conv => rhs; rw [← blocksStr_self s h]
  apply blocksStr_congr _ _ _ _ hz
  intro i hi
  rw [hz] at hi
  unfold uncB
  have hp : uncPrev first (blocksStr (cbcB key first s) s) i = cbcPrev key first s i := by
    cases i with
    | zero => rfl
    | succ i => exact hb i (by omega)
  have hl := blockAt_length s _ i hs hi
  have hpl := cbcPrev_length key first hf s _ hs i hi
  rw [hb i hi, hp, cbcB_eq, turnB_back1 _ _ (xo_len64 _ _ hl hpl), xo_xo _ _ (by rw [hl, hpl]; exact Nat.le_refl _)]
/-- What was turned back as a chain, chained. -/
theorem unchain_back (key : List UInt8) (first : List Bool) (hf : first.length = 64) (s : ByteArray) (h : s.size % 8 = 0) :
    blocksStr (cbcB key first (blocksStr (uncB key first s) s)) (blocksStr (uncB key first s) s) = s := by
  have hs : s.size = 8 * (s.size / 8) := by omega
  have hz := blocksStr_size (uncB key first s) s h
  have hb := fun i hi => blockAt_str (uncB key first s) s h i hi (uncB_length key first hf s _ hs i hi)
  have hc : ∀ i, i < s.size / 8 → cbcB key first (blocksStr (uncB key first s) s) i = blockAt s i := by
    intro i
    induction i with
    | zero =>
      intro hi
      have hl := blockAt_length s _ 0 hs hi
      rw [cbcB_eq, hb 0 hi]
      show turnB key false (xo (xo (turnB key true (blockAt s 0)) first) first) = _
      rw [xo_xo _ _ (by rw [turnB_length _ _ _ hl, hf]; exact Nat.le_refl _), turnB_back2 _ _ hl]
    | succ i ih =>
      intro hi
      have hl := blockAt_length s _ (i + 1) hs hi
      have hl2 := blockAt_length s _ i hs (by omega)
      rw [cbcB_eq, hb (i + 1) hi]
      show turnB key false (xo (xo (turnB key true (blockAt s (i + 1))) (blockAt s i)) (cbcB key first (blocksStr (uncB key first s) s) i)) = _
      rw [ih (by omega), xo_xo _ _ (by rw [turnB_length _ _ _ hl, hl2]; exact Nat.le_refl _), turnB_back2 _ _ hl]
  conv => rhs; rw [← blocksStr_self s h]
  apply blocksStr_congr _ _ _ _ hz
  intro i hi
  rw [hz] at hi
  exact hc i hi
theorem first_len (f : ByteArray) (h : f.size = 8) : (bitsB f.data.toList).length = 64 := by rw [bitsB_length, Array.length_toList]; show 8 * f.size = 64; omega
end Go.Proofs.YtopobangjpehnaaGreat.Walk
