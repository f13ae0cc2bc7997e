/- cipher: Encrypt, Decrypt, Chain, Unchain: what they answer. -/
import Derived.Test.YtopobangjpehnaaEach
set_option linter.unusedVariables false
set_option linter.unusedSimpArgs false
namespace Go.Proofs.Ytopobangjpehnaa.Walk
open Go.RowKit Go.Proofs.YtopobangjpehnaaW.PrintWords Go.Proofs.YtopobangjpehnaaW.PrintLast Go.Proofs.YtopobangjpehnaaW.PrintMore Pr Des Num

def ecbB (key : List UInt8) (back : Bool) (s : ByteArray) (i : Nat) : List Bool := turnB key back (blockAt s i)
def cbcB (key : List UInt8) (first : List Bool) (s : ByteArray) : Nat → List Bool
  | 0 => turnB key false (xo (blockAt s 0) first)
  | i + 1 => turnB key false (xo (blockAt s (i + 1)) (cbcB key first s i))
def cbcPrev (key : List UInt8) (first : List Bool) (s : ByteArray) : Nat → List Bool
  | 0 => first
  | i + 1 => cbcB key first s i
theorem cbcB_eq (key : List UInt8) (first : List Bool) (s : ByteArray) (i : Nat) : cbcB key first s i = turnB key false (xo (blockAt s i) (cbcPrev key first s i)) := by
  cases i <;> rfl
def uncPrev (first : List Bool) (s : ByteArray) : Nat → List Bool
  | 0 => first
  | i + 1 => blockAt s i
def uncB (key : List UInt8) (first : List Bool) (s : ByteArray) (i : Nat) : List Bool := xo (turnB key true (blockAt s i)) (uncPrev first s i)

theorem blockAt_length (s : ByteArray) (n i : Nat) (hs : s.size = 8 * n) (hi : i < n) : (blockAt s i).length = 64 := by
  unfold blockAt
  rw [bitsB_length, List.length_take, List.length_drop, Array.length_toList]
  show 8 * min 8 (s.size - 8 * i) = 64
  omega
theorem blk_of {w w' : World} {B g : Nat} {t : TypeId} {cs : Array Value} (h : Blk w g t cs) (hg : g < B) (hk : ∀ k, k < B → w'.heap[k]? = w.heap[k]?) : Blk w' g t cs := (hk g hg).trans h

theorem xor_num (a b : List Bool) (ha : a.length = 64) (hb : b.length = 64) : Go.bits .xor .u64 ((num a : Nat) : Int) ((num b : Nat) : Int) = ((num (xo a b) : Nat) : Int) := by
  rw [xor_u64 _ _ (num64 a ha).1 (num64 b hb).1, num_xo _ _ (by rw [ha, hb])]
theorem xo_len64 (a b : List Bool) (ha : a.length = 64) (hb : b.length = 64) : (xo a b).length = 64 := by rw [xo_length, ha, hb]; rfl

set_option maxHeartbeats 1000000 in
set_option maxRecDepth 100000 in
theorem enc_closure (g cb : Nat) (key : List UInt8) (y : List Bool) (hy : y.length = 64) (W : World) (hb : Blk W cb 33 #[.pointer (some ⟨g, 0, none⟩)]) (hg : Blk W g 72 (keyBlock key)) :
    Calls Try.prog 65 #[.int .u64 ((num y : Nat) : Int), .pointer (some ⟨cb, 0, none⟩)] W fun e w' => e = .returned (.int .u64 ((num (turnB key false y) : Nat) : Int)) ∧ Below W.heap.size W w' := by
  have hT := turn_calls g key (num y) (num64 y hy).1 false W hg
  rw [(num64 y hy).2] at hT
  have HT := Aside0.mk hT
  have q0 : W.cell? ⟨cb, 0, none⟩ = some (.pointer (some ⟨g, 0, none⟩)) := (hb.cell 0).trans rfl
  clear hT hb hg hy
  go_enter Try.func65, Try.ntmps65
  go_wp2_with fail
  refine HT.out.mono ?_
  rintro e w1 ⟨rfl, hb1⟩
  have B1 := Aside0.mk hb1
  clear hb1
  go_wp2_with fail
  go_ret
  exact ⟨rfl, B1.out⟩
set_option maxHeartbeats 1000000 in
set_option maxRecDepth 100000 in
theorem dec_closure (g cb : Nat) (key : List UInt8) (y : List Bool) (hy : y.length = 64) (W : World) (hb : Blk W cb 33 #[.pointer (some ⟨g, 0, none⟩)]) (hg : Blk W g 72 (keyBlock key)) :
    Calls Try.prog 75 #[.int .u64 ((num y : Nat) : Int), .pointer (some ⟨cb, 0, none⟩)] W fun e w' => e = .returned (.int .u64 ((num (turnB key true y) : Nat) : Int)) ∧ Below W.heap.size W w' := by
  have hT := turn_calls g key (num y) (num64 y hy).1 true W hg
  rw [(num64 y hy).2] at hT
  have HT := Aside0.mk hT
  have q0 : W.cell? ⟨cb, 0, none⟩ = some (.pointer (some ⟨g, 0, none⟩)) := (hb.cell 0).trans rfl
  clear hT hb hg hy
  go_enter Try.func75, Try.ntmps75
  go_wp2_with fail
  refine HT.out.mono ?_
  rintro e w1 ⟨rfl, hb1⟩
  have B1 := Aside0.mk hb1
  clear hb1
  go_wp2_with fail
  go_ret
  exact ⟨rfl, B1.out⟩
set_option maxHeartbeats 1000000 in
set_option maxRecDepth 100000 in
theorem chain_closure (g cb cl : Nat) (key : List UInt8) (y l : List Bool) (hy : y.length = 64) (hl : l.length = 64) (W : World) (hb : Blk W cb 33 #[.pointer (some ⟨g, 0, none⟩)]) (hg : Blk W g 72 (keyBlock key))
    (hc : Blk W cl 67 #[.int .u64 ((num l : Nat) : Int)]) :
    Calls Try.prog 71 #[.int .u64 ((num y : Nat) : Int), .pointer (some ⟨cb, 0, none⟩), .pointer (some ⟨cl, 0, none⟩)] W fun e w' => e = .returned (.int .u64 ((num (turnB key false (xo y l)) : Nat) : Int)) ∧
      Blk w' cl 67 #[.int .u64 ((num (turnB key false (xo y l)) : Nat) : Int)] ∧ Kp W.heap.size cl W w' := by
  have hT := turn_calls g key (num (xo y l)) (num64 _ (xo_len64 y l hy hl)).1 false W hg
  rw [(num64 _ (xo_len64 y l hy hl)).2] at hT
  have HT := Aside0.mk hT
  have q0 : W.cell? ⟨cb, 0, none⟩ = some (.pointer (some ⟨g, 0, none⟩)) := (hb.cell 0).trans rfl
  have q1 : W.cell? ⟨cl, 0, none⟩ = some (.int .u64 ((num l : Nat) : Int)) := (hc.cell 0).trans rfl
  have hx := xor_num y l hy hl
  have HC := Aside0.mk hc
  clear hT hb hg hy hl hc
  generalize turnB key false (xo y l) = r at HT
  go_enter Try.func71, Try.ntmps71
  go_wp2_with fail
  refine HT.out.mono ?_
  rintro e w1 ⟨rfl, hb1⟩
  have B1 := Aside0.mk hb1
  have C1 := Aside0.mk (HC.out.step hb1)
  have q2 : w1.cell? ⟨cl, 0, none⟩ = some (.int .u64 ((num l : Nat) : Int)) := (C1.out.cell 0).trans rfl
  have q3 : w1.frozen? ⟨cl, 0, none⟩ = false := C1.out.frozen 0
  clear hb1 q0 q1
  go_wp2_with fail
  go_ret
  exact ⟨rfl, C1.out.set_ 0 _, (Kp.of_below B1.out).trans ⟨rfl, rfl, rfl, by simp [World.setCell], fun k hk hne => Below.heap_setCell _ _ _ _ hne⟩⟩
set_option maxHeartbeats 1000000 in
set_option maxRecDepth 100000 in
theorem unchain_closure (g cb cl : Nat) (hne : cb ≠ cl ∧ g ≠ cl) (key : List UInt8) (y l : List Bool) (hy : y.length = 64) (hl : l.length = 64) (W : World) (hb : Blk W cb 33 #[.pointer (some ⟨g, 0, none⟩)]) (hg : Blk W g 72 (keyBlock key))
    (hc : Blk W cl 67 #[.int .u64 ((num l : Nat) : Int)]) :
    Calls Try.prog 76 #[.int .u64 ((num y : Nat) : Int), .pointer (some ⟨cl, 0, none⟩), .pointer (some ⟨cb, 0, none⟩)] W fun e w' => e = .returned (.int .u64 ((num (xo (turnB key true y) l) : Nat) : Int)) ∧
      Blk w' cl 67 #[.int .u64 ((num y : Nat) : Int)] ∧ Kp W.heap.size cl W w' := by
  have hT := turn_calls g key (num y) (num64 y hy).1 true (W.setCell ⟨cl, 0, none⟩ (.int .u64 ((num y : Nat) : Int))) (hg.far hne.2 _)
  rw [(num64 _ hy).2] at hT
  have HT := Aside0.mk hT
  have q0 : (W.setCell ⟨cl, 0, none⟩ (.int .u64 ((num y : Nat) : Int))).cell? ⟨cb, 0, none⟩ = some (.pointer (some ⟨g, 0, none⟩)) := ((hb.far (p := ⟨cl, 0, none⟩) hne.1 _).cell 0).trans rfl
  have q1 : W.cell? ⟨cl, 0, none⟩ = some (.int .u64 ((num l : Nat) : Int)) := (hc.cell 0).trans rfl
  have q3 : W.frozen? ⟨cl, 0, none⟩ = false := hc.frozen 0
  have hx := xor_num (turnB key true y) l (turnB_length key true y hy) hl
  have HC := Aside0.mk (hc.set_ 0 (.int .u64 ((num y : Nat) : Int)))
  have HK : Aside0 (Kp W.heap.size cl W (W.setCell ⟨cl, 0, none⟩ (.int .u64 ((num y : Nat) : Int)))) := ⟨⟨rfl, rfl, rfl, by simp [World.setCell], fun k hk hne => Below.heap_setCell _ _ _ _ hne⟩⟩
  have HZ : Aside0 ((W.setCell ⟨cl, 0, none⟩ (.int .u64 ((num y : Nat) : Int))).heap.size = W.heap.size) := ⟨by simp [World.setCell]⟩
  clear hT hb hg hy hl hc hne
  generalize turnB key true y = r at *
  go_enter Try.func76, Try.ntmps76
  go_wp2_with fail
  refine HT.out.mono ?_
  rintro e w1 ⟨rfl, hb1⟩
  have B1 := Aside0.mk hb1
  have C1 := Aside0.mk (HC.out.step hb1)
  clear hb1 q0 q1
  go_wp2_with fail
  go_ret
  exact ⟨rfl, C1.out, HK.out.trans ((Kp.of_below B1.out).mono (by rw [HZ.out]; exact Nat.le_refl _))⟩

/-! ### The methods -/
theorem mod_eight {s : ByteArray} (h : s.size % 8 = 0) : s.size = 8 * (s.size / 8) := by omega
/-- The bytes of blocks. -/
def blocksStr (outB : Nat → List Bool) (s : ByteArray) : ByteArray := ⟨(outBytes outB (s.size / 8)).toArray⟩

set_option maxHeartbeats 1000000 in
set_option maxRecDepth 100000 in
theorem encrypt_yes (g : Nat) (key : List UInt8) (s : ByteArray) (hs : s.size % 8 = 0) (hm : s.size ≤ 140737488355000) (w : World) (hg : Blk w g 72 (keyBlock key)) :
    Calls Try.prog 40 #[.pointer (some ⟨g, 0, none⟩), .string s] w fun e w' => e = .returned (.tuple #[.string (blocksStr (ecbB key false s) s), .int .i64 0]) ∧ Below w.heap.size w w' := by
  have HE : Aside0 (∀ W : World, Blk W w.heap.size 33 #[.pointer (some ⟨g, 0, none⟩)] → Blk W g 72 (keyBlock key) → Below w.heap.size w W → Calls Try.prog 64 #[.string s, .func (Fn.func 65) #[] #[.pointer (some ⟨w.heap.size, 0, none⟩)]] W
      fun e w' => e = .returned (.tuple #[.string (blocksStr (ecbB key false s) s), .int .i64 0]) ∧ Below w.heap.size w w') := ⟨by
    intro W hcb hkb hB
    have hl := blockAt_length s (s.size / 8)
    refine (each_yes s (s.size / 8) (mod_eight hs) hm 65 Try.call65 _ W w.heap.size hcb.lt (fun _ W' => Blk W' w.heap.size 33 #[.pointer (some ⟨g, 0, none⟩)] ∧ Blk W' g 72 (keyBlock key)) (ecbB key false s) ⟨hcb, hkb⟩
      (fun i W1 W2 h hk => ⟨blk_of h.1 hcb.lt hk, blk_of h.2 hkb.lt hk⟩) (fun i W1 hi h hsz => ?_)).mono ?_
    · refine (enc_closure g w.heap.size key (blockAt s i) (hl i (mod_eight hs) hi) W1 h.1 h.2).mono ?_
      rintro e w2 ⟨rfl, hb⟩
      exact ⟨rfl, ⟨h.1.step hb, h.2.step hb⟩, Kp.of_below hb⟩
    · rintro e w2 ⟨rfl, _, hk⟩
      exact ⟨rfl, hB.trans (hk.below (by have := hB.size; omega) (Nat.le_refl _))⟩⟩
  have HG := Aside0.mk hg
  clear hg hs hm
  go_enter Try.func40, Try.ntmps40
  go_wp2_with fail
  refine (HE.out _ (Blk.new w 33 _) (HG.out.alloc _) ((Below.refl _ _).alloc (Nat.le_refl _) _)).mono ?_
  rintro e w1 ⟨rfl, hb1⟩
  have B1 := Aside0.mk hb1
  clear hb1
  go_wp2_with fail
  go_ret2
  exact ⟨rfl, B1.out⟩
set_option maxHeartbeats 1000000 in
set_option maxRecDepth 100000 in
theorem decrypt_yes (g : Nat) (key : List UInt8) (s : ByteArray) (hs : s.size % 8 = 0) (hm : s.size ≤ 140737488355000) (w : World) (hg : Blk w g 72 (keyBlock key)) :
    Calls Try.prog 52 #[.pointer (some ⟨g, 0, none⟩), .string s] w fun e w' => e = .returned (.tuple #[.string (blocksStr (ecbB key true s) s), .int .i64 0]) ∧ Below w.heap.size w w' := by
  have HE : Aside0 (∀ W : World, Blk W w.heap.size 33 #[.pointer (some ⟨g, 0, none⟩)] → Blk W g 72 (keyBlock key) → Below w.heap.size w W → Calls Try.prog 64 #[.string s, .func (Fn.func 75) #[] #[.pointer (some ⟨w.heap.size, 0, none⟩)]] W
      fun e w' => e = .returned (.tuple #[.string (blocksStr (ecbB key true s) s), .int .i64 0]) ∧ Below w.heap.size w w') := ⟨by
    intro W hcb hkb hB
    have hl := blockAt_length s (s.size / 8)
    refine (each_yes s (s.size / 8) (mod_eight hs) hm 75 Try.call75 _ W w.heap.size hcb.lt (fun _ W' => Blk W' w.heap.size 33 #[.pointer (some ⟨g, 0, none⟩)] ∧ Blk W' g 72 (keyBlock key)) (ecbB key true s) ⟨hcb, hkb⟩
      (fun i W1 W2 h hk => ⟨blk_of h.1 hcb.lt hk, blk_of h.2 hkb.lt hk⟩) (fun i W1 hi h hsz => ?_)).mono ?_
    · refine (dec_closure g w.heap.size key (blockAt s i) (hl i (mod_eight hs) hi) W1 h.1 h.2).mono ?_
      rintro e w2 ⟨rfl, hb⟩
      exact ⟨rfl, ⟨h.1.step hb, h.2.step hb⟩, Kp.of_below hb⟩
    · rintro e w2 ⟨rfl, _, hk⟩
      exact ⟨rfl, hB.trans (hk.below (by have := hB.size; omega) (Nat.le_refl _))⟩⟩
  have HG := Aside0.mk hg
  clear hg hs hm
  go_enter Try.func52, Try.ntmps52
  go_wp2_with fail
  refine (HE.out _ (Blk.new w 33 _) (HG.out.alloc _) ((Below.refl _ _).alloc (Nat.le_refl _) _)).mono ?_
  rintro e w1 ⟨rfl, hb1⟩
  have B1 := Aside0.mk hb1
  clear hb1
  go_wp2_with fail
  go_ret2
  exact ⟨rfl, B1.out⟩
set_option maxHeartbeats 1000000 in
set_option maxRecDepth 100000 in
theorem encrypt_no (p : Value) (s : ByteArray) (hs : s.size % 8 ≠ 0) (hm : s.size ≤ 140737488355000) (w : World) (hp : p.oneCell' = true) :
    Calls Try.prog 40 #[p, .string s] w fun e w' => e = .returned (.tuple #[.string ⟨#[]⟩, .int .i64 31]) ∧ Below w.heap.size w w' := by
  have HE := Aside0.mk (each_no s hs hm)
  clear hs hm
  go_enter Try.func40, Try.ntmps40
  go_wp2_with fail
  refine (HE.out _ _).mono ?_
  rintro e w1 ⟨rfl, hb1⟩
  have B1 := Aside0.mk (((Below.refl w.heap.size w).alloc (Nat.le_refl _) (.cells #[p] 33)).trans (hb1.mono (by simp)))
  clear hb1
  go_wp2_with fail
  go_ret2
  exact ⟨rfl, B1.out⟩
set_option maxHeartbeats 1000000 in
set_option maxRecDepth 100000 in
theorem decrypt_no (p : Value) (s : ByteArray) (hs : s.size % 8 ≠ 0) (hm : s.size ≤ 140737488355000) (w : World) (hp : p.oneCell' = true) :
    Calls Try.prog 52 #[p, .string s] w fun e w' => e = .returned (.tuple #[.string ⟨#[]⟩, .int .i64 31]) ∧ Below w.heap.size w w' := by
  have HE := Aside0.mk (each_no s hs hm)
  clear hs hm
  go_enter Try.func52, Try.ntmps52
  go_wp2_with fail
  refine (HE.out _ _).mono ?_
  rintro e w1 ⟨rfl, hb1⟩
  have B1 := Aside0.mk (((Below.refl w.heap.size w).alloc (Nat.le_refl _) (.cells #[p] 33)).trans (hb1.mono (by simp)))
  clear hb1
  go_wp2_with fail
  go_ret2
  exact ⟨rfl, B1.out⟩
set_option maxHeartbeats 1000000 in
set_option maxRecDepth 100000 in
theorem chain_yes (g : Nat) (key : List UInt8) (f s : ByteArray) (hf : f.size = 8) (hs : s.size % 8 = 0) (hm : s.size ≤ 140737488355000) (w : World) (hg : Blk w g 72 (keyBlock key)) :
    Calls Try.prog 46 #[.pointer (some ⟨g, 0, none⟩), .string f, .string s] w fun e w' => e = .returned (.tuple #[.string (blocksStr (cbcB key (bitsB f.data.toList) s) s), .int .i64 0]) ∧ Below w.heap.size w w' := by
  have htake : f.data.toList.take 8 = f.data.toList := List.take_of_length_le (by rw [Array.length_toList]; show f.size ≤ 8; omega)
  have hfl : (bitsB f.data.toList).length = 64 := by rw [bitsB_length, Array.length_toList]; show 8 * f.size = 64; omega
  have hN := number_any f (by omega)
  rw [htake] at hN
  generalize bitsB f.data.toList = first at *
  have HE : Aside0 (∀ (W : World) (cl : Nat), w.heap.size < cl → Blk W w.heap.size 33 #[.pointer (some ⟨g, 0, none⟩)] → Blk W cl 67 #[.int .u64 ((num first : Nat) : Int)] → Blk W g 72 (keyBlock key) → Below w.heap.size w W →
      Calls Try.prog 64 #[.string s, .func (Fn.func 71) #[] #[.pointer (some ⟨w.heap.size, 0, none⟩), .pointer (some ⟨cl, 0, none⟩)]] W
      fun e w' => e = .returned (.tuple #[.string (blocksStr (cbcB key first s) s), .int .i64 0]) ∧ Below w.heap.size w w') := ⟨by
    intro W cl hcl hcb hcc hkb hB
    have hl := blockAt_length s (s.size / 8)
    have hprev : ∀ i, i < s.size / 8 → (cbcPrev key first s i).length = 64 := by
      intro i hi
      cases i with
      | zero => exact hfl
      | succ i =>
        show (cbcB key first s i).length = 64
        induction i with
        | zero => exact turnB_length _ _ _ (xo_len64 _ _ (hl 0 (mod_eight hs) (by omega)) hfl)
        | succ i ih => exact turnB_length _ _ _ (xo_len64 _ _ (hl (i + 1) (mod_eight hs) (by omega)) (ih (by omega)))
    refine (each_yes s (s.size / 8) (mod_eight hs) hm 71 Try.call71 _ W cl hcc.lt (fun i W' => Blk W' w.heap.size 33 #[.pointer (some ⟨g, 0, none⟩)] ∧ Blk W' cl 67 #[.int .u64 ((num (cbcPrev key first s i) : Nat) : Int)] ∧ Blk W' g 72 (keyBlock key)) (cbcB key first s) ⟨hcb, hcc, hkb⟩
      (fun i W1 W2 h hk => ⟨blk_of h.1 hcb.lt hk, blk_of h.2.1 hcc.lt hk, blk_of h.2.2 hkb.lt hk⟩) (fun i W1 hi h hsz => ?_)).mono ?_
    · refine (chain_closure g w.heap.size cl key (blockAt s i) (cbcPrev key first s i) (hl i (mod_eight hs) hi) (hprev i hi) W1 h.1 h.2.2 h.2.1).mono ?_
      rintro e w2 ⟨rfl, hc2, hk⟩
      rw [← cbcB_eq] at hc2 ⊢
      have hgc : g ≠ cl := (h.2.2.ne_ h.2.1 (by decide))
      exact ⟨rfl, ⟨(hk.block _ h.1.lt (by omega)).trans h.1, hc2, (hk.block _ h.2.2.lt hgc).trans h.2.2⟩, hk⟩
    · rintro e w2 ⟨rfl, _, hk⟩
      exact ⟨rfl, hB.trans (hk.below (by have := hB.size; omega) (by omega))⟩⟩
  have HG := Aside0.mk hg
  have HN := Aside0.mk hN
  have hb : ((f.size : Int) != 8) = false := by rw [bne_eq_false_iff_eq]; omega
  clear hg hs hm hN htake hfl hf
  go_enter Try.func46, Try.ntmps46
  go_wp2_with fail
  refine (HN.out _).mono ?_
  rintro e w1 ⟨rfl, hb1⟩
  have C1 := Aside0.mk ((Blk.new w 33 #[.pointer (some ⟨g, 0, none⟩)]).step hb1)
  have G1 := Aside0.mk ((HG.out.alloc (.cells #[.pointer (some ⟨g, 0, none⟩)] 33)).step hb1)
  have B1 := Aside0.mk (((Below.refl w.heap.size w).alloc (Nat.le_refl _) (.cells #[.pointer (some ⟨g, 0, none⟩)] 33)).trans (hb1.mono (by simp)))
  have S1 : Aside0 (w.heap.size < w1.heap.size) := ⟨by have := hb1.size; rw [size_alloc] at this; omega⟩
  clear hb1
  go_wp2_with fail
  refine (HE.out _ _ S1.out (C1.out.alloc _) (Blk.new w1 67 _) (G1.out.alloc _) (B1.out.alloc (by have := S1.out; omega) _)).mono ?_
  rintro e w2 ⟨rfl, hb2⟩
  have B2 := Aside0.mk hb2
  clear hb2
  go_wp2_with fail
  go_ret2
  exact ⟨rfl, B2.out⟩
set_option maxHeartbeats 1000000 in
set_option maxRecDepth 100000 in
theorem unchain_yes (g : Nat) (key : List UInt8) (f s : ByteArray) (hf : f.size = 8) (hs : s.size % 8 = 0) (hm : s.size ≤ 140737488355000) (w : World) (hg : Blk w g 72 (keyBlock key)) :
    Calls Try.prog 53 #[.pointer (some ⟨g, 0, none⟩), .string f, .string s] w fun e w' => e = .returned (.tuple #[.string (blocksStr (uncB key (bitsB f.data.toList) s) s), .int .i64 0]) ∧ Below w.heap.size w w' := by
  have htake : f.data.toList.take 8 = f.data.toList := List.take_of_length_le (by rw [Array.length_toList]; show f.size ≤ 8; omega)
  have hfl : (bitsB f.data.toList).length = 64 := by rw [bitsB_length, Array.length_toList]; show 8 * f.size = 64; omega
  have hN := number_any f (by omega)
  rw [htake] at hN
  generalize bitsB f.data.toList = first at *
  have HE : Aside0 (∀ (W : World) (cl : Nat), w.heap.size < cl → Blk W w.heap.size 33 #[.pointer (some ⟨g, 0, none⟩)] → Blk W cl 67 #[.int .u64 ((num first : Nat) : Int)] → Blk W g 72 (keyBlock key) → Below w.heap.size w W →
      Calls Try.prog 64 #[.string s, .func (Fn.func 76) #[] #[.pointer (some ⟨cl, 0, none⟩), .pointer (some ⟨w.heap.size, 0, none⟩)]] W
      fun e w' => e = .returned (.tuple #[.string (blocksStr (uncB key first s) s), .int .i64 0]) ∧ Below w.heap.size w w') := ⟨by
    intro W cl hcl hcb hcc hkb hB
    have hl := blockAt_length s (s.size / 8)
    have hprev : ∀ i, i < s.size / 8 → (uncPrev first s i).length = 64 := by
      intro i hi
      cases i with
      | zero => exact hfl
      | succ i => exact hl i (mod_eight hs) (by omega)
    refine (each_yes s (s.size / 8) (mod_eight hs) hm 76 Try.call76 _ W cl hcc.lt (fun i W' => Blk W' w.heap.size 33 #[.pointer (some ⟨g, 0, none⟩)] ∧ Blk W' cl 67 #[.int .u64 ((num (uncPrev first s i) : Nat) : Int)] ∧ Blk W' g 72 (keyBlock key)) (uncB key first s) ⟨hcb, hcc, hkb⟩
      (fun i W1 W2 h hk => ⟨blk_of h.1 hcb.lt hk, blk_of h.2.1 hcc.lt hk, blk_of h.2.2 hkb.lt hk⟩) (fun i W1 hi h hsz => ?_)).mono ?_
    · have hgc : g ≠ cl := (h.2.2.ne_ h.2.1 (by decide))
      refine (unchain_closure g w.heap.size cl ⟨by omega, hgc⟩ key (blockAt s i) (uncPrev first s i) (hl i (mod_eight hs) hi) (hprev i hi) W1 h.1 h.2.2 h.2.1).mono ?_
      rintro e w2 ⟨rfl, hc2, hk⟩
      exact ⟨rfl, ⟨(hk.block _ h.1.lt (by omega)).trans h.1, hc2, (hk.block _ h.2.2.lt hgc).trans h.2.2⟩, hk⟩
    · rintro e w2 ⟨rfl, _, hk⟩
      exact ⟨rfl, hB.trans (hk.below (by have := hB.size; omega) (by omega))⟩⟩
  have HG := Aside0.mk hg
  have HN := Aside0.mk hN
  have hb : ((f.size : Int) != 8) = false := by rw [bne_eq_false_iff_eq]; omega
  clear hg hs hm hN htake hfl hf
  go_enter Try.func53, Try.ntmps53
  go_wp2_with fail
  refine (HN.out _).mono ?_
  rintro e w1 ⟨rfl, hb1⟩
  have C1 := Aside0.mk ((Blk.new w 33 #[.pointer (some ⟨g, 0, none⟩)]).step hb1)
  have G1 := Aside0.mk ((HG.out.alloc (.cells #[.pointer (some ⟨g, 0, none⟩)] 33)).step hb1)
  have B1 := Aside0.mk (((Below.refl w.heap.size w).alloc (Nat.le_refl _) (.cells #[.pointer (some ⟨g, 0, none⟩)] 33)).trans (hb1.mono (by simp)))
  have S1 : Aside0 (w.heap.size < w1.heap.size) := ⟨by have := hb1.size; rw [size_alloc] at this; omega⟩
  clear hb1
  go_wp2_with fail
  refine (HE.out _ _ S1.out (C1.out.alloc _) (Blk.new w1 67 _) (G1.out.alloc _) (B1.out.alloc (by have := S1.out; omega) _)).mono ?_
  rintro e w2 ⟨rfl, hb2⟩
  have B2 := Aside0.mk hb2
  clear hb2
  go_wp2_with fail
  go_ret2
  exact ⟨rfl, B2.out⟩
set_option maxHeartbeats 1000000 in
set_option maxRecDepth 100000 in
theorem chain_short (p : Value) (f s : ByteArray) (hf : f.size ≠ 8) (w : World) (hp : p.oneCell' = true) :
    Calls Try.prog 46 #[p, .string f, .string s] w fun e w' => e = .returned (.tuple #[.string ⟨#[]⟩, .int .i64 31]) ∧ Below w.heap.size w w' := by
  have hb : ((f.size : Int) != 8) = true := by rw [bne_iff_ne]; omega
  clear hf
  go_enter Try.func46, Try.ntmps46
  go_wp2_with fail
  go_ret2
  exact ⟨rfl, (Below.refl _ _).alloc (Nat.le_refl _) _⟩
set_option maxHeartbeats 1000000 in
set_option maxRecDepth 100000 in
theorem chain_no (p : Value) (f s : ByteArray) (hf : f.size = 8) (hs : s.size % 8 ≠ 0) (hm : s.size ≤ 140737488355000) (w : World) (hp : p.oneCell' = true) :
    Calls Try.prog 46 #[p, .string f, .string s] w fun e w' => e = .returned (.tuple #[.string ⟨#[]⟩, .int .i64 31]) ∧ Below w.heap.size w w' := by
  have HE := Aside0.mk (each_no s hs hm)
  have HN := Aside0.mk (number_any f (by omega))
  have hb : ((f.size : Int) != 8) = false := by rw [bne_eq_false_iff_eq]; omega
  clear hs hm hf
  go_enter Try.func46, Try.ntmps46
  go_wp2_with fail
  refine (HN.out _).mono ?_
  rintro e w1 ⟨rfl, hb1⟩
  have B1 := Aside0.mk (((Below.refl w.heap.size w).alloc (Nat.le_refl _) (.cells #[p] 33)).trans (hb1.mono (by simp)))
  clear hb1
  go_wp2_with fail
  refine (HE.out _ _).mono ?_
  rintro e w2 ⟨rfl, hb2⟩
  replace B1 := Aside0.mk ((B1.out.alloc B1.out.size (.cells #[.int .u64 ((num (bitsB (f.data.toList.take 8)) : Nat) : Int)] 67)).trans (hb2.mono (by rw [size_alloc]; have := B1.out.size; omega)))
  clear hb2
  go_wp2_with fail
  go_ret2
  exact ⟨rfl, B1.out⟩
set_option maxHeartbeats 1000000 in
set_option maxRecDepth 100000 in
theorem unchain_short (p : Value) (f s : ByteArray) (hf : f.size ≠ 8) (w : World) (hp : p.oneCell' = true) :
    Calls Try.prog 53 #[p, .string f, .string s] w fun e w' => e = .returned (.tuple #[.string ⟨#[]⟩, .int .i64 31]) ∧ Below w.heap.size w w' := by
  have hb : ((f.size : Int) != 8) = true := by rw [bne_iff_ne]; omega
  clear hf
  go_enter Try.func53, Try.ntmps53
  go_wp2_with fail
  go_ret2
  exact ⟨rfl, (Below.refl _ _).alloc (Nat.le_refl _) _⟩
set_option maxHeartbeats 1000000 in
set_option maxRecDepth 100000 in
theorem unchain_no (p : Value) (f s : ByteArray) (hf : f.size = 8) (hs : s.size % 8 ≠ 0) (hm : s.size ≤ 140737488355000) (w : World) (hp : p.oneCell' = true) :
    Calls Try.prog 53 #[p, .string f, .string s] w fun e w' => e = .returned (.tuple #[.string ⟨#[]⟩, .int .i64 31]) ∧ Below w.heap.size w w' := by
  have HE := Aside0.mk (each_no s hs hm)
  have HN := Aside0.mk (number_any f (by omega))
  have hb : ((f.size : Int) != 8) = false := by rw [bne_eq_false_iff_eq]; omega
  clear hs hm hf
  go_enter Try.func53, Try.ntmps53
  go_wp2_with fail
  refine (HN.out _).mono ?_
  rintro e w1 ⟨rfl, hb1⟩
  have B1 := Aside0.mk (((Below.refl w.heap.size w).alloc (Nat.le_refl _) (.cells #[p] 33)).trans (hb1.mono (by simp)))
  clear hb1
  go_wp2_with fail
  refine (HE.out _ _).mono ?_
  rintro e w2 ⟨rfl, hb2⟩
  replace B1 := Aside0.mk ((B1.out.alloc B1.out.size (.cells #[.int .u64 ((num (bitsB (f.data.toList.take 8)) : Nat) : Int)] 67)).trans (hb2.mono (by rw [size_alloc]; have := B1.out.size; omega)))
  clear hb2
  go_wp2_with fail
  go_ret2
  exact ⟨rfl, B1.out⟩
end Go.Proofs.Ytopobangjpehnaa.Walk
