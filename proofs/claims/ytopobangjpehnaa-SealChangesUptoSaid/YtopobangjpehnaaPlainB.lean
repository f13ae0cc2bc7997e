/- Of chains, in plain Lean: there and back, both ways. -/
import Derived.Test.YtopobangjpehnaaPlain
set_option linter.unusedVariables false
set_option linter.unusedSimpArgs false
namespace Go.Proofs.Ytopobangjpehnaa.Walk
open Pr Des Num

theorem turnB_back1 (key : List UInt8) (x : List Bool) (hx : x.length = 64) : turnB key true (turnB key false x) = x := turnB_back key false x hx
theorem turnB_back2 (key : List UInt8) (x : List Bool) (hx : x.length = 64) : turnB key false (turnB key true x) = x := turnB_back key true x hx
theorem ecb_back1 (key : List UInt8) (s : ByteArray) (h : s.size % 8 = 0) : blocksStr (ecbB key true (blocksStr (ecbB key false s) s)) (blocksStr (ecbB key false s) s) = s := ecb_back key false s h
theorem ecb_back2 (key : List UInt8) (s : ByteArray) (h : s.size % 8 = 0) : blocksStr (ecbB key false (blocksStr (ecbB key true s) s)) (blocksStr (ecbB key true s) s) = s := ecb_back key true s h
theorem cbcB_length (key : List UInt8) (first : List Bool) (hf : first.length = 64) (s : ByteArray) (n : Nat) (hs : s.size = 8 * n) (i : Nat) (hi : i < n) : (cbcB key first s i).length = 64 := by
  induction i with
  | zero => exact turnB_length _ _ _ (xo_len64 _ _ (blockAt_length s n 0 hs hi) hf)
  | succ i ih => exact turnB_length _ _ _ (xo_len64 _ _ (blockAt_length s n (i + 1) hs hi) (ih (by omega)))
theorem cbcPrev_length (key : List UInt8) (first : List Bool) (hf : first.length = 64) (s : ByteArray) (n : Nat) (hs : s.size = 8 * n) (i : Nat) (hi : i < n) : (cbcPrev key first s i).length = 64 := by
  cases i with
  | zero => exact hf
  | succ i => exact cbcB_length key first hf s n hs i (by omega)
theorem uncPrev_length (first : List Bool) (hf : first.length = 64) (s : ByteArray) (n : Nat) (hs : s.size = 8 * n) (i : Nat) (hi : i < n) : (uncPrev first s i).length = 64 := by
  cases i with
  | zero => exact hf
  | succ i => exact blockAt_length s n i hs (by omega)
theorem uncB_length (key : List UInt8) (first : List Bool) (hf : first.length = 64) (s : ByteArray) (n : Nat) (hs : s.size = 8 * n) (i : Nat) (hi : i < n) : (uncB key first s i).length = 64 :=
  xo_len64 _ _ (turnB_length _ _ _ (blockAt_length s n i hs hi)) (uncPrev_length first hf s n hs i hi)
/-- A chain, turned back. -/
theorem chain_back (key : List UInt8) (first : List Bool) (hf : first.length = 64) (s : ByteArray) (h : s.size % 8 = 0) :
    blocksStr (uncB key first (blocksStr (cbcB key first s) s)) (blocksStr (cbcB key first s) s) = s := by
  have hs : s.size = 8 * (s.size / 8) := by omega
  have hz := blocksStr_size (cbcB key first s) s h
  have hb := fun i hi => blockAt_str (cbcB key first s) s h i hi (cbcB_length key first hf s _ hs i hi)
  conv => rhs; rw [← blocksStr_self s h]
  apply blocksStr_congr _ _ _ _ hz
  intro i hi
  rw [hz] at hi
  unfold uncB
  have hp : uncPrev first (blocksStr (cbcB key first s) s) i = cbcPrev key first s i := by
    cases i with
    | zero => rfl
    | succ i => exact hb i (by omega)
  have hl := blockAt_length s _ i hs hi
  have hpl := cbcPrev_length key first hf s _ hs i hi
  rw [hb i hi, hp, cbcB_eq, turnB_back1 _ _ (xo_len64 _ _ hl hpl), xo_xo _ _ (by rw [hl, hpl]; exact Nat.le_refl _)]
/-- What was turned back as a chain, chained. -/
theorem unchain_back (key : List UInt8) (first : List Bool) (hf : first.length = 64) (s : ByteArray) (h : s.size % 8 = 0) :
    blocksStr (cbcB key first (blocksStr (uncB key first s) s)) (blocksStr (uncB key first s) s) = s := by
  have hs : s.size = 8 * (s.size / 8) := by omega
  have hz := blocksStr_size (uncB key first s) s h
  have hb := fun i hi => blockAt_str (uncB key first s) s h i hi (uncB_length key first hf s _ hs i hi)
  have hc : ∀ i, i < s.size / 8 → cbcB key first (blocksStr (uncB key first s) s) i = blockAt s i := by
    intro i
    induction i with
    | zero =>
      intro hi
      have hl := blockAt_length s _ 0 hs hi
      rw [cbcB_eq, hb 0 hi]
      show turnB key false (xo (xo (turnB key true (blockAt s 0)) first) first) = _
      rw [xo_xo _ _ (by rw [turnB_length _ _ _ hl, hf]; exact Nat.le_refl _), turnB_back2 _ _ hl]
    | succ i ih =>
      intro hi
      have hl := blockAt_length s _ (i + 1) hs hi
      have hl2 := blockAt_length s _ i hs (by omega)
      rw [cbcB_eq, hb (i + 1) hi]
      show turnB key false (xo (xo (turnB key true (blockAt s (i + 1))) (blockAt s i)) (cbcB key first (blocksStr (uncB key first s) s) i)) = _
      rw [ih (by omega), xo_xo _ _ (by rw [turnB_length _ _ _ hl, hl2]; exact Nat.le_refl _), turnB_back2 _ _ hl]
  conv => rhs; rw [← blocksStr_self s h]
  apply blocksStr_congr _ _ _ _ hz
  intro i hi
  rw [hz] at hi
  exact hc i hi
theorem first_len (f : ByteArray) (h : f.size = 8) : (bitsB f.data.toList).length = 64 := by rw [bitsB_length, Array.length_toList]; show 8 * f.size = 64; omega
end Go.Proofs.Ytopobangjpehnaa.Walk
