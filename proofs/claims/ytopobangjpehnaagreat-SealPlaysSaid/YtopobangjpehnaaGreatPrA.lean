/- Functions of the program as plain Lean functions, and that the Go calls come to just these answers: each text below as the kit's print.py wrote it (several laws at once), laid by wip/cutprint.py. -/
import Derived.Test.YtopobangjpehnaaGreatPrH
namespace Go.Proofs.YtopobangjpehnaaGreat.Pr
open Go.RowKit Go.Proofs.YtopobangjpehnaaGreatW.PrintWords Go.Proofs.YtopobangjpehnaaGreatW.PrintLast Go.Proofs.YtopobangjpehnaaGreatW.PrintMore
attribute [local go_sem] max2_int min2_int max_two min_two max_three min_three max_four min_four   -- for this text's walks alone
set_option linter.unusedVariables false
set_option linter.unusedSimpArgs false


/-! ### cipher_kind: function 57 -/
def cipher_kind.f (a0 : ByteArray) : Option (Int) := if (a0.size : Int) = 8 then (some 1) else (if (a0.size : Int) = 16 then (some 2) else (if (a0.size : Int) = 24 then (some 3) else (some 0)))
set_option maxHeartbeats 8000000 in
set_option maxRecDepth 100000 in
theorem cipher_kind.calls (a0 : ByteArray) (r : Int) (w : World) (h : cipher_kind.f a0 = some r) :
    Calls Tryz.prog 57 #[.string a0] w fun e w' => e = .returned (.int .i64 r) ∧ Drawn0 w w' := by
  have H : (if (a0.size : Int) = 8 then (some 1) else (if (a0.size : Int) = 16 then (some 2) else (if (a0.size : Int) = 24 then (some 3) else (some 0)))) = some r := h
  clear h
  by_cases c2 : (a0.size : Int) = 8
  · rw [if_pos c2] at H
    have c2b0 : ((a0.size : Int) == 8) = true := beq_iff_eq.mpr c2
    have c2b1 : ((a0.size : Int) != 8) = false := bne_eq_false_iff_eq.mpr c2
    clear c2
    obtain rfl := Option.some.inj H
    go_enter Tryz.func57, Tryz.ntmps57
    go_wp2
    go_ret
    exact ⟨by first | rfl | (simp; done) | (simp [*]; done), by repeat (first | exact Drawn0.refl _ | apply Drawn0.step)⟩
  · rw [if_neg c2] at H
    have c2b0 : ((a0.size : Int) == 8) = false := beq_eq_false_iff_ne.mpr c2
    have c2b1 : ((a0.size : Int) != 8) = true := bne_iff_ne.mpr c2
    by_cases c3 : (a0.size : Int) = 16
    · rw [if_pos c3] at H
      have c3b0 : ((a0.size : Int) == 16) = true := beq_iff_eq.mpr c3
      have c3b1 : ((a0.size : Int) != 16) = false := bne_eq_false_iff_eq.mpr c3
      clear c3
      obtain rfl := Option.some.inj H
      go_enter Tryz.func57, Tryz.ntmps57
      go_wp2
      go_ret
      exact ⟨by first | rfl | (simp; done) | (simp [*]; done), by repeat (first | exact Drawn0.refl _ | apply Drawn0.step)⟩
    · rw [if_neg c3] at H
      have c3b0 : ((a0.size : Int) == 16) = false := beq_eq_false_iff_ne.mpr c3
      have c3b1 : ((a0.size : Int) != 16) = true := bne_iff_ne.mpr c3
      by_cases c4 : (a0.size : Int) = 24
      · rw [if_pos c4] at H
        have c4b0 : ((a0.size : Int) == 24) = true := beq_iff_eq.mpr c4
        have c4b1 : ((a0.size : Int) != 24) = false := bne_eq_false_iff_eq.mpr c4
        clear c4
        obtain rfl := Option.some.inj H
        go_enter Tryz.func57, Tryz.ntmps57
        go_wp2
        go_ret
        exact ⟨by first | rfl | (simp; done) | (simp [*]; done), by repeat (first | exact Drawn0.refl _ | apply Drawn0.step)⟩
      · rw [if_neg c4] at H
        have c4b0 : ((a0.size : Int) == 24) = false := beq_eq_false_iff_ne.mpr c4
        have c4b1 : ((a0.size : Int) != 24) = true := bne_iff_ne.mpr c4
        obtain rfl := Option.some.inj H
        go_enter Tryz.func57, Tryz.ntmps57
        go_wp2
        go_ret
        exact ⟨by first | rfl | (simp; done) | (simp [*]; done), by repeat (first | exact Drawn0.refl _ | apply Drawn0.step)⟩

/-! ### cipher_number: function 68 -/
def cipher_number.l0 : Nat → ByteArray → Int → Int → Option (Int)
  | 0, _, _, _ => none
  | k + 1, x0, x3, x5 => if x5 < 8 then (if 0 ≤ x5 then (if x5 < (x0.size : Int) then (cipher_number.l0 k x0 (Go.bits .or .u64 (IntKind.u64.wrap (x3 * 256)) (IntKind.u64.wrap (bt x0 x5))) (wrap64 (x5 + 1))) else (none)) else (none)) else (some x3)
def cipher_number.f (k : Nat) (a0 : ByteArray) : Option (Int) := cipher_number.l0 k a0 0 0
theorem cipher_number.mono_l : ∀ k, (∀ y0 y1 y2, LeO (cipher_number.l0 k y0 y1 y2) (cipher_number.l0 (k + 1) y0 y1 y2))
  | 0 => fun _ _ _ r h => by simp [cipher_number.l0] at h
  | k + 1 => by
    have ih0 := cipher_number.mono_l k
    · intro y0 y1 y2
      unfold cipher_number.l0
      repeat' first
      | (with_reducible exact ih0 _ _ _)
      | (with_reducible exact LeO.refl _)
      | (with_reducible exact LeO.none _)
      | (with_reducible refine LeO.ite ?_ ?_)
      | (with_reducible refine LeO.bind ?_ (fun _ => ?_))
      | exact ih0 _ _ _
      | exact LeO.none _
      | refine LeO.ite ?_ ?_
      | refine LeO.bind ?_ (fun _ => ?_)
theorem cipher_number.mono : ∀ a0 k, LeO (cipher_number.f k a0) (cipher_number.f (k + 1) a0) := by
  intro a0 k
  have ih0 := cipher_number.mono_l k
  unfold cipher_number.f
  repeat' first
      | (with_reducible exact ih0 _ _ _)
      | (with_reducible exact LeO.refl _)
      | (with_reducible exact LeO.none _)
      | (with_reducible refine LeO.ite ?_ ?_)
      | (with_reducible refine LeO.bind ?_ (fun _ => ?_))
      | exact ih0 _ _ _
      | exact LeO.none _
      | refine LeO.ite ?_ ?_
      | refine LeO.bind ?_ (fun _ => ?_)
set_option maxHeartbeats 8000000 in
set_option maxRecDepth 100000 in
theorem cipher_number.calls (k : Nat) (a0 : ByteArray) (r : Int) (w : World) (h : cipher_number.f k a0 = some r) :
    Calls Tryz.prog 59 #[.string a0] w fun e w' => e = .returned (.int .u64 r) ∧ Drawn0 w w' := by
  have H : (cipher_number.l0 k a0 0 0) = some r := h
  clear h
  have H' := Aside0.mk H
  clear H
  go_enter Tryz.func59, Tryz.ntmps59
  go_wp2
  go_loopg [3, 5] k (fun kq v3 v5 w' => ∃ (x3_1 : Int) (x5_1 : Int), v3 = .int .u64 x3_1 ∧ v5 = .int .i64 x5_1 ∧ Aside0 (cipher_number.l0 kq a0 x3_1 x5_1 = some r) ∧ Aside0 (kq ≤ k) ∧ Drawn0 w w')
  case atStart => exact ⟨(0), (0), (by first | rfl | (simp; done) | (simp [*]; done)), (by first | rfl | (simp; done) | (simp [*]; done)), H', ⟨Nat.le_refl _⟩, by repeat (first | exact Drawn0.refl _ | apply Drawn0.step)⟩
  case round =>
    clear H'
    obtain ⟨x3_1, x5_1, rfl, rfl, HA, HK1, ⟨m1, rfl⟩⟩ := hrel
    cases gk with
    | zero => exact absurd HA.out (by simp [cipher_number.l0])
    | succ k1 =>
      have H := HA.out
      clear HA
      simp only [cipher_number.l0] at H
      by_cases c2 : x5_1 < 8
      · rw [if_pos c2] at H
        have c2b0 : decide (x5_1 < 8) = true := decide_eq_true c2
        clear c2
        by_cases c3 : 0 ≤ x5_1
        · rw [if_pos c3] at H
          have c3b0 : decide (0 ≤ x5_1) = true := decide_eq_true c3
          clear c3
          by_cases c4 : x5_1 < (a0.size : Int)
          · rw [if_pos c4] at H
            have c4b0 : decide (x5_1 < (a0.size : Int)) = true := decide_eq_true c4
            clear c4
            have H' := Aside0.mk H
            clear H
            have p5 : 0 ≤ (x5_1 : Int) := of_decide_eq_true (by first | (with_reducible assumption) | assumption)
            have q5 : x5_1 < (a0.size : Int) := of_decide_eq_true (by first | (with_reducible assumption) | assumption)
            have hx5 := bt_at a0 x5_1
            replace p5 := eq_true p5
            replace q5 := eq_true q5
            go_wp2
            go_roundg k1
            case measure => have := HK1.out; omega
            case rel => exact ⟨(Go.bits .or .u64 (IntKind.u64.wrap (x3_1 * 256)) (IntKind.u64.wrap (bt a0 x5_1))), (wrap64 (x5_1 + 1)), (by first | rfl | (simp; done) | (simp [*]; done)), (by first | rfl | (simp; done) | (simp [*]; done)), H', ⟨by have := HK1.out; omega⟩, by repeat (first | exact Drawn0.refl _ | apply Drawn0.step)⟩
          · rw [if_neg c4] at H
            exact absurd H (by simp)
        · rw [if_neg c3] at H
          exact absurd H (by simp)
      · rw [if_neg c2] at H
        have c2b0 : decide (x5_1 < 8) = false := decide_eq_false c2
        clear c2
        obtain rfl := Option.some.inj H
        go_wp2
        go_ret
        exact ⟨by first | rfl | (simp; done) | (simp [*]; done), by repeat (first | exact Drawn0.refl _ | apply Drawn0.step)⟩

/-! ### cipher_take: function 84 -/
def cipher_take.l0 : Nat → Int → Int → Int → List Int → Int → Int → Option (Int)
  | 0, _, _, _, _, _, _ => none
  | k + 1, x1, x2, x7, x10, x11, x12 => if x12 < x11 then (if 0 ≤ x12 then (if x12 < (x10.length : Int) then (if 0 ≤ (wrap64 (x2 - (wrap64 (rd x10 x12)))) then (cipher_take.l0 k x1 x2 (Go.bits .or .u64 (IntKind.u64.wrap (x7 * 2)) (Go.bits .and .u64 (shr .u64 x1 (wrap64 (x2 - (wrap64 (rd x10 x12))))) 1)) x10 x11 (wrap64 (x12 + 1))) else (none)) else (none)) else (none)) else (some x7)
def cipher_take.f (k : Nat) (l0 : List Int) (a1 : Int) (a2 : Int) : Option (Int) := cipher_take.l0 k a1 a2 0 l0 (l0.length : Int) 0
theorem cipher_take.mono_l : ∀ k, (∀ y0 y1 y2 y3 y4 y5, LeO (cipher_take.l0 k y0 y1 y2 y3 y4 y5) (cipher_take.l0 (k + 1) y0 y1 y2 y3 y4 y5))
  | 0 => fun _ _ _ _ _ _ r h => by simp [cipher_take.l0] at h
  | k + 1 => by
    have ih0 := cipher_take.mono_l k
    · intro y0 y1 y2 y3 y4 y5
      unfold cipher_take.l0
      repeat' first
      | (with_reducible exact ih0 _ _ _ _ _ _)
      | (with_reducible exact LeO.refl _)
      | (with_reducible exact LeO.none _)
      | (with_reducible refine LeO.ite ?_ ?_)
      | (with_reducible refine LeO.bind ?_ (fun _ => ?_))
      | exact ih0 _ _ _ _ _ _
      | exact LeO.none _
      | refine LeO.ite ?_ ?_
      | refine LeO.bind ?_ (fun _ => ?_)
theorem cipher_take.mono : ∀ a0 a1 a2 k, LeO (cipher_take.f k a0 a1 a2) (cipher_take.f (k + 1) a0 a1 a2) := by
  intro a0 a1 a2 k
  have ih0 := cipher_take.mono_l k
  unfold cipher_take.f
  repeat' first
      | (with_reducible exact ih0 _ _ _ _ _ _)
      | (with_reducible exact LeO.refl _)
      | (with_reducible exact LeO.none _)
      | (with_reducible refine LeO.ite ?_ ?_)
      | (with_reducible refine LeO.bind ?_ (fun _ => ?_))
      | exact ih0 _ _ _ _ _ _
      | exact LeO.none _
      | refine LeO.ite ?_ ?_
      | refine LeO.bind ?_ (fun _ => ?_)
set_option maxHeartbeats 8000000 in
set_option maxRecDepth 100000 in
theorem cipher_take.calls (k : Nat) (A0 : Option Addr) (c0 : Nat) (l0 : List Int) (a1 : Int) (a2 : Int) (r : Int) (w : World) (hr0 : Kd.C (Kd.int .u8) w A0 l0.length l0) (hc0 : l0.length ≤ c0) (h : cipher_take.f k l0 a1 a2 = some r) :
    Calls Tryz.prog 82 #[.slice A0 l0.length c0, .int .u64 a1, .int .i64 a2] w fun e w' => e = .returned (.int .u64 r) ∧ Drawn0 w w' := by
  have HR0 := Aside0.mk hr0
  have HC0 := Aside0.mk hc0
  clear hr0 hc0
  have H : (cipher_take.l0 k a1 a2 0 l0 (l0.length : Int) 0) = some r := h
  clear h
  have H' := Aside0.mk H
  clear H
  go_enter Tryz.func82, Tryz.ntmps82
  go_wp2
  go_loopg [7, 12] k (fun kq v7 v12 w' => ∃ (x7_1 : Int) (x12_1 : Int), v7 = .int .u64 x7_1 ∧ v12 = .int .i64 x12_1 ∧ Aside0 (cipher_take.l0 kq a1 a2 x7_1 l0 (l0.length : Int) x12_1 = some r) ∧ Aside0 (kq ≤ k) ∧ Drawn0 w w')
  case atStart => exact ⟨(0), (0), (by first | rfl | (simp; done) | (simp [*]; done)), (by first | rfl | (simp; done) | (simp [*]; done)), H', ⟨Nat.le_refl _⟩, by repeat (first | exact Drawn0.refl _ | apply Drawn0.step)⟩
  case round =>
    clear H'
    try clear p2
    obtain ⟨x7_1, x12_1, rfl, rfl, HA, HK1, ⟨m1, rfl⟩⟩ := hrel
    cases gk with
    | zero => exact absurd HA.out (by simp [cipher_take.l0])
    | succ k1 =>
      have H := HA.out
      clear HA
      simp only [cipher_take.l0] at H
      by_cases c4 : x12_1 < (l0.length : Int)
      · rw [if_pos c4] at H
        have c4b0 : decide (x12_1 < (l0.length : Int)) = true := decide_eq_true c4
        clear c4
        by_cases c5 : 0 ≤ x12_1
        · rw [if_pos c5] at H
          have c5b0 : decide (0 ≤ x12_1) = true := decide_eq_true c5
          clear c5
          by_cases c6 : x12_1 < (l0.length : Int)
          · rw [if_pos c6] at H
            have c6b0 : decide (x12_1 < (l0.length : Int)) = true := decide_eq_true c6
            clear c6
            obtain ⟨ji7, hji7⟩ : ∃ j_ : Int, (wrap64 (a2 - (wrap64 (rd l0 x12_1)))) = j_ := ⟨_, rfl⟩
            replace H : (if 0 ≤ (ji7) then (cipher_take.l0 k1 a1 a2 (Go.bits .or .u64 (IntKind.u64.wrap (x7_1 * 2)) (Go.bits .and .u64 (shr .u64 a1 (ji7)) 1)) l0 (l0.length : Int) (wrap64 (x12_1 + 1))) else (none)) = some r := by first | (rw [hji7] at H; exact H) | (simp only [hji7] at H ⊢; exact H)
            have hji7w : (IntKind.i64.wrap (a2 - (wrap64 (rd l0 x12_1)))) = ji7 := (i64_w _).trans hji7
            by_cases c8 : 0 ≤ (ji7)
            · rw [if_pos c8] at H
              have c8b0 := eq_true c8
              have c8b1 : decide (0 ≤ (ji7)) = true := decide_eq_true c8
              clear c8
              obtain ⟨ji9, hji9⟩ : ∃ j_ : Int, (shr .u64 a1 (ji7)) = j_ := ⟨_, rfl⟩
              replace H : (cipher_take.l0 k1 a1 a2 (Go.bits .or .u64 (IntKind.u64.wrap (x7_1 * 2)) (Go.bits .and .u64 (ji9) 1)) l0 (l0.length : Int) (wrap64 (x12_1 + 1))) = some r := by first | (rw [hji9] at H; exact H) | (simp only [hji9] at H ⊢; exact H)
              have hji9_ : (a1 / 2 ^ min (ji7).toNat 64) = ji9 := hji9
              have hji9z : (ji7) ≤ 64 → (a1 / 2 ^ (ji7).toNat) = ji9 := shr_small hji9
              have H' := Aside0.mk H
              clear H
              have p101 : 0 ≤ (x12_1 : Int) := of_decide_eq_true (by first | (with_reducible assumption) | assumption)
              have q101 : x12_1 < (l0.length : Int) := of_decide_eq_true (by first | (with_reducible assumption) | assumption)
              obtain ⟨ad101, e101, hx101_0⟩ := Kd.at_int HR0.out x12_1 p101 q101
              cases e101
              replace p101 := eq_true p101
              replace q101 := eq_true q101
              go_wp2
              go_roundg k1
              case measure => have := HK1.out; omega
              case rel => exact ⟨(Go.bits .or .u64 (IntKind.u64.wrap (x7_1 * 2)) (Go.bits .and .u64 (ji9) 1)), (wrap64 (x12_1 + 1)), (by first | rfl | (simp; done) | (simp only [← hji9] <;> (first | rfl | simp)) | (simp [*]; done)), (by first | rfl | (simp; done) | (simp [*]; done)), H', ⟨by have := HK1.out; omega⟩, by repeat (first | exact Drawn0.refl _ | apply Drawn0.step)⟩
            · rw [if_neg c8] at H
              exact absurd H (by simp)
          · rw [if_neg c6] at H
            exact absurd H (by simp)
        · rw [if_neg c5] at H
          exact absurd H (by simp)
      · rw [if_neg c4] at H
        have c4b0 : decide (x12_1 < (l0.length : Int)) = false := decide_eq_false c4
        clear c4
        obtain rfl := Option.some.inj H
        go_wp2
        go_ret
        exact ⟨by first | rfl | (simp; done) | (simp [*]; done), by repeat (first | exact Drawn0.refl _ | apply Drawn0.step)⟩

/-! ### cipher_first: function 85 -/
def cipher_first.f  : Option (List Int) := some (([57, 49, 41, 33, 25, 17, 9, 1, 58, 50, 42, 34, 26, 18, 10, 2, 59, 51, 43, 35, 27, 19, 11, 3, 60, 52, 44, 36, 63, 55, 47, 39, 31, 23, 15, 7, 62, 54, 46, 38, 30, 22, 14, 6, 61, 53, 45, 37, 29, 21, 13, 5, 28, 20, 12, 4] : List Int))
set_option maxHeartbeats 8000000 in
set_option maxRecDepth 100000 in
theorem cipher_first.calls  (r : List Int) (w : World) (h : cipher_first.f  = some r) :
    Calls Tryz.prog 83 #[] w fun e w' => ∃ v0_ : Value, e = .returned (v0_) ∧ Kd.R (Kd.int .u8) 5 w' w.heap.size (fun _ => True) v0_ r ∧ Below w.heap.size w w' := by
  have HB := Aside0.mk (Below.refl w.heap.size w)
  have H : (some (([57, 49, 41, 33, 25, 17, 9, 1, 58, 50, 42, 34, 26, 18, 10, 2, 59, 51, 43, 35, 27, 19, 11, 3, 60, 52, 44, 36, 63, 55, 47, 39, 31, 23, 15, 7, 62, 54, 46, 38, 30, 22, 14, 6, 61, 53, 45, 37, 29, 21, 13, 5, 28, 20, 12, 4] : List Int))) = some r := h
  clear h
  obtain ⟨y102, hy102⟩ : ∃ y_ : List Int, y_ = (([57, 49, 41, 33, 25, 17, 9, 1, 58, 50, 42, 34, 26, 18, 10, 2, 59, 51, 43, 35, 27, 19, 11, 3, 60, 52, 44, 36, 63, 55, 47, 39, 31, 23, 15, 7, 62, 54, 46, 38, 30, 22, 14, 6, 61, 53, 45, 37, 29, 21, 13, 5, 28, 20, 12, 4] : List Int)) := ⟨_, rfl⟩
  replace H : (some y102) = some r := by first | (rw [hy102]; with_reducible exact H) | (have H2_ := (Option.bind_some _ _).symm.trans H; rw [hy102]; with_reducible exact H2_) | (have H2_ := (Option.bind_some _ _).symm.trans H; with_reducible exact H2_) | with_reducible exact H | (rw [hy102]; exact H) | exact H
  have Ny102 := Aside0.mk hy102
  clear hy102
  obtain rfl := Option.some.inj H
  go_enter Tryz.func83, Tryz.ntmps83
  go_wp2_with (first | ((with_reducible refine gate_dst (N := 1) rfl ?_); refine Kd.R_lit (Kd.int .u8) _ 5 ?hg (N := 1) ?hd (xs := ([57, 49, 41, 33, 25, 17, 9, 1, 58, 50, 42, 34, 26, 18, 10, 2, 59, 51, 43, 35, 27, 19, 11, 3, 60, 52, 44, 36, 63, 55, 47, 39, 31, 23, 15, 7, 62, 54, 46, 38, 30, 22, 14, 6, 61, 53, 45, 37, 29, 21, 13, 5, 28, 20, 12, 4] : List Int)) (inner := [.int .u8 57, .int .u8 49, .int .u8 41, .int .u8 33, .int .u8 25, .int .u8 17, .int .u8 9, .int .u8 1, .int .u8 58, .int .u8 50, .int .u8 42, .int .u8 34, .int .u8 26, .int .u8 18, .int .u8 10, .int .u8 2, .int .u8 59, .int .u8 51, .int .u8 43, .int .u8 35, .int .u8 27, .int .u8 19, .int .u8 11, .int .u8 3, .int .u8 60, .int .u8 52, .int .u8 44, .int .u8 36, .int .u8 63, .int .u8 55, .int .u8 47, .int .u8 39, .int .u8 31, .int .u8 23, .int .u8 15, .int .u8 7, .int .u8 62, .int .u8 54, .int .u8 46, .int .u8 38, .int .u8 30, .int .u8 22, .int .u8 14, .int .u8 6, .int .u8 61, .int .u8 53, .int .u8 45, .int .u8 37, .int .u8 29, .int .u8 21, .int .u8 13, .int .u8 5, .int .u8 28, .int .u8 20, .int .u8 12, .int .u8 4]) (ok := fun _ => True) (okp := fun _ => True) ?hr ?hp (fun _ hk => hk) trivial (Below.refl _ _) (Nat.le_refl _) (by simp) ?_; (case hd => rfl); (case hg => rfl); (case hr => first | (go_simp; done) | (go_simp; rfl)); (case hp => exact (Reps.one (show Kd.M (Kd.int .u8) _ _ _ 57 [.int .u8 57] from rfl) (Reps.one (show Kd.M (Kd.int .u8) _ _ _ 49 [.int .u8 49] from rfl) (Reps.one (show Kd.M (Kd.int .u8) _ _ _ 41 [.int .u8 41] from rfl) (Reps.one (show Kd.M (Kd.int .u8) _ _ _ 33 [.int .u8 33] from rfl) (Reps.one (show Kd.M (Kd.int .u8) _ _ _ 25 [.int .u8 25] from rfl) (Reps.one (show Kd.M (Kd.int .u8) _ _ _ 17 [.int .u8 17] from rfl) (Reps.one (show Kd.M (Kd.int .u8) _ _ _ 9 [.int .u8 9] from rfl) (Reps.one (show Kd.M (Kd.int .u8) _ _ _ 1 [.int .u8 1] from rfl) (Reps.one (show Kd.M (Kd.int .u8) _ _ _ 58 [.int .u8 58] from rfl) (Reps.one (show Kd.M (Kd.int .u8) _ _ _ 50 [.int .u8 50] from rfl) (Reps.one (show Kd.M (Kd.int .u8) _ _ _ 42 [.int .u8 42] from rfl) (Reps.one (show Kd.M (Kd.int .u8) _ _ _ 34 [.int .u8 34] from rfl) (Reps.one (show Kd.M (Kd.int .u8) _ _ _ 26 [.int .u8 26] from rfl) (Reps.one (show Kd.M (Kd.int .u8) _ _ _ 18 [.int .u8 18] from rfl) (Reps.one (show Kd.M (Kd.int .u8) _ _ _ 10 [.int .u8 10] from rfl) (Reps.one (show Kd.M (Kd.int .u8) _ _ _ 2 [.int .u8 2] from rfl) (Reps.one (show Kd.M (Kd.int .u8) _ _ _ 59 [.int .u8 59] from rfl) (Reps.one (show Kd.M (Kd.int .u8) _ _ _ 51 [.int .u8 51] from rfl) (Reps.one (show Kd.M (Kd.int .u8) _ _ _ 43 [.int .u8 43] from rfl) (Reps.one (show Kd.M (Kd.int .u8) _ _ _ 35 [.int .u8 35] from rfl) (Reps.one (show Kd.M (Kd.int .u8) _ _ _ 27 [.int .u8 27] from rfl) (Reps.one (show Kd.M (Kd.int .u8) _ _ _ 19 [.int .u8 19] from rfl) (Reps.one (show Kd.M (Kd.int .u8) _ _ _ 11 [.int .u8 11] from rfl) (Reps.one (show Kd.M (Kd.int .u8) _ _ _ 3 [.int .u8 3] from rfl) (Reps.one (show Kd.M (Kd.int .u8) _ _ _ 60 [.int .u8 60] from rfl) (Reps.one (show Kd.M (Kd.int .u8) _ _ _ 52 [.int .u8 52] from rfl) (Reps.one (show Kd.M (Kd.int .u8) _ _ _ 44 [.int .u8 44] from rfl) (Reps.one (show Kd.M (Kd.int .u8) _ _ _ 36 [.int .u8 36] from rfl) (Reps.one (show Kd.M (Kd.int .u8) _ _ _ 63 [.int .u8 63] from rfl) (Reps.one (show Kd.M (Kd.int .u8) _ _ _ 55 [.int .u8 55] from rfl) (Reps.one (show Kd.M (Kd.int .u8) _ _ _ 47 [.int .u8 47] from rfl) (Reps.one (show Kd.M (Kd.int .u8) _ _ _ 39 [.int .u8 39] from rfl) (Reps.one (show Kd.M (Kd.int .u8) _ _ _ 31 [.int .u8 31] from rfl) (Reps.one (show Kd.M (Kd.int .u8) _ _ _ 23 [.int .u8 23] from rfl) (Reps.one (show Kd.M (Kd.int .u8) _ _ _ 15 [.int .u8 15] from rfl) (Reps.one (show Kd.M (Kd.int .u8) _ _ _ 7 [.int .u8 7] from rfl) (Reps.one (show Kd.M (Kd.int .u8) _ _ _ 62 [.int .u8 62] from rfl) (Reps.one (show Kd.M (Kd.int .u8) _ _ _ 54 [.int .u8 54] from rfl) (Reps.one (show Kd.M (Kd.int .u8) _ _ _ 46 [.int .u8 46] from rfl) (Reps.one (show Kd.M (Kd.int .u8) _ _ _ 38 [.int .u8 38] from rfl) (Reps.one (show Kd.M (Kd.int .u8) _ _ _ 30 [.int .u8 30] from rfl) (Reps.one (show Kd.M (Kd.int .u8) _ _ _ 22 [.int .u8 22] from rfl) (Reps.one (show Kd.M (Kd.int .u8) _ _ _ 14 [.int .u8 14] from rfl) (Reps.one (show Kd.M (Kd.int .u8) _ _ _ 6 [.int .u8 6] from rfl) (Reps.one (show Kd.M (Kd.int .u8) _ _ _ 61 [.int .u8 61] from rfl) (Reps.one (show Kd.M (Kd.int .u8) _ _ _ 53 [.int .u8 53] from rfl) (Reps.one (show Kd.M (Kd.int .u8) _ _ _ 45 [.int .u8 45] from rfl) (Reps.one (show Kd.M (Kd.int .u8) _ _ _ 37 [.int .u8 37] from rfl) (Reps.one (show Kd.M (Kd.int .u8) _ _ _ 29 [.int .u8 29] from rfl) (Reps.one (show Kd.M (Kd.int .u8) _ _ _ 21 [.int .u8 21] from rfl) (Reps.one (show Kd.M (Kd.int .u8) _ _ _ 13 [.int .u8 13] from rfl) (Reps.one (show Kd.M (Kd.int .u8) _ _ _ 5 [.int .u8 5] from rfl) (Reps.one (show Kd.M (Kd.int .u8) _ _ _ 28 [.int .u8 28] from rfl) (Reps.one (show Kd.M (Kd.int .u8) _ _ _ 20 [.int .u8 20] from rfl) (Reps.one (show Kd.M (Kd.int .u8) _ _ _ 12 [.int .u8 12] from rfl) (Reps.one (show Kd.M (Kd.int .u8) _ _ _ 4 [.int .u8 4] from rfl) (Reps.none _ _)))))))))))))))))))))))))))))))))))))))))))))))))))))))))); intro v103 w1 ho2 hb hg_ hnew_; clear hg_ hnew_; (first | rw [← Ny102.out] at ho2 | (simp only [Int.reduceToNat] at ho2; rw [← Ny102.out] at ho2)); have n0_ := Aside0.mk (Kd.R_lower ho2 (below_size (by repeat (first | (with_reducible first | exact HB.out | apply below_alloc | apply pw_below_drewN | apply below_drew1) | exact HB.out)))); have n1_ := Aside0.mk (below_step (by repeat (first | (with_reducible first | exact HB.out | apply below_alloc | apply pw_below_drewN | apply below_drew1) | exact HB.out)) hb); clear HB; have HO104 := n0_; have HB := n1_; clear n0_ n1_; clear hb ho2))
  go_ret
  exact ⟨_, by first | rfl | (simp [errW_none, errW_some] <;> rfl) | (simp [*, errW_none, errW_some] <;> rfl), by (with_reducible repeat (first | apply Kd.R_alloc | apply Kd.R_drewN | apply Kd.R_drew)); exact HO104.out, by repeat (first | (with_reducible first | exact HB.out | apply below_alloc | apply pw_below_drewN | apply below_drew1) | exact HB.out)⟩

/-! ### cipher_half: function 86 -/
def cipher_half.f (a0 : Int) (a1 : Int) : Option (Int) := if 0 ≤ a1 then (if 0 ≤ (wrap64 (28 - a1)) then (some (Go.bits .and .u64 (Go.bits .or .u64 (shl .u64 a0 a1) (shr .u64 a0 (wrap64 (28 - a1)))) 268435455)) else (none)) else (none)
set_option maxHeartbeats 8000000 in
set_option maxRecDepth 100000 in
theorem cipher_half.calls (a0 : Int) (a1 : Int) (r : Int) (w : World) (h : cipher_half.f a0 a1 = some r) :
    Calls Tryz.prog 84 #[.int .u64 a0, .int .i64 a1] w fun e w' => e = .returned (.int .u64 r) ∧ Drawn0 w w' := by
  have H : (if 0 ≤ a1 then (if 0 ≤ (wrap64 (28 - a1)) then (some (Go.bits .and .u64 (Go.bits .or .u64 (shl .u64 a0 a1) (shr .u64 a0 (wrap64 (28 - a1)))) 268435455)) else (none)) else (none)) = some r := h
  clear h
  by_cases c3 : 0 ≤ a1
  · rw [if_pos c3] at H
    have c3b0 := eq_true c3
    have c3b1 : decide (0 ≤ a1) = true := decide_eq_true c3
    clear c3
    obtain ⟨ji4, hji4⟩ : ∃ j_ : Int, (shl .u64 a0 a1) = j_ := ⟨_, rfl⟩
    replace H : (if 0 ≤ (wrap64 (28 - a1)) then (some (Go.bits .and .u64 (Go.bits .or .u64 (ji4) (shr .u64 a0 (wrap64 (28 - a1)))) 268435455)) else (none)) = some r := by first | (rw [hji4] at H; exact H) | (simp only [hji4] at H ⊢; exact H)
    have hji4_ : (IntKind.u64.wrap (a0 * 2 ^ min a1.toNat 64)) = ji4 := hji4
    have hji4z : a1 ≤ 64 → (IntKind.u64.wrap (a0 * 2 ^ a1.toNat)) = ji4 := shl_small hji4
    obtain ⟨ji5, hji5⟩ : ∃ j_ : Int, (wrap64 (28 - a1)) = j_ := ⟨_, rfl⟩
    replace H : (if 0 ≤ (ji5) then (some (Go.bits .and .u64 (Go.bits .or .u64 (ji4) (shr .u64 a0 (ji5))) 268435455)) else (none)) = some r := by first | (rw [hji5] at H; exact H) | (simp only [hji5] at H ⊢; exact H)
    have hji5w : (IntKind.i64.wrap (28 - a1)) = ji5 := (i64_w _).trans hji5
    by_cases c6 : 0 ≤ (ji5)
    · rw [if_pos c6] at H
      have c6b0 := eq_true c6
      have c6b1 : decide (0 ≤ (ji5)) = true := decide_eq_true c6
      clear c6
      obtain ⟨ji7, hji7⟩ : ∃ j_ : Int, (shr .u64 a0 (ji5)) = j_ := ⟨_, rfl⟩
      replace H : (some (Go.bits .and .u64 (Go.bits .or .u64 (ji4) (ji7)) 268435455)) = some r := by first | (rw [hji7] at H; exact H) | (simp only [hji7] at H ⊢; exact H)
      have hji7_ : (a0 / 2 ^ min (ji5).toNat 64) = ji7 := hji7
      have hji7z : (ji5) ≤ 64 → (a0 / 2 ^ (ji5).toNat) = ji7 := shr_small hji7
      obtain rfl := Option.some.inj H
      go_enter Tryz.func84, Tryz.ntmps84
      go_wp2
      repeat (go_quiet (fail); try go_wp2)
      go_ret
      exact ⟨by first | rfl | (simp; done) | (simp only [← hji4, ← hji5, ← hji7] <;> (first | rfl | simp)) | (simp [*]; done), by repeat (first | exact Drawn0.refl _ | apply Drawn0.step)⟩
    · rw [if_neg c6] at H
      exact absurd H (by simp)
  · rw [if_neg c3] at H
    exact absurd H (by simp)

/-! ### cipher_second: function 87 -/
def cipher_second.f  : Option (List Int) := some (([14, 17, 11, 24, 1, 5, 3, 28, 15, 6, 21, 10, 23, 19, 12, 4, 26, 8, 16, 7, 27, 20, 13, 2, 41, 52, 31, 37, 47, 55, 30, 40, 51, 45, 33, 48, 44, 49, 39, 56, 34, 53, 46, 42, 50, 36, 29, 32] : List Int))
set_option maxHeartbeats 8000000 in
set_option maxRecDepth 100000 in
theorem cipher_second.calls  (r : List Int) (w : World) (h : cipher_second.f  = some r) :
    Calls Tryz.prog 85 #[] w fun e w' => ∃ v0_ : Value, e = .returned (v0_) ∧ Kd.R (Kd.int .u8) 5 w' w.heap.size (fun _ => True) v0_ r ∧ Below w.heap.size w w' := by
  have HB := Aside0.mk (Below.refl w.heap.size w)
  have H : (some (([14, 17, 11, 24, 1, 5, 3, 28, 15, 6, 21, 10, 23, 19, 12, 4, 26, 8, 16, 7, 27, 20, 13, 2, 41, 52, 31, 37, 47, 55, 30, 40, 51, 45, 33, 48, 44, 49, 39, 56, 34, 53, 46, 42, 50, 36, 29, 32] : List Int))) = some r := h
  clear h
  obtain ⟨y105, hy105⟩ : ∃ y_ : List Int, y_ = (([14, 17, 11, 24, 1, 5, 3, 28, 15, 6, 21, 10, 23, 19, 12, 4, 26, 8, 16, 7, 27, 20, 13, 2, 41, 52, 31, 37, 47, 55, 30, 40, 51, 45, 33, 48, 44, 49, 39, 56, 34, 53, 46, 42, 50, 36, 29, 32] : List Int)) := ⟨_, rfl⟩
  replace H : (some y105) = some r := by first | (rw [hy105]; with_reducible exact H) | (have H2_ := (Option.bind_some _ _).symm.trans H; rw [hy105]; with_reducible exact H2_) | (have H2_ := (Option.bind_some _ _).symm.trans H; with_reducible exact H2_) | with_reducible exact H | (rw [hy105]; exact H) | exact H
  have Ny105 := Aside0.mk hy105
  clear hy105
  obtain rfl := Option.some.inj H
  go_enter Tryz.func85, Tryz.ntmps85
  go_wp2_with (first | ((with_reducible refine gate_dst (N := 1) rfl ?_); refine Kd.R_lit (Kd.int .u8) _ 5 ?hg (N := 1) ?hd (xs := ([14, 17, 11, 24, 1, 5, 3, 28, 15, 6, 21, 10, 23, 19, 12, 4, 26, 8, 16, 7, 27, 20, 13, 2, 41, 52, 31, 37, 47, 55, 30, 40, 51, 45, 33, 48, 44, 49, 39, 56, 34, 53, 46, 42, 50, 36, 29, 32] : List Int)) (inner := [.int .u8 14, .int .u8 17, .int .u8 11, .int .u8 24, .int .u8 1, .int .u8 5, .int .u8 3, .int .u8 28, .int .u8 15, .int .u8 6, .int .u8 21, .int .u8 10, .int .u8 23, .int .u8 19, .int .u8 12, .int .u8 4, .int .u8 26, .int .u8 8, .int .u8 16, .int .u8 7, .int .u8 27, .int .u8 20, .int .u8 13, .int .u8 2, .int .u8 41, .int .u8 52, .int .u8 31, .int .u8 37, .int .u8 47, .int .u8 55, .int .u8 30, .int .u8 40, .int .u8 51, .int .u8 45, .int .u8 33, .int .u8 48, .int .u8 44, .int .u8 49, .int .u8 39, .int .u8 56, .int .u8 34, .int .u8 53, .int .u8 46, .int .u8 42, .int .u8 50, .int .u8 36, .int .u8 29, .int .u8 32]) (ok := fun _ => True) (okp := fun _ => True) ?hr ?hp (fun _ hk => hk) trivial (Below.refl _ _) (Nat.le_refl _) (by simp) ?_; (case hd => rfl); (case hg => rfl); (case hr => first | (go_simp; done) | (go_simp; rfl)); (case hp => exact (Reps.one (show Kd.M (Kd.int .u8) _ _ _ 14 [.int .u8 14] from rfl) (Reps.one (show Kd.M (Kd.int .u8) _ _ _ 17 [.int .u8 17] from rfl) (Reps.one (show Kd.M (Kd.int .u8) _ _ _ 11 [.int .u8 11] from rfl) (Reps.one (show Kd.M (Kd.int .u8) _ _ _ 24 [.int .u8 24] from rfl) (Reps.one (show Kd.M (Kd.int .u8) _ _ _ 1 [.int .u8 1] from rfl) (Reps.one (show Kd.M (Kd.int .u8) _ _ _ 5 [.int .u8 5] from rfl) (Reps.one (show Kd.M (Kd.int .u8) _ _ _ 3 [.int .u8 3] from rfl) (Reps.one (show Kd.M (Kd.int .u8) _ _ _ 28 [.int .u8 28] from rfl) (Reps.one (show Kd.M (Kd.int .u8) _ _ _ 15 [.int .u8 15] from rfl) (Reps.one (show Kd.M (Kd.int .u8) _ _ _ 6 [.int .u8 6] from rfl) (Reps.one (show Kd.M (Kd.int .u8) _ _ _ 21 [.int .u8 21] from rfl) (Reps.one (show Kd.M (Kd.int .u8) _ _ _ 10 [.int .u8 10] from rfl) (Reps.one (show Kd.M (Kd.int .u8) _ _ _ 23 [.int .u8 23] from rfl) (Reps.one (show Kd.M (Kd.int .u8) _ _ _ 19 [.int .u8 19] from rfl) (Reps.one (show Kd.M (Kd.int .u8) _ _ _ 12 [.int .u8 12] from rfl) (Reps.one (show Kd.M (Kd.int .u8) _ _ _ 4 [.int .u8 4] from rfl) (Reps.one (show Kd.M (Kd.int .u8) _ _ _ 26 [.int .u8 26] from rfl) (Reps.one (show Kd.M (Kd.int .u8) _ _ _ 8 [.int .u8 8] from rfl) (Reps.one (show Kd.M (Kd.int .u8) _ _ _ 16 [.int .u8 16] from rfl) (Reps.one (show Kd.M (Kd.int .u8) _ _ _ 7 [.int .u8 7] from rfl) (Reps.one (show Kd.M (Kd.int .u8) _ _ _ 27 [.int .u8 27] from rfl) (Reps.one (show Kd.M (Kd.int .u8) _ _ _ 20 [.int .u8 20] from rfl) (Reps.one (show Kd.M (Kd.int .u8) _ _ _ 13 [.int .u8 13] from rfl) (Reps.one (show Kd.M (Kd.int .u8) _ _ _ 2 [.int .u8 2] from rfl) (Reps.one (show Kd.M (Kd.int .u8) _ _ _ 41 [.int .u8 41] from rfl) (Reps.one (show Kd.M (Kd.int .u8) _ _ _ 52 [.int .u8 52] from rfl) (Reps.one (show Kd.M (Kd.int .u8) _ _ _ 31 [.int .u8 31] from rfl) (Reps.one (show Kd.M (Kd.int .u8) _ _ _ 37 [.int .u8 37] from rfl) (Reps.one (show Kd.M (Kd.int .u8) _ _ _ 47 [.int .u8 47] from rfl) (Reps.one (show Kd.M (Kd.int .u8) _ _ _ 55 [.int .u8 55] from rfl) (Reps.one (show Kd.M (Kd.int .u8) _ _ _ 30 [.int .u8 30] from rfl) (Reps.one (show Kd.M (Kd.int .u8) _ _ _ 40 [.int .u8 40] from rfl) (Reps.one (show Kd.M (Kd.int .u8) _ _ _ 51 [.int .u8 51] from rfl) (Reps.one (show Kd.M (Kd.int .u8) _ _ _ 45 [.int .u8 45] from rfl) (Reps.one (show Kd.M (Kd.int .u8) _ _ _ 33 [.int .u8 33] from rfl) (Reps.one (show Kd.M (Kd.int .u8) _ _ _ 48 [.int .u8 48] from rfl) (Reps.one (show Kd.M (Kd.int .u8) _ _ _ 44 [.int .u8 44] from rfl) (Reps.one (show Kd.M (Kd.int .u8) _ _ _ 49 [.int .u8 49] from rfl) (Reps.one (show Kd.M (Kd.int .u8) _ _ _ 39 [.int .u8 39] from rfl) (Reps.one (show Kd.M (Kd.int .u8) _ _ _ 56 [.int .u8 56] from rfl) (Reps.one (show Kd.M (Kd.int .u8) _ _ _ 34 [.int .u8 34] from rfl) (Reps.one (show Kd.M (Kd.int .u8) _ _ _ 53 [.int .u8 53] from rfl) (Reps.one (show Kd.M (Kd.int .u8) _ _ _ 46 [.int .u8 46] from rfl) (Reps.one (show Kd.M (Kd.int .u8) _ _ _ 42 [.int .u8 42] from rfl) (Reps.one (show Kd.M (Kd.int .u8) _ _ _ 50 [.int .u8 50] from rfl) (Reps.one (show Kd.M (Kd.int .u8) _ _ _ 36 [.int .u8 36] from rfl) (Reps.one (show Kd.M (Kd.int .u8) _ _ _ 29 [.int .u8 29] from rfl) (Reps.one (show Kd.M (Kd.int .u8) _ _ _ 32 [.int .u8 32] from rfl) (Reps.none _ _)))))))))))))))))))))))))))))))))))))))))))))))))); intro v106 w1 ho2 hb hg_ hnew_; clear hg_ hnew_; (first | rw [← Ny105.out] at ho2 | (simp only [Int.reduceToNat] at ho2; rw [← Ny105.out] at ho2)); have n0_ := Aside0.mk (Kd.R_lower ho2 (below_size (by repeat (first | (with_reducible first | exact HB.out | apply below_alloc | apply pw_below_drewN | apply below_drew1) | exact HB.out)))); have n1_ := Aside0.mk (below_step (by repeat (first | (with_reducible first | exact HB.out | apply below_alloc | apply pw_below_drewN | apply below_drew1) | exact HB.out)) hb); clear HB; have HO107 := n0_; have HB := n1_; clear n0_ n1_; clear hb ho2))
  go_ret
  exact ⟨_, by first | rfl | (simp [errW_none, errW_some] <;> rfl) | (simp [*, errW_none, errW_some] <;> rfl), by (with_reducible repeat (first | apply Kd.R_alloc | apply Kd.R_drewN | apply Kd.R_drew)); exact HO107.out, by repeat (first | (with_reducible first | exact HB.out | apply below_alloc | apply pw_below_drewN | apply below_drew1) | exact HB.out)⟩

/-! ### cipher_bytes: function 67 -/
def cipher_bytes.l0 : Nat → List Int → Int → Int → Option (List Int)
  | 0, _, _, _ => none
  | k + 1, x0, x1, x5 => if x5 ≥ 0 then (if 0 ≤ x5 then (if x0.length < 140737488355328 then (cipher_bytes.l0 k (x0 ++ [(shr .u64 x1 x5) % 256]) x1 (wrap64 (x5 - 8))) else (none)) else (none)) else (some x0)
def cipher_bytes.f (k : Nat) (l0 : List Int) (a1 : Int) : Option (List Int) := cipher_bytes.l0 k l0 a1 56
theorem cipher_bytes.mono_l : ∀ k, (∀ y0 y1 y2, LeO (cipher_bytes.l0 k y0 y1 y2) (cipher_bytes.l0 (k + 1) y0 y1 y2))
  | 0 => fun _ _ _ r h => by simp [cipher_bytes.l0] at h
  | k + 1 => by
    have ih0 := cipher_bytes.mono_l k
    · intro y0 y1 y2
      unfold cipher_bytes.l0
      repeat' first
      | (with_reducible exact ih0 _ _ _)
      | (with_reducible exact LeO.refl _)
      | (with_reducible exact LeO.none _)
      | (with_reducible refine LeO.ite ?_ ?_)
      | (with_reducible refine LeO.bind ?_ (fun _ => ?_))
      | exact ih0 _ _ _
      | exact LeO.none _
      | refine LeO.ite ?_ ?_
      | refine LeO.bind ?_ (fun _ => ?_)
theorem cipher_bytes.mono : ∀ a0 a1 k, LeO (cipher_bytes.f k a0 a1) (cipher_bytes.f (k + 1) a0 a1) := by
  intro a0 a1 k
  have ih0 := cipher_bytes.mono_l k
  unfold cipher_bytes.f
  repeat' first
      | (with_reducible exact ih0 _ _ _)
      | (with_reducible exact LeO.refl _)
      | (with_reducible exact LeO.none _)
      | (with_reducible refine LeO.ite ?_ ?_)
      | (with_reducible refine LeO.bind ?_ (fun _ => ?_))
      | exact ih0 _ _ _
      | exact LeO.none _
      | refine LeO.ite ?_ ?_
      | refine LeO.bind ?_ (fun _ => ?_)
set_option maxHeartbeats 8000000 in
set_option maxRecDepth 100000 in
theorem cipher_bytes.calls (k : Nat) (P0_ : Nat → Prop) (u9000_ : Value) (l0 : List Int) (a1 : Int) (r : List Int) (w0 w : World) (hB : Below w0.heap.size w0 w) (ho0 : Kd.R (Kd.int .u8) 5 w w0.heap.size P0_ u9000_ l0) (h : cipher_bytes.f k l0 a1 = some r) :
    Calls Tryz.prog 74 #[u9000_, .int .u64 a1] w fun e w' => ∃ v0_ : Value, e = .returned (v0_) ∧ Kd.R (Kd.int .u8) 5 w' w0.heap.size (fun k_ => (P0_ k_ ∨ w.heap.size ≤ k_)) v0_ r ∧ Below w0.heap.size w0 w' ∧ Kept w w' (fun k_ => P0_ k_) := by
  have HO0 := Aside0.mk (show Kd.R (Kd.int .u8) 5 w w0.heap.size (fun k_ => (P0_ k_ ∨ w.heap.size ≤ k_)) u9000_ l0 from Kd.R_mono ho0 (fun k_ hk => (.inl hk)))
  have HK := Aside0.mk (Kept.refl w (fun k_ => P0_ k_))
  have HW0 := Aside0.mk hB.size
  have HB := Aside0.mk hB
  clear hB
  have H : (cipher_bytes.l0 k l0 a1 56) = some r := h
  clear h
  have H' := Aside0.mk H
  clear H
  go_enter Tryz.func74, Tryz.ntmps74
  go_wp2
  go_loopg [0, 5] k (fun kq v0 v5 w' => ∃ (x0_1 : List Int) (x5_1 : Int), v5 = .int .i64 x5_1 ∧ Aside0 (cipher_bytes.l0 kq x0_1 a1 x5_1 = some r) ∧ Aside0 (kq ≤ k) ∧ Aside0 (Kd.R (Kd.int .u8) 5 w' w0.heap.size (fun k_ => (P0_ k_ ∨ w.heap.size ≤ k_)) v0 x0_1) ∧ Aside0 (Kept w w' (fun k_ => P0_ k_)) ∧ Aside0 (Below w0.heap.size w0 w'))
  case atStart => exact ⟨(l0), (56), (by first | rfl | (simp; done) | (simp [*]; done)), H', ⟨Nat.le_refl _⟩, ⟨by (with_reducible repeat (first | apply Kd.R_alloc | apply Kd.R_drewN | apply Kd.R_drew)); exact HO0.out⟩, ⟨by repeat (first | (with_reducible first | exact HK.out | apply Kept.alloc | apply Kept.drewN | apply Kept.drew) | exact HK.out)⟩, ⟨by repeat (first | (with_reducible first | exact HB.out | apply below_alloc | apply pw_below_drewN | apply below_drew1) | exact HB.out)⟩⟩
  case round =>
    clear H'
    try clear p2
    obtain ⟨x0_1, x5_1, rfl, HA, HK1, HO_0, HK, HB⟩ := hrel
    cases gk with
    | zero => exact absurd HA.out (by simp [cipher_bytes.l0])
    | succ k1 =>
      have H := HA.out
      clear HA
      simp only [cipher_bytes.l0] at H
      by_cases c3 : x5_1 ≥ 0
      · rw [if_pos c3] at H
        have c3b0 : decide (0 ≤ x5_1) = true := decide_eq_true c3
        clear c3
        by_cases c4 : 0 ≤ x5_1
        · rw [if_pos c4] at H
          have c4b0 := eq_true c4
          have c4b1 : decide (0 ≤ x5_1) = true := decide_eq_true c4
          clear c4
          obtain ⟨ji5, hji5⟩ : ∃ j_ : Int, (shr .u64 a1 x5_1) = j_ := ⟨_, rfl⟩
          replace H : (if x0_1.length < 140737488355328 then (cipher_bytes.l0 k1 (x0_1 ++ [(ji5) % 256]) a1 (wrap64 (x5_1 - 8))) else (none)) = some r := by first | (rw [hji5] at H; exact H) | (simp only [hji5] at H ⊢; exact H)
          have hji5_ : (a1 / 2 ^ min x5_1.toNat 64) = ji5 := hji5
          have hji5z : x5_1 ≤ 64 → (a1 / 2 ^ x5_1.toNat) = ji5 := shr_small hji5
          by_cases c6 : x0_1.length < 140737488355328
          · rw [if_pos c6] at H
            have LMc6 := Aside0.mk c6
            clear c6
            obtain ⟨y108, hy108⟩ : ∃ y_ : List Int, y_ = (x0_1 ++ [(ji5) % 256]) := ⟨_, rfl⟩
            replace H : (cipher_bytes.l0 k1 y108 a1 (wrap64 (x5_1 - 8))) = some r := by first | (rw [hy108]; with_reducible exact H) | (have H2_ := (Option.bind_some _ _).symm.trans H; rw [hy108]; with_reducible exact H2_) | (have H2_ := (Option.bind_some _ _).symm.trans H; with_reducible exact H2_) | with_reducible exact H | (rw [hy108]; exact H) | exact H
            have Ny108 := Aside0.mk hy108
            clear hy108
            have H' := Aside0.mk H
            clear H
            go_wp2_with (first | ((with_reducible refine gate_builtin (b := .append) (xs := #[.tmp 10, .tmp 15]) rfl ?_); at_builtin; refine Kd.R_append (Kd.int .u8) (w0 := w0) w0.heap.size rfl (.tmp 10) (.tmp 15) 68 5 (.int .u8 0) 1 rfl Tryz.underlying68 info5 rfl (by decide) (by omega) u0 x0_1 ((ji5) % 256) [.int .u8 ((ji5) % 256)] (fun k_ => (P0_ k_ ∨ w.heap.size ≤ k_)) (fun _ => False) rfl rfl ?aP (fun _ hk => hk.elim) ?aF ?aO ?aB ?aS ?aL ?_; (case aP => exact rfl); (case aB => exact (by repeat (first | (with_reducible first | exact HB.out | apply below_alloc | apply pw_below_drewN | apply below_drew1) | exact HB.out))); (case aF => exact (fun k_ hk => (.inr (Nat.le_trans (by first | exact HK.out.1 | exact (show Kept w _ (fun k_ => P0_ k_) from by repeat (first | (with_reducible first | exact HK.out | apply Kept.alloc | apply Kept.drewN | apply Kept.drew) | exact HK.out)).1) hk)))); (case aO => exact (by (with_reducible repeat (first | apply Kd.R_alloc | apply Kd.R_drewN | apply Kd.R_drew)); exact HO_0.out)); (case aS => exact (below_size (by repeat (first | (with_reducible first | exact HB.out | apply below_alloc | apply pw_below_drewN | apply below_drew1) | exact HB.out)))); (case aL => have := LMc6.out; omega); intro v109 w7 ho hb hg hat; rw [← Ny108.out] at ho; have n0_ := Aside0.mk (hb); have n1_ := Aside0.mk (Kept.of_grown (S := (fun k_ => P0_ k_)) hg (by repeat (first | (with_reducible first | exact HK.out | apply Kept.alloc | apply Kept.drewN | apply Kept.drew) | exact HK.out)) (fun k_ e_ => (HO_0.out.1 k_ e_))); have n2_ := Aside0.mk (ho); clear HB; clear HK; clear HO_0; have HB := n0_; have HK := n1_; have HO110 := n2_; clear n0_ n1_ n2_; clear ho hb hg hat))
            go_roundg k1
            case measure => have := HK1.out; omega
            case rel => exact ⟨(y108), (wrap64 (x5_1 - 8)), (by first | rfl | (simp; done) | (simp [*]; done)), H', ⟨by have := HK1.out; omega⟩, ⟨by (with_reducible repeat (first | apply Kd.R_alloc | apply Kd.R_drewN | apply Kd.R_drew)); exact HO110.out⟩, ⟨by repeat (first | (with_reducible first | exact HK.out | apply Kept.alloc | apply Kept.drewN | apply Kept.drew) | exact HK.out)⟩, ⟨by repeat (first | (with_reducible first | exact HB.out | apply below_alloc | apply pw_below_drewN | apply below_drew1) | exact HB.out)⟩⟩
          · rw [if_neg c6] at H
            exact absurd H (by simp)
        · rw [if_neg c4] at H
          exact absurd H (by simp)
      · rw [if_neg c3] at H
        have c3b0 : decide (0 ≤ x5_1) = false := decide_eq_false c3
        clear c3
        obtain rfl := Option.some.inj H
        go_wp2
        go_ret
        exact ⟨_, by first | rfl | (simp [errW_none, errW_some] <;> rfl) | (simp [*, errW_none, errW_some] <;> rfl), by (with_reducible repeat (first | apply Kd.R_alloc | apply Kd.R_drewN | apply Kd.R_drew)); exact HO_0.out, by repeat (first | (with_reducible first | exact HB.out | apply below_alloc | apply pw_below_drewN | apply below_drew1) | exact HB.out), by repeat (first | (with_reducible first | exact HK.out | apply Kept.alloc | apply Kept.drewN | apply Kept.drew) | exact HK.out)⟩

/-! ### cipher_enter: function 105 -/
def cipher_enter.f  : Option (List Int) := some (([58, 50, 42, 34, 26, 18, 10, 2, 60, 52, 44, 36, 28, 20, 12, 4, 62, 54, 46, 38, 30, 22, 14, 6, 64, 56, 48, 40, 32, 24, 16, 8, 57, 49, 41, 33, 25, 17, 9, 1, 59, 51, 43, 35, 27, 19, 11, 3, 61, 53, 45, 37, 29, 21, 13, 5, 63, 55, 47, 39, 31, 23, 15, 7] : List Int))
set_option maxHeartbeats 8000000 in
set_option maxRecDepth 100000 in
theorem cipher_enter.calls  (r : List Int) (w : World) (h : cipher_enter.f  = some r) :
    Calls Tryz.prog 94 #[] w fun e w' => ∃ v0_ : Value, e = .returned (v0_) ∧ Kd.R (Kd.int .u8) 5 w' w.heap.size (fun _ => True) v0_ r ∧ Below w.heap.size w w' := by
  have HB := Aside0.mk (Below.refl w.heap.size w)
  have H : (some (([58, 50, 42, 34, 26, 18, 10, 2, 60, 52, 44, 36, 28, 20, 12, 4, 62, 54, 46, 38, 30, 22, 14, 6, 64, 56, 48, 40, 32, 24, 16, 8, 57, 49, 41, 33, 25, 17, 9, 1, 59, 51, 43, 35, 27, 19, 11, 3, 61, 53, 45, 37, 29, 21, 13, 5, 63, 55, 47, 39, 31, 23, 15, 7] : List Int))) = some r := h
  clear h
  obtain ⟨y111, hy111⟩ : ∃ y_ : List Int, y_ = (([58, 50, 42, 34, 26, 18, 10, 2, 60, 52, 44, 36, 28, 20, 12, 4, 62, 54, 46, 38, 30, 22, 14, 6, 64, 56, 48, 40, 32, 24, 16, 8, 57, 49, 41, 33, 25, 17, 9, 1, 59, 51, 43, 35, 27, 19, 11, 3, 61, 53, 45, 37, 29, 21, 13, 5, 63, 55, 47, 39, 31, 23, 15, 7] : List Int)) := ⟨_, rfl⟩
  replace H : (some y111) = some r := by first | (rw [hy111]; with_reducible exact H) | (have H2_ := (Option.bind_some _ _).symm.trans H; rw [hy111]; with_reducible exact H2_) | (have H2_ := (Option.bind_some _ _).symm.trans H; with_reducible exact H2_) | with_reducible exact H | (rw [hy111]; exact H) | exact H
  have Ny111 := Aside0.mk hy111
  clear hy111
  obtain rfl := Option.some.inj H
  go_enter Tryz.func94, Tryz.ntmps94
  go_wp2_with (first | ((with_reducible refine gate_dst (N := 1) rfl ?_); refine Kd.R_lit (Kd.int .u8) _ 5 ?hg (N := 1) ?hd (xs := ([58, 50, 42, 34, 26, 18, 10, 2, 60, 52, 44, 36, 28, 20, 12, 4, 62, 54, 46, 38, 30, 22, 14, 6, 64, 56, 48, 40, 32, 24, 16, 8, 57, 49, 41, 33, 25, 17, 9, 1, 59, 51, 43, 35, 27, 19, 11, 3, 61, 53, 45, 37, 29, 21, 13, 5, 63, 55, 47, 39, 31, 23, 15, 7] : List Int)) (inner := [.int .u8 58, .int .u8 50, .int .u8 42, .int .u8 34, .int .u8 26, .int .u8 18, .int .u8 10, .int .u8 2, .int .u8 60, .int .u8 52, .int .u8 44, .int .u8 36, .int .u8 28, .int .u8 20, .int .u8 12, .int .u8 4, .int .u8 62, .int .u8 54, .int .u8 46, .int .u8 38, .int .u8 30, .int .u8 22, .int .u8 14, .int .u8 6, .int .u8 64, .int .u8 56, .int .u8 48, .int .u8 40, .int .u8 32, .int .u8 24, .int .u8 16, .int .u8 8, .int .u8 57, .int .u8 49, .int .u8 41, .int .u8 33, .int .u8 25, .int .u8 17, .int .u8 9, .int .u8 1, .int .u8 59, .int .u8 51, .int .u8 43, .int .u8 35, .int .u8 27, .int .u8 19, .int .u8 11, .int .u8 3, .int .u8 61, .int .u8 53, .int .u8 45, .int .u8 37, .int .u8 29, .int .u8 21, .int .u8 13, .int .u8 5, .int .u8 63, .int .u8 55, .int .u8 47, .int .u8 39, .int .u8 31, .int .u8 23, .int .u8 15, .int .u8 7]) (ok := fun _ => True) (okp := fun _ => True) ?hr ?hp (fun _ hk => hk) trivial (Below.refl _ _) (Nat.le_refl _) (by simp) ?_; (case hd => rfl); (case hg => rfl); (case hr => first | (go_simp; done) | (go_simp; rfl)); (case hp => exact (Reps.one (show Kd.M (Kd.int .u8) _ _ _ 58 [.int .u8 58] from rfl) (Reps.one (show Kd.M (Kd.int .u8) _ _ _ 50 [.int .u8 50] from rfl) (Reps.one (show Kd.M (Kd.int .u8) _ _ _ 42 [.int .u8 42] from rfl) (Reps.one (show Kd.M (Kd.int .u8) _ _ _ 34 [.int .u8 34] from rfl) (Reps.one (show Kd.M (Kd.int .u8) _ _ _ 26 [.int .u8 26] from rfl) (Reps.one (show Kd.M (Kd.int .u8) _ _ _ 18 [.int .u8 18] from rfl) (Reps.one (show Kd.M (Kd.int .u8) _ _ _ 10 [.int .u8 10] from rfl) (Reps.one (show Kd.M (Kd.int .u8) _ _ _ 2 [.int .u8 2] from rfl) (Reps.one (show Kd.M (Kd.int .u8) _ _ _ 60 [.int .u8 60] from rfl) (Reps.one (show Kd.M (Kd.int .u8) _ _ _ 52 [.int .u8 52] from rfl) (Reps.one (show Kd.M (Kd.int .u8) _ _ _ 44 [.int .u8 44] from rfl) (Reps.one (show Kd.M (Kd.int .u8) _ _ _ 36 [.int .u8 36] from rfl) (Reps.one (show Kd.M (Kd.int .u8) _ _ _ 28 [.int .u8 28] from rfl) (Reps.one (show Kd.M (Kd.int .u8) _ _ _ 20 [.int .u8 20] from rfl) (Reps.one (show Kd.M (Kd.int .u8) _ _ _ 12 [.int .u8 12] from rfl) (Reps.one (show Kd.M (Kd.int .u8) _ _ _ 4 [.int .u8 4] from rfl) (Reps.one (show Kd.M (Kd.int .u8) _ _ _ 62 [.int .u8 62] from rfl) (Reps.one (show Kd.M (Kd.int .u8) _ _ _ 54 [.int .u8 54] from rfl) (Reps.one (show Kd.M (Kd.int .u8) _ _ _ 46 [.int .u8 46] from rfl) (Reps.one (show Kd.M (Kd.int .u8) _ _ _ 38 [.int .u8 38] from rfl) (Reps.one (show Kd.M (Kd.int .u8) _ _ _ 30 [.int .u8 30] from rfl) (Reps.one (show Kd.M (Kd.int .u8) _ _ _ 22 [.int .u8 22] from rfl) (Reps.one (show Kd.M (Kd.int .u8) _ _ _ 14 [.int .u8 14] from rfl) (Reps.one (show Kd.M (Kd.int .u8) _ _ _ 6 [.int .u8 6] from rfl) (Reps.one (show Kd.M (Kd.int .u8) _ _ _ 64 [.int .u8 64] from rfl) (Reps.one (show Kd.M (Kd.int .u8) _ _ _ 56 [.int .u8 56] from rfl) (Reps.one (show Kd.M (Kd.int .u8) _ _ _ 48 [.int .u8 48] from rfl) (Reps.one (show Kd.M (Kd.int .u8) _ _ _ 40 [.int .u8 40] from rfl) (Reps.one (show Kd.M (Kd.int .u8) _ _ _ 32 [.int .u8 32] from rfl) (Reps.one (show Kd.M (Kd.int .u8) _ _ _ 24 [.int .u8 24] from rfl) (Reps.one (show Kd.M (Kd.int .u8) _ _ _ 16 [.int .u8 16] from rfl) (Reps.one (show Kd.M (Kd.int .u8) _ _ _ 8 [.int .u8 8] from rfl) (Reps.one (show Kd.M (Kd.int .u8) _ _ _ 57 [.int .u8 57] from rfl) (Reps.one (show Kd.M (Kd.int .u8) _ _ _ 49 [.int .u8 49] from rfl) (Reps.one (show Kd.M (Kd.int .u8) _ _ _ 41 [.int .u8 41] from rfl) (Reps.one (show Kd.M (Kd.int .u8) _ _ _ 33 [.int .u8 33] from rfl) (Reps.one (show Kd.M (Kd.int .u8) _ _ _ 25 [.int .u8 25] from rfl) (Reps.one (show Kd.M (Kd.int .u8) _ _ _ 17 [.int .u8 17] from rfl) (Reps.one (show Kd.M (Kd.int .u8) _ _ _ 9 [.int .u8 9] from rfl) (Reps.one (show Kd.M (Kd.int .u8) _ _ _ 1 [.int .u8 1] from rfl) (Reps.one (show Kd.M (Kd.int .u8) _ _ _ 59 [.int .u8 59] from rfl) (Reps.one (show Kd.M (Kd.int .u8) _ _ _ 51 [.int .u8 51] from rfl) (Reps.one (show Kd.M (Kd.int .u8) _ _ _ 43 [.int .u8 43] from rfl) (Reps.one (show Kd.M (Kd.int .u8) _ _ _ 35 [.int .u8 35] from rfl) (Reps.one (show Kd.M (Kd.int .u8) _ _ _ 27 [.int .u8 27] from rfl) (Reps.one (show Kd.M (Kd.int .u8) _ _ _ 19 [.int .u8 19] from rfl) (Reps.one (show Kd.M (Kd.int .u8) _ _ _ 11 [.int .u8 11] from rfl) (Reps.one (show Kd.M (Kd.int .u8) _ _ _ 3 [.int .u8 3] from rfl) (Reps.one (show Kd.M (Kd.int .u8) _ _ _ 61 [.int .u8 61] from rfl) (Reps.one (show Kd.M (Kd.int .u8) _ _ _ 53 [.int .u8 53] from rfl) (Reps.one (show Kd.M (Kd.int .u8) _ _ _ 45 [.int .u8 45] from rfl) (Reps.one (show Kd.M (Kd.int .u8) _ _ _ 37 [.int .u8 37] from rfl) (Reps.one (show Kd.M (Kd.int .u8) _ _ _ 29 [.int .u8 29] from rfl) (Reps.one (show Kd.M (Kd.int .u8) _ _ _ 21 [.int .u8 21] from rfl) (Reps.one (show Kd.M (Kd.int .u8) _ _ _ 13 [.int .u8 13] from rfl) (Reps.one (show Kd.M (Kd.int .u8) _ _ _ 5 [.int .u8 5] from rfl) (Reps.one (show Kd.M (Kd.int .u8) _ _ _ 63 [.int .u8 63] from rfl) (Reps.one (show Kd.M (Kd.int .u8) _ _ _ 55 [.int .u8 55] from rfl) (Reps.one (show Kd.M (Kd.int .u8) _ _ _ 47 [.int .u8 47] from rfl) (Reps.one (show Kd.M (Kd.int .u8) _ _ _ 39 [.int .u8 39] from rfl) (Reps.one (show Kd.M (Kd.int .u8) _ _ _ 31 [.int .u8 31] from rfl) (Reps.one (show Kd.M (Kd.int .u8) _ _ _ 23 [.int .u8 23] from rfl) (Reps.one (show Kd.M (Kd.int .u8) _ _ _ 15 [.int .u8 15] from rfl) (Reps.one (show Kd.M (Kd.int .u8) _ _ _ 7 [.int .u8 7] from rfl) (Reps.none _ _)))))))))))))))))))))))))))))))))))))))))))))))))))))))))))))))))); intro v112 w1 ho2 hb hg_ hnew_; clear hg_ hnew_; (first | rw [← Ny111.out] at ho2 | (simp only [Int.reduceToNat] at ho2; rw [← Ny111.out] at ho2)); have n0_ := Aside0.mk (Kd.R_lower ho2 (below_size (by repeat (first | (with_reducible first | exact HB.out | apply below_alloc | apply pw_below_drewN | apply below_drew1) | exact HB.out)))); have n1_ := Aside0.mk (below_step (by repeat (first | (with_reducible first | exact HB.out | apply below_alloc | apply pw_below_drewN | apply below_drew1) | exact HB.out)) hb); clear HB; have HO113 := n0_; have HB := n1_; clear n0_ n1_; clear hb ho2))
  go_ret
  exact ⟨_, by first | rfl | (simp [errW_none, errW_some] <;> rfl) | (simp [*, errW_none, errW_some] <;> rfl), by (with_reducible repeat (first | apply Kd.R_alloc | apply Kd.R_drewN | apply Kd.R_drew)); exact HO113.out, by repeat (first | (with_reducible first | exact HB.out | apply below_alloc | apply pw_below_drewN | apply below_drew1) | exact HB.out)⟩

/-! ### cipher_spread: function 106 -/
def cipher_spread.f  : Option (List Int) := some (([16, 7, 20, 21, 29, 12, 28, 17, 1, 15, 23, 26, 5, 18, 31, 10, 2, 8, 24, 14, 32, 27, 3, 9, 19, 13, 30, 6, 22, 11, 4, 25] : List Int))
set_option maxHeartbeats 8000000 in
set_option maxRecDepth 100000 in
theorem cipher_spread.calls  (r : List Int) (w : World) (h : cipher_spread.f  = some r) :
    Calls Tryz.prog 95 #[] w fun e w' => ∃ v0_ : Value, e = .returned (v0_) ∧ Kd.R (Kd.int .u8) 5 w' w.heap.size (fun _ => True) v0_ r ∧ Below w.heap.size w w' := by
  have HB := Aside0.mk (Below.refl w.heap.size w)
  have H : (some (([16, 7, 20, 21, 29, 12, 28, 17, 1, 15, 23, 26, 5, 18, 31, 10, 2, 8, 24, 14, 32, 27, 3, 9, 19, 13, 30, 6, 22, 11, 4, 25] : List Int))) = some r := h
  clear h
  obtain ⟨y114, hy114⟩ : ∃ y_ : List Int, y_ = (([16, 7, 20, 21, 29, 12, 28, 17, 1, 15, 23, 26, 5, 18, 31, 10, 2, 8, 24, 14, 32, 27, 3, 9, 19, 13, 30, 6, 22, 11, 4, 25] : List Int)) := ⟨_, rfl⟩
  replace H : (some y114) = some r := by first | (rw [hy114]; with_reducible exact H) | (have H2_ := (Option.bind_some _ _).symm.trans H; rw [hy114]; with_reducible exact H2_) | (have H2_ := (Option.bind_some _ _).symm.trans H; with_reducible exact H2_) | with_reducible exact H | (rw [hy114]; exact H) | exact H
  have Ny114 := Aside0.mk hy114
  clear hy114
  obtain rfl := Option.some.inj H
  go_enter Tryz.func95, Tryz.ntmps95
  go_wp2_with (first | ((with_reducible refine gate_dst (N := 1) rfl ?_); refine Kd.R_lit (Kd.int .u8) _ 5 ?hg (N := 1) ?hd (xs := ([16, 7, 20, 21, 29, 12, 28, 17, 1, 15, 23, 26, 5, 18, 31, 10, 2, 8, 24, 14, 32, 27, 3, 9, 19, 13, 30, 6, 22, 11, 4, 25] : List Int)) (inner := [.int .u8 16, .int .u8 7, .int .u8 20, .int .u8 21, .int .u8 29, .int .u8 12, .int .u8 28, .int .u8 17, .int .u8 1, .int .u8 15, .int .u8 23, .int .u8 26, .int .u8 5, .int .u8 18, .int .u8 31, .int .u8 10, .int .u8 2, .int .u8 8, .int .u8 24, .int .u8 14, .int .u8 32, .int .u8 27, .int .u8 3, .int .u8 9, .int .u8 19, .int .u8 13, .int .u8 30, .int .u8 6, .int .u8 22, .int .u8 11, .int .u8 4, .int .u8 25]) (ok := fun _ => True) (okp := fun _ => True) ?hr ?hp (fun _ hk => hk) trivial (Below.refl _ _) (Nat.le_refl _) (by simp) ?_; (case hd => rfl); (case hg => rfl); (case hr => first | (go_simp; done) | (go_simp; rfl)); (case hp => exact (Reps.one (show Kd.M (Kd.int .u8) _ _ _ 16 [.int .u8 16] from rfl) (Reps.one (show Kd.M (Kd.int .u8) _ _ _ 7 [.int .u8 7] from rfl) (Reps.one (show Kd.M (Kd.int .u8) _ _ _ 20 [.int .u8 20] from rfl) (Reps.one (show Kd.M (Kd.int .u8) _ _ _ 21 [.int .u8 21] from rfl) (Reps.one (show Kd.M (Kd.int .u8) _ _ _ 29 [.int .u8 29] from rfl) (Reps.one (show Kd.M (Kd.int .u8) _ _ _ 12 [.int .u8 12] from rfl) (Reps.one (show Kd.M (Kd.int .u8) _ _ _ 28 [.int .u8 28] from rfl) (Reps.one (show Kd.M (Kd.int .u8) _ _ _ 17 [.int .u8 17] from rfl) (Reps.one (show Kd.M (Kd.int .u8) _ _ _ 1 [.int .u8 1] from rfl) (Reps.one (show Kd.M (Kd.int .u8) _ _ _ 15 [.int .u8 15] from rfl) (Reps.one (show Kd.M (Kd.int .u8) _ _ _ 23 [.int .u8 23] from rfl) (Reps.one (show Kd.M (Kd.int .u8) _ _ _ 26 [.int .u8 26] from rfl) (Reps.one (show Kd.M (Kd.int .u8) _ _ _ 5 [.int .u8 5] from rfl) (Reps.one (show Kd.M (Kd.int .u8) _ _ _ 18 [.int .u8 18] from rfl) (Reps.one (show Kd.M (Kd.int .u8) _ _ _ 31 [.int .u8 31] from rfl) (Reps.one (show Kd.M (Kd.int .u8) _ _ _ 10 [.int .u8 10] from rfl) (Reps.one (show Kd.M (Kd.int .u8) _ _ _ 2 [.int .u8 2] from rfl) (Reps.one (show Kd.M (Kd.int .u8) _ _ _ 8 [.int .u8 8] from rfl) (Reps.one (show Kd.M (Kd.int .u8) _ _ _ 24 [.int .u8 24] from rfl) (Reps.one (show Kd.M (Kd.int .u8) _ _ _ 14 [.int .u8 14] from rfl) (Reps.one (show Kd.M (Kd.int .u8) _ _ _ 32 [.int .u8 32] from rfl) (Reps.one (show Kd.M (Kd.int .u8) _ _ _ 27 [.int .u8 27] from rfl) (Reps.one (show Kd.M (Kd.int .u8) _ _ _ 3 [.int .u8 3] from rfl) (Reps.one (show Kd.M (Kd.int .u8) _ _ _ 9 [.int .u8 9] from rfl) (Reps.one (show Kd.M (Kd.int .u8) _ _ _ 19 [.int .u8 19] from rfl) (Reps.one (show Kd.M (Kd.int .u8) _ _ _ 13 [.int .u8 13] from rfl) (Reps.one (show Kd.M (Kd.int .u8) _ _ _ 30 [.int .u8 30] from rfl) (Reps.one (show Kd.M (Kd.int .u8) _ _ _ 6 [.int .u8 6] from rfl) (Reps.one (show Kd.M (Kd.int .u8) _ _ _ 22 [.int .u8 22] from rfl) (Reps.one (show Kd.M (Kd.int .u8) _ _ _ 11 [.int .u8 11] from rfl) (Reps.one (show Kd.M (Kd.int .u8) _ _ _ 4 [.int .u8 4] from rfl) (Reps.one (show Kd.M (Kd.int .u8) _ _ _ 25 [.int .u8 25] from rfl) (Reps.none _ _)))))))))))))))))))))))))))))))))); intro v115 w1 ho2 hb hg_ hnew_; clear hg_ hnew_; (first | rw [← Ny114.out] at ho2 | (simp only [Int.reduceToNat] at ho2; rw [← Ny114.out] at ho2)); have n0_ := Aside0.mk (Kd.R_lower ho2 (below_size (by repeat (first | (with_reducible first | exact HB.out | apply below_alloc | apply pw_below_drewN | apply below_drew1) | exact HB.out)))); have n1_ := Aside0.mk (below_step (by repeat (first | (with_reducible first | exact HB.out | apply below_alloc | apply pw_below_drewN | apply below_drew1) | exact HB.out)) hb); clear HB; have HO116 := n0_; have HB := n1_; clear n0_ n1_; clear hb ho2))
  go_ret
  exact ⟨_, by first | rfl | (simp [errW_none, errW_some] <;> rfl) | (simp [*, errW_none, errW_some] <;> rfl), by (with_reducible repeat (first | apply Kd.R_alloc | apply Kd.R_drewN | apply Kd.R_drew)); exact HO116.out, by repeat (first | (with_reducible first | exact HB.out | apply below_alloc | apply pw_below_drewN | apply below_drew1) | exact HB.out)⟩

/-! ### bits_RotateLeft32: function 126 -/
def bits_RotateLeft32.f (a0 : Int) (a1 : Int) : Option (Int) := if 0 ≤ (Go.bits .and .u64 (IntKind.u64.wrap (a1)) 31) then (if 0 ≤ (IntKind.u64.wrap (32 - (Go.bits .and .u64 (IntKind.u64.wrap (a1)) 31))) then (some (Go.bits .or .u32 (shl .u32 a0 (Go.bits .and .u64 (IntKind.u64.wrap (a1)) 31)) (shr .u32 a0 (IntKind.u64.wrap (32 - (Go.bits .and .u64 (IntKind.u64.wrap (a1)) 31)))))) else (none)) else (none)
set_option maxHeartbeats 8000000 in
set_option maxRecDepth 100000 in
theorem bits_RotateLeft32.calls (a0 : Int) (a1 : Int) (r : Int) (w : World) (h : bits_RotateLeft32.f a0 a1 = some r) :
    Calls Tryz.prog 108 #[.int .u32 a0, .int .i64 a1] w fun e w' => e = .returned (.int .u32 r) ∧ Drawn0 w w' := by
  have H : (if 0 ≤ (Go.bits .and .u64 (IntKind.u64.wrap (a1)) 31) then (if 0 ≤ (IntKind.u64.wrap (32 - (Go.bits .and .u64 (IntKind.u64.wrap (a1)) 31))) then (some (Go.bits .or .u32 (shl .u32 a0 (Go.bits .and .u64 (IntKind.u64.wrap (a1)) 31)) (shr .u32 a0 (IntKind.u64.wrap (32 - (Go.bits .and .u64 (IntKind.u64.wrap (a1)) 31)))))) else (none)) else (none)) = some r := h
  clear h
  obtain ⟨ji3, hji3⟩ : ∃ j_ : Int, (Go.bits .and .u64 (IntKind.u64.wrap (a1)) 31) = j_ := ⟨_, rfl⟩
  replace H : (if 0 ≤ (ji3) then (if 0 ≤ (IntKind.u64.wrap (32 - (ji3))) then (some (Go.bits .or .u32 (shl .u32 a0 (ji3)) (shr .u32 a0 (IntKind.u64.wrap (32 - (ji3)))))) else (none)) else (none)) = some r := by first | (rw [hji3] at H; exact H) | (simp only [hji3] at H ⊢; exact H)
  by_cases c4 : 0 ≤ (ji3)
  · rw [if_pos c4] at H
    have c4b0 := eq_true c4
    have c4b1 : decide (0 ≤ (ji3)) = true := decide_eq_true c4
    clear c4
    obtain ⟨ji5, hji5⟩ : ∃ j_ : Int, (shl .u32 a0 (ji3)) = j_ := ⟨_, rfl⟩
    replace H : (if 0 ≤ (IntKind.u64.wrap (32 - (ji3))) then (some (Go.bits .or .u32 (ji5) (shr .u32 a0 (IntKind.u64.wrap (32 - (ji3)))))) else (none)) = some r := by first | (rw [hji5] at H; exact H) | (simp only [hji5] at H ⊢; exact H)
    have hji5_ : (IntKind.u32.wrap (a0 * 2 ^ min (ji3).toNat 32)) = ji5 := hji5
    have hji5z : (ji3) ≤ 32 → (IntKind.u32.wrap (a0 * 2 ^ (ji3).toNat)) = ji5 := shl_small hji5
    obtain ⟨ji6, hji6⟩ : ∃ j_ : Int, (IntKind.u64.wrap (32 - (ji3))) = j_ := ⟨_, rfl⟩
    replace H : (if 0 ≤ (ji6) then (some (Go.bits .or .u32 (ji5) (shr .u32 a0 (ji6)))) else (none)) = some r := by first | (rw [hji6] at H; exact H) | (simp only [hji6] at H ⊢; exact H)
    by_cases c7 : 0 ≤ (ji6)
    · rw [if_pos c7] at H
      have c7b0 := eq_true c7
      have c7b1 : decide (0 ≤ (ji6)) = true := decide_eq_true c7
      clear c7
      obtain ⟨ji8, hji8⟩ : ∃ j_ : Int, (shr .u32 a0 (ji6)) = j_ := ⟨_, rfl⟩
      replace H : (some (Go.bits .or .u32 (ji5) (ji8))) = some r := by first | (rw [hji8] at H; exact H) | (simp only [hji8] at H ⊢; exact H)
      have hji8_ : (a0 / 2 ^ min (ji6).toNat 32) = ji8 := hji8
      have hji8z : (ji6) ≤ 32 → (a0 / 2 ^ (ji6).toNat) = ji8 := shr_small hji8
      obtain rfl := Option.some.inj H
      go_enter Tryz.func108, Tryz.ntmps108
      go_wp2
      go_ret
      exact ⟨by first | rfl | (simp; done) | (simp only [← hji3, ← hji5, ← hji6, ← hji8] <;> (first | rfl | simp)) | (simp [*]; done), by repeat (first | exact Drawn0.refl _ | apply Drawn0.step)⟩
    · rw [if_neg c7] at H
      exact absurd H (by simp)
  · rw [if_neg c4] at H
    exact absurd H (by simp)

/-! ### cipher_sixteenth: function 127 -/
def cipher_sixteenth.f (a0 : Int) : Option (Int) := if a0 ≥ 97 then (some (((a0 - 97) % 256) + 10)) else (some ((a0 - 48) % 256))
set_option maxHeartbeats 8000000 in
set_option maxRecDepth 100000 in
theorem cipher_sixteenth.calls (a0 : Int) (r : Int) (w : World) (h : cipher_sixteenth.f a0 = some r) :
    Calls Tryz.prog 109 #[.int .u8 a0] w fun e w' => e = .returned (.int .u64 r) ∧ Drawn0 w w' := by
  have H : (if a0 ≥ 97 then (some (((a0 - 97) % 256) + 10)) else (some ((a0 - 48) % 256))) = some r := h
  clear h
  by_cases c2 : a0 ≥ 97
  · rw [if_pos c2] at H
    have c2b0 : decide (97 ≤ a0) = true := decide_eq_true c2
    clear c2
    obtain rfl := Option.some.inj H
    go_enter Tryz.func109, Tryz.ntmps109
    go_wp2
    go_ret
    exact ⟨by first | rfl | (simp; done) | (simp [*]; done), by repeat (first | exact Drawn0.refl _ | apply Drawn0.step)⟩
  · rw [if_neg c2] at H
    have c2b0 : decide (97 ≤ a0) = false := decide_eq_false c2
    clear c2
    obtain rfl := Option.some.inj H
    go_enter Tryz.func109, Tryz.ntmps109
    go_wp2
    go_ret
    exact ⟨by first | rfl | (simp; done) | (simp [*]; done), by repeat (first | exact Drawn0.refl _ | apply Drawn0.step)⟩

/-! ### cipher_box: function 128 -/
def cipher_box.f (a0 : Int) : Option (ByteArray) := if a0 = 0 then (some (⟨#[101, 52, 100, 49, 50, 102, 98, 56, 51, 97, 54, 99, 53, 57, 48, 55, 48, 102, 55, 52, 101, 50, 100, 49, 97, 54, 99, 98, 57, 53, 51, 56, 52, 49, 101, 56, 100, 54, 50, 98, 102, 99, 57, 55, 51, 97, 53, 48, 102, 99, 56, 50, 52, 57, 49, 55, 53, 98, 51, 101, 97, 48, 54, 100]⟩ : ByteArray)) else (if a0 = 1 then (some (⟨#[102, 49, 56, 101, 54, 98, 51, 52, 57, 55, 50, 100, 99, 48, 53, 97, 51, 100, 52, 55, 102, 50, 56, 101, 99, 48, 49, 97, 54, 57, 98, 53, 48, 101, 55, 98, 97, 52, 100, 49, 53, 56, 99, 54, 57, 51, 50, 102, 100, 56, 97, 49, 51, 102, 52, 50, 98, 54, 55, 99, 48, 53, 101, 57]⟩ : ByteArray)) else (if a0 = 2 then (some (⟨#[97, 48, 57, 101, 54, 51, 102, 53, 49, 100, 99, 55, 98, 52, 50, 56, 100, 55, 48, 57, 51, 52, 54, 97, 50, 56, 53, 101, 99, 98, 102, 49, 100, 54, 52, 57, 56, 102, 51, 48, 98, 49, 50, 99, 53, 97, 101, 55, 49, 97, 100, 48, 54, 57, 56, 55, 52, 102, 101, 51, 98, 53, 50, 99]⟩ : ByteArray)) else (if a0 = 3 then (some (⟨#[55, 100, 101, 51, 48, 54, 57, 97, 49, 50, 56, 53, 98, 99, 52, 102, 100, 56, 98, 53, 54, 102, 48, 51, 52, 55, 50, 99, 49, 97, 101, 57, 97, 54, 57, 48, 99, 98, 55, 100, 102, 49, 51, 101, 53, 50, 56, 52, 51, 102, 48, 54, 97, 49, 100, 56, 57, 52, 53, 98, 99, 55, 50, 101]⟩ : ByteArray)) else (if a0 = 4 then (some (⟨#[50, 99, 52, 49, 55, 97, 98, 54, 56, 53, 51, 102, 100, 48, 101, 57, 101, 98, 50, 99, 52, 55, 100, 49, 53, 48, 102, 97, 51, 57, 56, 54, 52, 50, 49, 98, 97, 100, 55, 56, 102, 57, 99, 53, 54, 51, 48, 101, 98, 56, 99, 55, 49, 101, 50, 100, 54, 102, 48, 57, 97, 52, 53, 51]⟩ : ByteArray)) else (if a0 = 5 then (some (⟨#[99, 49, 97, 102, 57, 50, 54, 56, 48, 100, 51, 52, 101, 55, 53, 98, 97, 102, 52, 50, 55, 99, 57, 53, 54, 49, 100, 101, 48, 98, 51, 56, 57, 101, 102, 53, 50, 56, 99, 51, 55, 48, 52, 97, 49, 100, 98, 54, 52, 51, 50, 99, 57, 53, 102, 97, 98, 101, 49, 55, 54, 48, 56, 100]⟩ : ByteArray)) else (if a0 = 6 then (some (⟨#[52, 98, 50, 101, 102, 48, 56, 100, 51, 99, 57, 55, 53, 97, 54, 49, 100, 48, 98, 55, 52, 57, 49, 97, 101, 51, 53, 99, 50, 102, 56, 54, 49, 52, 98, 100, 99, 51, 55, 101, 97, 102, 54, 56, 48, 53, 57, 50, 54, 98, 100, 56, 49, 52, 97, 55, 57, 53, 48, 102, 101, 50, 51, 99]⟩ : ByteArray)) else (some (⟨#[100, 50, 56, 52, 54, 102, 98, 49, 97, 57, 51, 101, 53, 48, 99, 55, 49, 102, 100, 56, 97, 51, 55, 52, 99, 53, 54, 98, 48, 101, 57, 50, 55, 98, 52, 49, 57, 99, 101, 50, 48, 54, 97, 100, 102, 51, 53, 56, 50, 49, 101, 55, 52, 97, 56, 100, 102, 99, 57, 48, 51, 53, 54, 98]⟩ : ByteArray))))))))
set_option maxHeartbeats 8000000 in
set_option maxRecDepth 100000 in
theorem cipher_box.calls (a0 : Int) (r : ByteArray) (w : World) (h : cipher_box.f a0 = some r) :
    Calls Tryz.prog 110 #[.int .i64 a0] w fun e w' => e = .returned (.string r) ∧ Drawn0 w w' := by
  have H : (if a0 = 0 then (some (⟨#[101, 52, 100, 49, 50, 102, 98, 56, 51, 97, 54, 99, 53, 57, 48, 55, 48, 102, 55, 52, 101, 50, 100, 49, 97, 54, 99, 98, 57, 53, 51, 56, 52, 49, 101, 56, 100, 54, 50, 98, 102, 99, 57, 55, 51, 97, 53, 48, 102, 99, 56, 50, 52, 57, 49, 55, 53, 98, 51, 101, 97, 48, 54, 100]⟩ : ByteArray)) else (if a0 = 1 then (some (⟨#[102, 49, 56, 101, 54, 98, 51, 52, 57, 55, 50, 100, 99, 48, 53, 97, 51, 100, 52, 55, 102, 50, 56, 101, 99, 48, 49, 97, 54, 57, 98, 53, 48, 101, 55, 98, 97, 52, 100, 49, 53, 56, 99, 54, 57, 51, 50, 102, 100, 56, 97, 49, 51, 102, 52, 50, 98, 54, 55, 99, 48, 53, 101, 57]⟩ : ByteArray)) else (if a0 = 2 then (some (⟨#[97, 48, 57, 101, 54, 51, 102, 53, 49, 100, 99, 55, 98, 52, 50, 56, 100, 55, 48, 57, 51, 52, 54, 97, 50, 56, 53, 101, 99, 98, 102, 49, 100, 54, 52, 57, 56, 102, 51, 48, 98, 49, 50, 99, 53, 97, 101, 55, 49, 97, 100, 48, 54, 57, 56, 55, 52, 102, 101, 51, 98, 53, 50, 99]⟩ : ByteArray)) else (if a0 = 3 then (some (⟨#[55, 100, 101, 51, 48, 54, 57, 97, 49, 50, 56, 53, 98, 99, 52, 102, 100, 56, 98, 53, 54, 102, 48, 51, 52, 55, 50, 99, 49, 97, 101, 57, 97, 54, 57, 48, 99, 98, 55, 100, 102, 49, 51, 101, 53, 50, 56, 52, 51, 102, 48, 54, 97, 49, 100, 56, 57, 52, 53, 98, 99, 55, 50, 101]⟩ : ByteArray)) else (if a0 = 4 then (some (⟨#[50, 99, 52, 49, 55, 97, 98, 54, 56, 53, 51, 102, 100, 48, 101, 57, 101, 98, 50, 99, 52, 55, 100, 49, 53, 48, 102, 97, 51, 57, 56, 54, 52, 50, 49, 98, 97, 100, 55, 56, 102, 57, 99, 53, 54, 51, 48, 101, 98, 56, 99, 55, 49, 101, 50, 100, 54, 102, 48, 57, 97, 52, 53, 51]⟩ : ByteArray)) else (if a0 = 5 then (some (⟨#[99, 49, 97, 102, 57, 50, 54, 56, 48, 100, 51, 52, 101, 55, 53, 98, 97, 102, 52, 50, 55, 99, 57, 53, 54, 49, 100, 101, 48, 98, 51, 56, 57, 101, 102, 53, 50, 56, 99, 51, 55, 48, 52, 97, 49, 100, 98, 54, 52, 51, 50, 99, 57, 53, 102, 97, 98, 101, 49, 55, 54, 48, 56, 100]⟩ : ByteArray)) else (if a0 = 6 then (some (⟨#[52, 98, 50, 101, 102, 48, 56, 100, 51, 99, 57, 55, 53, 97, 54, 49, 100, 48, 98, 55, 52, 57, 49, 97, 101, 51, 53, 99, 50, 102, 56, 54, 49, 52, 98, 100, 99, 51, 55, 101, 97, 102, 54, 56, 48, 53, 57, 50, 54, 98, 100, 56, 49, 52, 97, 55, 57, 53, 48, 102, 101, 50, 51, 99]⟩ : ByteArray)) else (some (⟨#[100, 50, 56, 52, 54, 102, 98, 49, 97, 57, 51, 101, 53, 48, 99, 55, 49, 102, 100, 56, 97, 51, 55, 52, 99, 53, 54, 98, 48, 101, 57, 50, 55, 98, 52, 49, 57, 99, 101, 50, 48, 54, 97, 100, 102, 51, 53, 56, 50, 49, 101, 55, 52, 97, 56, 100, 102, 99, 57, 48, 51, 53, 54, 98]⟩ : ByteArray))))))))) = some r := h
  clear h
  by_cases c2 : a0 = 0
  · rw [if_pos c2] at H
    have c2b0 : (a0 == 0) = true := beq_iff_eq.mpr c2
    have c2b1 : (a0 != 0) = false := bne_eq_false_iff_eq.mpr c2
    clear c2
    obtain rfl := Option.some.inj H
    go_enter Tryz.func110, Tryz.ntmps110
    go_wp2
    go_ret
    exact ⟨by first | rfl | (simp; done) | (simp [*]; done), by repeat (first | exact Drawn0.refl _ | apply Drawn0.step)⟩
  · rw [if_neg c2] at H
    have c2b0 : (a0 == 0) = false := beq_eq_false_iff_ne.mpr c2
    have c2b1 : (a0 != 0) = true := bne_iff_ne.mpr c2
    by_cases c3 : a0 = 1
    · rw [if_pos c3] at H
      have c3b0 : (a0 == 1) = true := beq_iff_eq.mpr c3
      have c3b1 : (a0 != 1) = false := bne_eq_false_iff_eq.mpr c3
      clear c3
      obtain rfl := Option.some.inj H
      go_enter Tryz.func110, Tryz.ntmps110
      go_wp2
      go_ret
      exact ⟨by first | rfl | (simp; done) | (simp [*]; done), by repeat (first | exact Drawn0.refl _ | apply Drawn0.step)⟩
    · rw [if_neg c3] at H
      have c3b0 : (a0 == 1) = false := beq_eq_false_iff_ne.mpr c3
      have c3b1 : (a0 != 1) = true := bne_iff_ne.mpr c3
      by_cases c4 : a0 = 2
      · rw [if_pos c4] at H
        have c4b0 : (a0 == 2) = true := beq_iff_eq.mpr c4
        have c4b1 : (a0 != 2) = false := bne_eq_false_iff_eq.mpr c4
        clear c4
        obtain rfl := Option.some.inj H
        go_enter Tryz.func110, Tryz.ntmps110
        go_wp2
        go_ret
        exact ⟨by first | rfl | (simp; done) | (simp [*]; done), by repeat (first | exact Drawn0.refl _ | apply Drawn0.step)⟩
      · rw [if_neg c4] at H
        have c4b0 : (a0 == 2) = false := beq_eq_false_iff_ne.mpr c4
        have c4b1 : (a0 != 2) = true := bne_iff_ne.mpr c4
        by_cases c5 : a0 = 3
        · rw [if_pos c5] at H
          have c5b0 : (a0 == 3) = true := beq_iff_eq.mpr c5
          have c5b1 : (a0 != 3) = false := bne_eq_false_iff_eq.mpr c5
          clear c5
          obtain rfl := Option.some.inj H
          go_enter Tryz.func110, Tryz.ntmps110
          go_wp2
          go_ret
          exact ⟨by first | rfl | (simp; done) | (simp [*]; done), by repeat (first | exact Drawn0.refl _ | apply Drawn0.step)⟩
        · rw [if_neg c5] at H
          have c5b0 : (a0 == 3) = false := beq_eq_false_iff_ne.mpr c5
          have c5b1 : (a0 != 3) = true := bne_iff_ne.mpr c5
          by_cases c6 : a0 = 4
          · rw [if_pos c6] at H
            have c6b0 : (a0 == 4) = true := beq_iff_eq.mpr c6
            have c6b1 : (a0 != 4) = false := bne_eq_false_iff_eq.mpr c6
            clear c6
            obtain rfl := Option.some.inj H
            go_enter Tryz.func110, Tryz.ntmps110
            go_wp2
            go_ret
            exact ⟨by first | rfl | (simp; done) | (simp [*]; done), by repeat (first | exact Drawn0.refl _ | apply Drawn0.step)⟩
          · rw [if_neg c6] at H
            have c6b0 : (a0 == 4) = false := beq_eq_false_iff_ne.mpr c6
            have c6b1 : (a0 != 4) = true := bne_iff_ne.mpr c6
            by_cases c7 : a0 = 5
            · rw [if_pos c7] at H
              have c7b0 : (a0 == 5) = true := beq_iff_eq.mpr c7
              have c7b1 : (a0 != 5) = false := bne_eq_false_iff_eq.mpr c7
              clear c7
              obtain rfl := Option.some.inj H
              go_enter Tryz.func110, Tryz.ntmps110
              go_wp2
              go_ret
              exact ⟨by first | rfl | (simp; done) | (simp [*]; done), by repeat (first | exact Drawn0.refl _ | apply Drawn0.step)⟩
            · rw [if_neg c7] at H
              have c7b0 : (a0 == 5) = false := beq_eq_false_iff_ne.mpr c7
              have c7b1 : (a0 != 5) = true := bne_iff_ne.mpr c7
              by_cases c8 : a0 = 6
              · rw [if_pos c8] at H
                have c8b0 : (a0 == 6) = true := beq_iff_eq.mpr c8
                have c8b1 : (a0 != 6) = false := bne_eq_false_iff_eq.mpr c8
                clear c8
                obtain rfl := Option.some.inj H
                go_enter Tryz.func110, Tryz.ntmps110
                go_wp2
                go_ret
                exact ⟨by first | rfl | (simp; done) | (simp [*]; done), by repeat (first | exact Drawn0.refl _ | apply Drawn0.step)⟩
              · rw [if_neg c8] at H
                have c8b0 : (a0 == 6) = false := beq_eq_false_iff_ne.mpr c8
                have c8b1 : (a0 != 6) = true := bne_iff_ne.mpr c8
                obtain rfl := Option.some.inj H
                go_enter Tryz.func110, Tryz.ntmps110
                go_wp2
                go_ret
                exact ⟨by first | rfl | (simp; done) | (simp [*]; done), by repeat (first | exact Drawn0.refl _ | apply Drawn0.step)⟩

/-! ### cipher_mixed: function 107 -/
def cipher_mixed.l0 : Nat → Int → Int → List Int → Int → Int → Option (Int)
  | 0, _, _, _, _, _ => none
  | k + 1, x0, x1, x2, x7, x12 => if x12 < 8 then ((bits_RotateLeft32.f x0 (wrap64 ((wrap64 (4 * x12)) - 1))).bind fun t117 => (if 0 ≤ (wrap64 (42 - (wrap64 (6 * x12)))) then ((cipher_box.f x12).bind fun t118 => (if 0 ≤ (IntKind.u64.wrap ((IntKind.u64.wrap (16 * (Go.bits .or .u64 (Go.bits .and .u64 ((Go.bits .xor .u64 (IntKind.u64.wrap (t117 / 67108864)) (Go.bits .and .u64 (shr .u64 x1 (wrap64 (42 - (wrap64 (6 * x12))))) 63)) / 16) 2) (Go.bits .and .u64 (Go.bits .xor .u64 (IntKind.u64.wrap (t117 / 67108864)) (Go.bits .and .u64 (shr .u64 x1 (wrap64 (42 - (wrap64 (6 * x12))))) 63)) 1)))) + (Go.bits .and .u64 ((Go.bits .xor .u64 (IntKind.u64.wrap (t117 / 67108864)) (Go.bits .and .u64 (shr .u64 x1 (wrap64 (42 - (wrap64 (6 * x12))))) 63)) / 2) 15))) then (if (IntKind.u64.wrap ((IntKind.u64.wrap (16 * (Go.bits .or .u64 (Go.bits .and .u64 ((Go.bits .xor .u64 (IntKind.u64.wrap (t117 / 67108864)) (Go.bits .and .u64 (shr .u64 x1 (wrap64 (42 - (wrap64 (6 * x12))))) 63)) / 16) 2) (Go.bits .and .u64 (Go.bits .xor .u64 (IntKind.u64.wrap (t117 / 67108864)) (Go.bits .and .u64 (shr .u64 x1 (wrap64 (42 - (wrap64 (6 * x12))))) 63)) 1)))) + (Go.bits .and .u64 ((Go.bits .xor .u64 (IntKind.u64.wrap (t117 / 67108864)) (Go.bits .and .u64 (shr .u64 x1 (wrap64 (42 - (wrap64 (6 * x12))))) 63)) / 2) 15))) < (t118.size : Int) then ((cipher_sixteenth.f (bt t118 (IntKind.u64.wrap ((IntKind.u64.wrap (16 * (Go.bits .or .u64 (Go.bits .and .u64 ((Go.bits .xor .u64 (IntKind.u64.wrap (t117 / 67108864)) (Go.bits .and .u64 (shr .u64 x1 (wrap64 (42 - (wrap64 (6 * x12))))) 63)) / 16) 2) (Go.bits .and .u64 (Go.bits .xor .u64 (IntKind.u64.wrap (t117 / 67108864)) (Go.bits .and .u64 (shr .u64 x1 (wrap64 (42 - (wrap64 (6 * x12))))) 63)) 1)))) + (Go.bits .and .u64 ((Go.bits .xor .u64 (IntKind.u64.wrap (t117 / 67108864)) (Go.bits .and .u64 (shr .u64 x1 (wrap64 (42 - (wrap64 (6 * x12))))) 63)) / 2) 15))))).bind fun t119 => (cipher_mixed.l0 k x0 x1 x2 (Go.bits .or .u64 (IntKind.u64.wrap (x7 * 16)) t119) (wrap64 (x12 + 1)))) else (none)) else (none))) else (none))) else ((cipher_take.f k x2 x7 32).bind fun t120 => (some ((t120) % 4294967296)))
def cipher_mixed.f (k : Nat) (a0 : Int) (a1 : Int) (l2 : List Int) : Option (Int) := cipher_mixed.l0 k a0 a1 l2 0 0
theorem cipher_mixed.mono_l : ∀ k, (∀ y0 y1 y2 y3 y4, LeO (cipher_mixed.l0 k y0 y1 y2 y3 y4) (cipher_mixed.l0 (k + 1) y0 y1 y2 y3 y4))
  | 0 => fun _ _ _ _ _ r h => by simp [cipher_mixed.l0] at h
  | k + 1 => by
    have ih0 := cipher_mixed.mono_l k
    · intro y0 y1 y2 y3 y4
      unfold cipher_mixed.l0
      repeat' first
      | (with_reducible exact ih0 _ _ _ _ _)
      | (with_reducible exact cipher_take.mono _ _ _ _)
      | (with_reducible exact LeO.refl _)
      | (with_reducible exact LeO.none _)
      | (with_reducible refine LeO.ite ?_ ?_)
      | (with_reducible refine LeO.bind ?_ (fun _ => ?_))
      | exact ih0 _ _ _ _ _
      | exact cipher_take.mono _ _ _ _
      | exact LeO.none _
      | refine LeO.ite ?_ ?_
      | refine LeO.bind ?_ (fun _ => ?_)
theorem cipher_mixed.mono : ∀ a0 a1 a2 k, LeO (cipher_mixed.f k a0 a1 a2) (cipher_mixed.f (k + 1) a0 a1 a2) := by
  intro a0 a1 a2 k
  have ih0 := cipher_mixed.mono_l k
  unfold cipher_mixed.f
  repeat' first
      | (with_reducible exact ih0 _ _ _ _ _)
      | (with_reducible exact cipher_take.mono _ _ _ _)
      | (with_reducible exact LeO.refl _)
      | (with_reducible exact LeO.none _)
      | (with_reducible refine LeO.ite ?_ ?_)
      | (with_reducible refine LeO.bind ?_ (fun _ => ?_))
      | exact ih0 _ _ _ _ _
      | exact cipher_take.mono _ _ _ _
      | exact LeO.none _
      | refine LeO.ite ?_ ?_
      | refine LeO.bind ?_ (fun _ => ?_)
set_option maxHeartbeats 8000000 in
set_option maxRecDepth 100000 in
theorem cipher_mixed.calls (k : Nat) (a0 : Int) (a1 : Int) (A2 : Option Addr) (c2 : Nat) (l2 : List Int) (r : Int) (w : World) (hr2 : Kd.C (Kd.int .u8) w A2 l2.length l2) (hc2 : l2.length ≤ c2) (h : cipher_mixed.f k a0 a1 l2 = some r) :
    Calls Tryz.prog 96 #[.int .u32 a0, .int .u64 a1, .slice A2 l2.length c2] w fun e w' => e = .returned (.int .u32 r) ∧ Drawn0 w w' := by
  have HR2 := Aside0.mk hr2
  have HC2 := Aside0.mk hc2
  clear hr2 hc2
  have H : (cipher_mixed.l0 k a0 a1 l2 0 0) = some r := h
  clear h
  have H' := Aside0.mk H
  clear H
  go_enter Tryz.func96, Tryz.ntmps96
  go_wp2
  repeat (go_quiet (fail); try go_wp2)
  go_loopg [7, 12] k (fun kq v7 v12 w' => ∃ (x7_1 : Int) (x12_1 : Int), v7 = .int .u64 x7_1 ∧ v12 = .int .i64 x12_1 ∧ Aside0 (cipher_mixed.l0 kq a0 a1 l2 x7_1 x12_1 = some r) ∧ Aside0 (kq ≤ k) ∧ Drawn0 w w')
  case atStart => exact ⟨(0), (0), (by first | rfl | (simp; done) | (simp [*]; done)), (by first | rfl | (simp; done) | (simp [*]; done)), H', ⟨Nat.le_refl _⟩, by repeat (first | exact Drawn0.refl _ | apply Drawn0.step)⟩
  case round =>
    clear H'
    try clear c1
    try clear c2
    try clear p2
    obtain ⟨x7_1, x12_1, rfl, rfl, HA, HK1, ⟨m1, rfl⟩⟩ := hrel
    cases gk with
    | zero => exact absurd HA.out (by simp [cipher_mixed.l0])
    | succ k1 =>
      have H := HA.out
      clear HA
      simp only [cipher_mixed.l0] at H
      by_cases c4 : x12_1 < 8
      · rw [if_pos c4] at H
        have c4b0 : decide (x12_1 < 8) = true := decide_eq_true c4
        clear c4
        replace H := Option.bind_eq_some_iff.mp H
        obtain ⟨t117, A50, H⟩ := H
        replace H : (if 0 ≤ (wrap64 (42 - (wrap64 (6 * x12_1)))) then ((cipher_box.f x12_1).bind fun t118 => (if 0 ≤ (IntKind.u64.wrap ((IntKind.u64.wrap (16 * (Go.bits .or .u64 (Go.bits .and .u64 ((Go.bits .xor .u64 (IntKind.u64.wrap (t117 / 67108864)) (Go.bits .and .u64 (shr .u64 a1 (wrap64 (42 - (wrap64 (6 * x12_1))))) 63)) / 16) 2) (Go.bits .and .u64 (Go.bits .xor .u64 (IntKind.u64.wrap (t117 / 67108864)) (Go.bits .and .u64 (shr .u64 a1 (wrap64 (42 - (wrap64 (6 * x12_1))))) 63)) 1)))) + (Go.bits .and .u64 ((Go.bits .xor .u64 (IntKind.u64.wrap (t117 / 67108864)) (Go.bits .and .u64 (shr .u64 a1 (wrap64 (42 - (wrap64 (6 * x12_1))))) 63)) / 2) 15))) then (if (IntKind.u64.wrap ((IntKind.u64.wrap (16 * (Go.bits .or .u64 (Go.bits .and .u64 ((Go.bits .xor .u64 (IntKind.u64.wrap (t117 / 67108864)) (Go.bits .and .u64 (shr .u64 a1 (wrap64 (42 - (wrap64 (6 * x12_1))))) 63)) / 16) 2) (Go.bits .and .u64 (Go.bits .xor .u64 (IntKind.u64.wrap (t117 / 67108864)) (Go.bits .and .u64 (shr .u64 a1 (wrap64 (42 - (wrap64 (6 * x12_1))))) 63)) 1)))) + (Go.bits .and .u64 ((Go.bits .xor .u64 (IntKind.u64.wrap (t117 / 67108864)) (Go.bits .and .u64 (shr .u64 a1 (wrap64 (42 - (wrap64 (6 * x12_1))))) 63)) / 2) 15))) < (t118.size : Int) then ((cipher_sixteenth.f (bt t118 (IntKind.u64.wrap ((IntKind.u64.wrap (16 * (Go.bits .or .u64 (Go.bits .and .u64 ((Go.bits .xor .u64 (IntKind.u64.wrap (t117 / 67108864)) (Go.bits .and .u64 (shr .u64 a1 (wrap64 (42 - (wrap64 (6 * x12_1))))) 63)) / 16) 2) (Go.bits .and .u64 (Go.bits .xor .u64 (IntKind.u64.wrap (t117 / 67108864)) (Go.bits .and .u64 (shr .u64 a1 (wrap64 (42 - (wrap64 (6 * x12_1))))) 63)) 1)))) + (Go.bits .and .u64 ((Go.bits .xor .u64 (IntKind.u64.wrap (t117 / 67108864)) (Go.bits .and .u64 (shr .u64 a1 (wrap64 (42 - (wrap64 (6 * x12_1))))) 63)) / 2) 15))))).bind fun t119 => (cipher_mixed.l0 k1 a0 a1 l2 (Go.bits .or .u64 (IntKind.u64.wrap (x7_1 * 16)) t119) (wrap64 (x12_1 + 1)))) else (none)) else (none))) else (none)) = some r := H
        have A5 := Aside0.mk A50
        clear A50
        obtain ⟨ji6, hji6⟩ : ∃ j_ : Int, (wrap64 (42 - (wrap64 (6 * x12_1)))) = j_ := ⟨_, rfl⟩
        replace H : (if 0 ≤ (ji6) then ((cipher_box.f x12_1).bind fun t118 => (if 0 ≤ (IntKind.u64.wrap ((IntKind.u64.wrap (16 * (Go.bits .or .u64 (Go.bits .and .u64 ((Go.bits .xor .u64 (IntKind.u64.wrap (t117 / 67108864)) (Go.bits .and .u64 (shr .u64 a1 (ji6)) 63)) / 16) 2) (Go.bits .and .u64 (Go.bits .xor .u64 (IntKind.u64.wrap (t117 / 67108864)) (Go.bits .and .u64 (shr .u64 a1 (ji6)) 63)) 1)))) + (Go.bits .and .u64 ((Go.bits .xor .u64 (IntKind.u64.wrap (t117 / 67108864)) (Go.bits .and .u64 (shr .u64 a1 (ji6)) 63)) / 2) 15))) then (if (IntKind.u64.wrap ((IntKind.u64.wrap (16 * (Go.bits .or .u64 (Go.bits .and .u64 ((Go.bits .xor .u64 (IntKind.u64.wrap (t117 / 67108864)) (Go.bits .and .u64 (shr .u64 a1 (ji6)) 63)) / 16) 2) (Go.bits .and .u64 (Go.bits .xor .u64 (IntKind.u64.wrap (t117 / 67108864)) (Go.bits .and .u64 (shr .u64 a1 (ji6)) 63)) 1)))) + (Go.bits .and .u64 ((Go.bits .xor .u64 (IntKind.u64.wrap (t117 / 67108864)) (Go.bits .and .u64 (shr .u64 a1 (ji6)) 63)) / 2) 15))) < (t118.size : Int) then ((cipher_sixteenth.f (bt t118 (IntKind.u64.wrap ((IntKind.u64.wrap (16 * (Go.bits .or .u64 (Go.bits .and .u64 ((Go.bits .xor .u64 (IntKind.u64.wrap (t117 / 67108864)) (Go.bits .and .u64 (shr .u64 a1 (ji6)) 63)) / 16) 2) (Go.bits .and .u64 (Go.bits .xor .u64 (IntKind.u64.wrap (t117 / 67108864)) (Go.bits .and .u64 (shr .u64 a1 (ji6)) 63)) 1)))) + (Go.bits .and .u64 ((Go.bits .xor .u64 (IntKind.u64.wrap (t117 / 67108864)) (Go.bits .and .u64 (shr .u64 a1 (ji6)) 63)) / 2) 15))))).bind fun t119 => (cipher_mixed.l0 k1 a0 a1 l2 (Go.bits .or .u64 (IntKind.u64.wrap (x7_1 * 16)) t119) (wrap64 (x12_1 + 1)))) else (none)) else (none))) else (none)) = some r := by first | (rw [hji6] at H; exact H) | (simp only [hji6] at H ⊢; exact H)
        (try rw [hji6] at A5)
        have hji6w : (IntKind.i64.wrap (42 - (wrap64 (6 * x12_1)))) = ji6 := (i64_w _).trans hji6
        by_cases c7 : 0 ≤ (ji6)
        · rw [if_pos c7] at H
          have c7b0 := eq_true c7
          have c7b1 : decide (0 ≤ (ji6)) = true := decide_eq_true c7
          clear c7
          obtain ⟨ji8, hji8⟩ : ∃ j_ : Int, (shr .u64 a1 (ji6)) = j_ := ⟨_, rfl⟩
          replace H : ((cipher_box.f x12_1).bind fun t118 => (if 0 ≤ (IntKind.u64.wrap ((IntKind.u64.wrap (16 * (Go.bits .or .u64 (Go.bits .and .u64 ((Go.bits .xor .u64 (IntKind.u64.wrap (t117 / 67108864)) (Go.bits .and .u64 (ji8) 63)) / 16) 2) (Go.bits .and .u64 (Go.bits .xor .u64 (IntKind.u64.wrap (t117 / 67108864)) (Go.bits .and .u64 (ji8) 63)) 1)))) + (Go.bits .and .u64 ((Go.bits .xor .u64 (IntKind.u64.wrap (t117 / 67108864)) (Go.bits .and .u64 (ji8) 63)) / 2) 15))) then (if (IntKind.u64.wrap ((IntKind.u64.wrap (16 * (Go.bits .or .u64 (Go.bits .and .u64 ((Go.bits .xor .u64 (IntKind.u64.wrap (t117 / 67108864)) (Go.bits .and .u64 (ji8) 63)) / 16) 2) (Go.bits .and .u64 (Go.bits .xor .u64 (IntKind.u64.wrap (t117 / 67108864)) (Go.bits .and .u64 (ji8) 63)) 1)))) + (Go.bits .and .u64 ((Go.bits .xor .u64 (IntKind.u64.wrap (t117 / 67108864)) (Go.bits .and .u64 (ji8) 63)) / 2) 15))) < (t118.size : Int) then ((cipher_sixteenth.f (bt t118 (IntKind.u64.wrap ((IntKind.u64.wrap (16 * (Go.bits .or .u64 (Go.bits .and .u64 ((Go.bits .xor .u64 (IntKind.u64.wrap (t117 / 67108864)) (Go.bits .and .u64 (ji8) 63)) / 16) 2) (Go.bits .and .u64 (Go.bits .xor .u64 (IntKind.u64.wrap (t117 / 67108864)) (Go.bits .and .u64 (ji8) 63)) 1)))) + (Go.bits .and .u64 ((Go.bits .xor .u64 (IntKind.u64.wrap (t117 / 67108864)) (Go.bits .and .u64 (ji8) 63)) / 2) 15))))).bind fun t119 => (cipher_mixed.l0 k1 a0 a1 l2 (Go.bits .or .u64 (IntKind.u64.wrap (x7_1 * 16)) t119) (wrap64 (x12_1 + 1)))) else (none)) else (none))) = some r := by first | (rw [hji8] at H; exact H) | (simp only [hji8] at H ⊢; exact H)
          (try rw [hji8] at A5)
          have hji8_ : (a1 / 2 ^ min (ji6).toNat 64) = ji8 := hji8
          have hji8z : (ji6) ≤ 64 → (a1 / 2 ^ (ji6).toNat) = ji8 := shr_small hji8
          replace H := Option.bind_eq_some_iff.mp H
          obtain ⟨t118, A90, H⟩ := H
          replace H : (if 0 ≤ (IntKind.u64.wrap ((IntKind.u64.wrap (16 * (Go.bits .or .u64 (Go.bits .and .u64 ((Go.bits .xor .u64 (IntKind.u64.wrap (t117 / 67108864)) (Go.bits .and .u64 (ji8) 63)) / 16) 2) (Go.bits .and .u64 (Go.bits .xor .u64 (IntKind.u64.wrap (t117 / 67108864)) (Go.bits .and .u64 (ji8) 63)) 1)))) + (Go.bits .and .u64 ((Go.bits .xor .u64 (IntKind.u64.wrap (t117 / 67108864)) (Go.bits .and .u64 (ji8) 63)) / 2) 15))) then (if (IntKind.u64.wrap ((IntKind.u64.wrap (16 * (Go.bits .or .u64 (Go.bits .and .u64 ((Go.bits .xor .u64 (IntKind.u64.wrap (t117 / 67108864)) (Go.bits .and .u64 (ji8) 63)) / 16) 2) (Go.bits .and .u64 (Go.bits .xor .u64 (IntKind.u64.wrap (t117 / 67108864)) (Go.bits .and .u64 (ji8) 63)) 1)))) + (Go.bits .and .u64 ((Go.bits .xor .u64 (IntKind.u64.wrap (t117 / 67108864)) (Go.bits .and .u64 (ji8) 63)) / 2) 15))) < (t118.size : Int) then ((cipher_sixteenth.f (bt t118 (IntKind.u64.wrap ((IntKind.u64.wrap (16 * (Go.bits .or .u64 (Go.bits .and .u64 ((Go.bits .xor .u64 (IntKind.u64.wrap (t117 / 67108864)) (Go.bits .and .u64 (ji8) 63)) / 16) 2) (Go.bits .and .u64 (Go.bits .xor .u64 (IntKind.u64.wrap (t117 / 67108864)) (Go.bits .and .u64 (ji8) 63)) 1)))) + (Go.bits .and .u64 ((Go.bits .xor .u64 (IntKind.u64.wrap (t117 / 67108864)) (Go.bits .and .u64 (ji8) 63)) / 2) 15))))).bind fun t119 => (cipher_mixed.l0 k1 a0 a1 l2 (Go.bits .or .u64 (IntKind.u64.wrap (x7_1 * 16)) t119) (wrap64 (x12_1 + 1)))) else (none)) else (none)) = some r := H
          have A9 := Aside0.mk A90
          clear A90
          obtain ⟨ji10, hji10⟩ : ∃ j_ : Int, (IntKind.u64.wrap ((IntKind.u64.wrap (16 * (Go.bits .or .u64 (Go.bits .and .u64 ((Go.bits .xor .u64 (IntKind.u64.wrap (t117 / 67108864)) (Go.bits .and .u64 (ji8) 63)) / 16) 2) (Go.bits .and .u64 (Go.bits .xor .u64 (IntKind.u64.wrap (t117 / 67108864)) (Go.bits .and .u64 (ji8) 63)) 1)))) + (Go.bits .and .u64 ((Go.bits .xor .u64 (IntKind.u64.wrap (t117 / 67108864)) (Go.bits .and .u64 (ji8) 63)) / 2) 15))) = j_ := ⟨_, rfl⟩
          replace H : (if 0 ≤ (ji10) then (if (ji10) < (t118.size : Int) then ((cipher_sixteenth.f (bt t118 (ji10))).bind fun t119 => (cipher_mixed.l0 k1 a0 a1 l2 (Go.bits .or .u64 (IntKind.u64.wrap (x7_1 * 16)) t119) (wrap64 (x12_1 + 1)))) else (none)) else (none)) = some r := by first | (rw [hji10] at H; exact H) | (simp only [hji10] at H ⊢; exact H)
          (try rw [hji10] at A5)
          (try rw [hji10] at A9)
          by_cases c11 : 0 ≤ (ji10)
          · rw [if_pos c11] at H
            have c11b0 : decide (0 ≤ (ji10)) = true := decide_eq_true c11
            clear c11
            by_cases c12 : (ji10) < (t118.size : Int)
            · rw [if_pos c12] at H
              have c12b0 : decide ((ji10) < (t118.size : Int)) = true := decide_eq_true c12
              clear c12
              replace H := Option.bind_eq_some_iff.mp H
              obtain ⟨t119, A140, H⟩ := H
              replace H : (cipher_mixed.l0 k1 a0 a1 l2 (Go.bits .or .u64 (IntKind.u64.wrap (x7_1 * 16)) t119) (wrap64 (x12_1 + 1))) = some r := H
              have A14 := Aside0.mk A140
              clear A140
              have H' := Aside0.mk H
              clear H
              go_wp2_with (first | (go_at_call 108; (with_reducible refine (bits_RotateLeft32.calls a0 (wrap64 ((wrap64 (4 * x12_1)) - 1)) t117 _ A5.out).mono ?_); rintro e w' ⟨rfl, ⟨nd, rfl⟩⟩; (try first | exact ⟨rfl, _, World.drewN_drewN _ _ _⟩ | exact ⟨rfl, _, Eq.trans (World.drewN_drewN _ _ _) (congrArg (World.drewN _) (Nat.add_assoc _ _ _))⟩)) | (go_at_call 110; (with_reducible refine (cipher_box.calls x12_1 t118 _ A9.out).mono ?_); rintro e w' ⟨rfl, ⟨nd, rfl⟩⟩; (try first | exact ⟨rfl, _, World.drewN_drewN _ _ _⟩ | exact ⟨rfl, _, Eq.trans (World.drewN_drewN _ _ _) (congrArg (World.drewN _) (Nat.add_assoc _ _ _))⟩); have p13 : 0 ≤ ((ji10) : Int) := of_decide_eq_true (by first | (with_reducible assumption) | assumption); have q13 : (ji10) < (t118.size : Int) := of_decide_eq_true (by first | (with_reducible assumption) | assumption); have hx13 := bt_at t118 (ji10); replace p13 := eq_true p13; replace q13 := eq_true q13) | (go_at_call 109; (with_reducible refine (cipher_sixteenth.calls (bt t118 (ji10)) t119 _ A14.out).mono ?_); rintro e w' ⟨rfl, ⟨nd, rfl⟩⟩; (try first | exact ⟨rfl, _, World.drewN_drewN _ _ _⟩ | exact ⟨rfl, _, Eq.trans (World.drewN_drewN _ _ _) (congrArg (World.drewN _) (Nat.add_assoc _ _ _))⟩)))
              repeat (go_quiet (first | (go_at_call 108; (with_reducible refine (bits_RotateLeft32.calls a0 (wrap64 ((wrap64 (4 * x12_1)) - 1)) t117 _ A5.out).mono ?_); rintro e w' ⟨rfl, ⟨nd, rfl⟩⟩; (try first | exact ⟨rfl, _, World.drewN_drewN _ _ _⟩ | exact ⟨rfl, _, Eq.trans (World.drewN_drewN _ _ _) (congrArg (World.drewN _) (Nat.add_assoc _ _ _))⟩)) | (go_at_call 110; (with_reducible refine (cipher_box.calls x12_1 t118 _ A9.out).mono ?_); rintro e w' ⟨rfl, ⟨nd, rfl⟩⟩; (try first | exact ⟨rfl, _, World.drewN_drewN _ _ _⟩ | exact ⟨rfl, _, Eq.trans (World.drewN_drewN _ _ _) (congrArg (World.drewN _) (Nat.add_assoc _ _ _))⟩); have p13 : 0 ≤ ((ji10) : Int) := of_decide_eq_true (by first | (with_reducible assumption) | assumption); have q13 : (ji10) < (t118.size : Int) := of_decide_eq_true (by first | (with_reducible assumption) | assumption); have hx13 := bt_at t118 (ji10); replace p13 := eq_true p13; replace q13 := eq_true q13) | (go_at_call 109; (with_reducible refine (cipher_sixteenth.calls (bt t118 (ji10)) t119 _ A14.out).mono ?_); rintro e w' ⟨rfl, ⟨nd, rfl⟩⟩; (try first | exact ⟨rfl, _, World.drewN_drewN _ _ _⟩ | exact ⟨rfl, _, Eq.trans (World.drewN_drewN _ _ _) (congrArg (World.drewN _) (Nat.add_assoc _ _ _))⟩))); try go_wp2_with (first | (go_at_call 108; (with_reducible refine (bits_RotateLeft32.calls a0 (wrap64 ((wrap64 (4 * x12_1)) - 1)) t117 _ A5.out).mono ?_); rintro e w' ⟨rfl, ⟨nd, rfl⟩⟩; (try first | exact ⟨rfl, _, World.drewN_drewN _ _ _⟩ | exact ⟨rfl, _, Eq.trans (World.drewN_drewN _ _ _) (congrArg (World.drewN _) (Nat.add_assoc _ _ _))⟩)) | (go_at_call 110; (with_reducible refine (cipher_box.calls x12_1 t118 _ A9.out).mono ?_); rintro e w' ⟨rfl, ⟨nd, rfl⟩⟩; (try first | exact ⟨rfl, _, World.drewN_drewN _ _ _⟩ | exact ⟨rfl, _, Eq.trans (World.drewN_drewN _ _ _) (congrArg (World.drewN _) (Nat.add_assoc _ _ _))⟩); have p13 : 0 ≤ ((ji10) : Int) := of_decide_eq_true (by first | (with_reducible assumption) | assumption); have q13 : (ji10) < (t118.size : Int) := of_decide_eq_true (by first | (with_reducible assumption) | assumption); have hx13 := bt_at t118 (ji10); replace p13 := eq_true p13; replace q13 := eq_true q13) | (go_at_call 109; (with_reducible refine (cipher_sixteenth.calls (bt t118 (ji10)) t119 _ A14.out).mono ?_); rintro e w' ⟨rfl, ⟨nd, rfl⟩⟩; (try first | exact ⟨rfl, _, World.drewN_drewN _ _ _⟩ | exact ⟨rfl, _, Eq.trans (World.drewN_drewN _ _ _) (congrArg (World.drewN _) (Nat.add_assoc _ _ _))⟩))))
              go_roundg k1
              case measure => have := HK1.out; omega
              case rel => exact ⟨(Go.bits .or .u64 (IntKind.u64.wrap (x7_1 * 16)) t119), (wrap64 (x12_1 + 1)), (by first | rfl | (simp; done) | (simp [*]; done)), (by first | rfl | (simp; done) | (simp [*]; done)), H', ⟨by have := HK1.out; omega⟩, by repeat (first | exact Drawn0.refl _ | apply Drawn0.step)⟩
            · rw [if_neg c12] at H
              exact absurd H (by simp)
          · rw [if_neg c11] at H
            exact absurd H (by simp)
        · rw [if_neg c7] at H
          exact absurd H (by simp)
      · rw [if_neg c4] at H
        have c4b0 : decide (x12_1 < 8) = false := decide_eq_false c4
        clear c4
        replace H := Option.bind_eq_some_iff.mp H
        obtain ⟨t120, A150, H⟩ := H
        replace H : (some ((t120) % 4294967296)) = some r := H
        have A15 := Aside0.mk A150
        clear A150
        obtain rfl := Option.some.inj H
        go_wp2_with (first | (go_at_call 82; (with_reducible refine (cipher_take.calls k1 _ _ l2 x7_1 32 t120 _ ?side1 ?side2 A15.out).mono ?_); (case side1 => repeat (first | exact HR2.out | (with_reducible refine Kd.C_alloc ?_ _) | (with_reducible refine Kd.C_drewN ?_ _) | (with_reducible refine Kd.C_drew ?_))); (case side2 => exact HC2.out); rintro e w' ⟨rfl, ⟨nd, rfl⟩⟩; (try first | exact ⟨rfl, _, World.drewN_drewN _ _ _⟩ | exact ⟨rfl, _, Eq.trans (World.drewN_drewN _ _ _) (congrArg (World.drewN _) (Nat.add_assoc _ _ _))⟩)))
        repeat (go_quiet (first | (go_at_call 82; (with_reducible refine (cipher_take.calls k1 _ _ l2 x7_1 32 t120 _ ?side1 ?side2 A15.out).mono ?_); (case side1 => repeat (first | exact HR2.out | (with_reducible refine Kd.C_alloc ?_ _) | (with_reducible refine Kd.C_drewN ?_ _) | (with_reducible refine Kd.C_drew ?_))); (case side2 => exact HC2.out); rintro e w' ⟨rfl, ⟨nd, rfl⟩⟩; (try first | exact ⟨rfl, _, World.drewN_drewN _ _ _⟩ | exact ⟨rfl, _, Eq.trans (World.drewN_drewN _ _ _) (congrArg (World.drewN _) (Nat.add_assoc _ _ _))⟩))); try go_wp2_with (first | (go_at_call 82; (with_reducible refine (cipher_take.calls k1 _ _ l2 x7_1 32 t120 _ ?side1 ?side2 A15.out).mono ?_); (case side1 => repeat (first | exact HR2.out | (with_reducible refine Kd.C_alloc ?_ _) | (with_reducible refine Kd.C_drewN ?_ _) | (with_reducible refine Kd.C_drew ?_))); (case side2 => exact HC2.out); rintro e w' ⟨rfl, ⟨nd, rfl⟩⟩; (try first | exact ⟨rfl, _, World.drewN_drewN _ _ _⟩ | exact ⟨rfl, _, Eq.trans (World.drewN_drewN _ _ _) (congrArg (World.drewN _) (Nat.add_assoc _ _ _))⟩))))
        go_ret
        exact ⟨by first | rfl | (simp; done) | (simp [*]; done), by repeat (first | exact Drawn0.refl _ | apply Drawn0.step)⟩

/-! ### cipher_leave: function 108 -/
def cipher_leave.f  : Option (List Int) := some (([40, 8, 48, 16, 56, 24, 64, 32, 39, 7, 47, 15, 55, 23, 63, 31, 38, 6, 46, 14, 54, 22, 62, 30, 37, 5, 45, 13, 53, 21, 61, 29, 36, 4, 44, 12, 52, 20, 60, 28, 35, 3, 43, 11, 51, 19, 59, 27, 34, 2, 42, 10, 50, 18, 58, 26, 33, 1, 41, 9, 49, 17, 57, 25] : List Int))
set_option maxHeartbeats 8000000 in
set_option maxRecDepth 100000 in
theorem cipher_leave.calls  (r : List Int) (w : World) (h : cipher_leave.f  = some r) :
    Calls Tryz.prog 97 #[] w fun e w' => ∃ v0_ : Value, e = .returned (v0_) ∧ Kd.R (Kd.int .u8) 5 w' w.heap.size (fun _ => True) v0_ r ∧ Below w.heap.size w w' := by
  have HB := Aside0.mk (Below.refl w.heap.size w)
  have H : (some (([40, 8, 48, 16, 56, 24, 64, 32, 39, 7, 47, 15, 55, 23, 63, 31, 38, 6, 46, 14, 54, 22, 62, 30, 37, 5, 45, 13, 53, 21, 61, 29, 36, 4, 44, 12, 52, 20, 60, 28, 35, 3, 43, 11, 51, 19, 59, 27, 34, 2, 42, 10, 50, 18, 58, 26, 33, 1, 41, 9, 49, 17, 57, 25] : List Int))) = some r := h
  clear h
  obtain ⟨y121, hy121⟩ : ∃ y_ : List Int, y_ = (([40, 8, 48, 16, 56, 24, 64, 32, 39, 7, 47, 15, 55, 23, 63, 31, 38, 6, 46, 14, 54, 22, 62, 30, 37, 5, 45, 13, 53, 21, 61, 29, 36, 4, 44, 12, 52, 20, 60, 28, 35, 3, 43, 11, 51, 19, 59, 27, 34, 2, 42, 10, 50, 18, 58, 26, 33, 1, 41, 9, 49, 17, 57, 25] : List Int)) := ⟨_, rfl⟩
  replace H : (some y121) = some r := by first | (rw [hy121]; with_reducible exact H) | (have H2_ := (Option.bind_some _ _).symm.trans H; rw [hy121]; with_reducible exact H2_) | (have H2_ := (Option.bind_some _ _).symm.trans H; with_reducible exact H2_) | with_reducible exact H | (rw [hy121]; exact H) | exact H
  have Ny121 := Aside0.mk hy121
  clear hy121
  obtain rfl := Option.some.inj H
  go_enter Tryz.func97, Tryz.ntmps97
  go_wp2_with (first | ((with_reducible refine gate_dst (N := 1) rfl ?_); refine Kd.R_lit (Kd.int .u8) _ 5 ?hg (N := 1) ?hd (xs := ([40, 8, 48, 16, 56, 24, 64, 32, 39, 7, 47, 15, 55, 23, 63, 31, 38, 6, 46, 14, 54, 22, 62, 30, 37, 5, 45, 13, 53, 21, 61, 29, 36, 4, 44, 12, 52, 20, 60, 28, 35, 3, 43, 11, 51, 19, 59, 27, 34, 2, 42, 10, 50, 18, 58, 26, 33, 1, 41, 9, 49, 17, 57, 25] : List Int)) (inner := [.int .u8 40, .int .u8 8, .int .u8 48, .int .u8 16, .int .u8 56, .int .u8 24, .int .u8 64, .int .u8 32, .int .u8 39, .int .u8 7, .int .u8 47, .int .u8 15, .int .u8 55, .int .u8 23, .int .u8 63, .int .u8 31, .int .u8 38, .int .u8 6, .int .u8 46, .int .u8 14, .int .u8 54, .int .u8 22, .int .u8 62, .int .u8 30, .int .u8 37, .int .u8 5, .int .u8 45, .int .u8 13, .int .u8 53, .int .u8 21, .int .u8 61, .int .u8 29, .int .u8 36, .int .u8 4, .int .u8 44, .int .u8 12, .int .u8 52, .int .u8 20, .int .u8 60, .int .u8 28, .int .u8 35, .int .u8 3, .int .u8 43, .int .u8 11, .int .u8 51, .int .u8 19, .int .u8 59, .int .u8 27, .int .u8 34, .int .u8 2, .int .u8 42, .int .u8 10, .int .u8 50, .int .u8 18, .int .u8 58, .int .u8 26, .int .u8 33, .int .u8 1, .int .u8 41, .int .u8 9, .int .u8 49, .int .u8 17, .int .u8 57, .int .u8 25]) (ok := fun _ => True) (okp := fun _ => True) ?hr ?hp (fun _ hk => hk) trivial (Below.refl _ _) (Nat.le_refl _) (by simp) ?_; (case hd => rfl); (case hg => rfl); (case hr => first | (go_simp; done) | (go_simp; rfl)); (case hp => exact (Reps.one (show Kd.M (Kd.int .u8) _ _ _ 40 [.int .u8 40] from rfl) (Reps.one (show Kd.M (Kd.int .u8) _ _ _ 8 [.int .u8 8] from rfl) (Reps.one (show Kd.M (Kd.int .u8) _ _ _ 48 [.int .u8 48] from rfl) (Reps.one (show Kd.M (Kd.int .u8) _ _ _ 16 [.int .u8 16] from rfl) (Reps.one (show Kd.M (Kd.int .u8) _ _ _ 56 [.int .u8 56] from rfl) (Reps.one (show Kd.M (Kd.int .u8) _ _ _ 24 [.int .u8 24] from rfl) (Reps.one (show Kd.M (Kd.int .u8) _ _ _ 64 [.int .u8 64] from rfl) (Reps.one (show Kd.M (Kd.int .u8) _ _ _ 32 [.int .u8 32] from rfl) (Reps.one (show Kd.M (Kd.int .u8) _ _ _ 39 [.int .u8 39] from rfl) (Reps.one (show Kd.M (Kd.int .u8) _ _ _ 7 [.int .u8 7] from rfl) (Reps.one (show Kd.M (Kd.int .u8) _ _ _ 47 [.int .u8 47] from rfl) (Reps.one (show Kd.M (Kd.int .u8) _ _ _ 15 [.int .u8 15] from rfl) (Reps.one (show Kd.M (Kd.int .u8) _ _ _ 55 [.int .u8 55] from rfl) (Reps.one (show Kd.M (Kd.int .u8) _ _ _ 23 [.int .u8 23] from rfl) (Reps.one (show Kd.M (Kd.int .u8) _ _ _ 63 [.int .u8 63] from rfl) (Reps.one (show Kd.M (Kd.int .u8) _ _ _ 31 [.int .u8 31] from rfl) (Reps.one (show Kd.M (Kd.int .u8) _ _ _ 38 [.int .u8 38] from rfl) (Reps.one (show Kd.M (Kd.int .u8) _ _ _ 6 [.int .u8 6] from rfl) (Reps.one (show Kd.M (Kd.int .u8) _ _ _ 46 [.int .u8 46] from rfl) (Reps.one (show Kd.M (Kd.int .u8) _ _ _ 14 [.int .u8 14] from rfl) (Reps.one (show Kd.M (Kd.int .u8) _ _ _ 54 [.int .u8 54] from rfl) (Reps.one (show Kd.M (Kd.int .u8) _ _ _ 22 [.int .u8 22] from rfl) (Reps.one (show Kd.M (Kd.int .u8) _ _ _ 62 [.int .u8 62] from rfl) (Reps.one (show Kd.M (Kd.int .u8) _ _ _ 30 [.int .u8 30] from rfl) (Reps.one (show Kd.M (Kd.int .u8) _ _ _ 37 [.int .u8 37] from rfl) (Reps.one (show Kd.M (Kd.int .u8) _ _ _ 5 [.int .u8 5] from rfl) (Reps.one (show Kd.M (Kd.int .u8) _ _ _ 45 [.int .u8 45] from rfl) (Reps.one (show Kd.M (Kd.int .u8) _ _ _ 13 [.int .u8 13] from rfl) (Reps.one (show Kd.M (Kd.int .u8) _ _ _ 53 [.int .u8 53] from rfl) (Reps.one (show Kd.M (Kd.int .u8) _ _ _ 21 [.int .u8 21] from rfl) (Reps.one (show Kd.M (Kd.int .u8) _ _ _ 61 [.int .u8 61] from rfl) (Reps.one (show Kd.M (Kd.int .u8) _ _ _ 29 [.int .u8 29] from rfl) (Reps.one (show Kd.M (Kd.int .u8) _ _ _ 36 [.int .u8 36] from rfl) (Reps.one (show Kd.M (Kd.int .u8) _ _ _ 4 [.int .u8 4] from rfl) (Reps.one (show Kd.M (Kd.int .u8) _ _ _ 44 [.int .u8 44] from rfl) (Reps.one (show Kd.M (Kd.int .u8) _ _ _ 12 [.int .u8 12] from rfl) (Reps.one (show Kd.M (Kd.int .u8) _ _ _ 52 [.int .u8 52] from rfl) (Reps.one (show Kd.M (Kd.int .u8) _ _ _ 20 [.int .u8 20] from rfl) (Reps.one (show Kd.M (Kd.int .u8) _ _ _ 60 [.int .u8 60] from rfl) (Reps.one (show Kd.M (Kd.int .u8) _ _ _ 28 [.int .u8 28] from rfl) (Reps.one (show Kd.M (Kd.int .u8) _ _ _ 35 [.int .u8 35] from rfl) (Reps.one (show Kd.M (Kd.int .u8) _ _ _ 3 [.int .u8 3] from rfl) (Reps.one (show Kd.M (Kd.int .u8) _ _ _ 43 [.int .u8 43] from rfl) (Reps.one (show Kd.M (Kd.int .u8) _ _ _ 11 [.int .u8 11] from rfl) (Reps.one (show Kd.M (Kd.int .u8) _ _ _ 51 [.int .u8 51] from rfl) (Reps.one (show Kd.M (Kd.int .u8) _ _ _ 19 [.int .u8 19] from rfl) (Reps.one (show Kd.M (Kd.int .u8) _ _ _ 59 [.int .u8 59] from rfl) (Reps.one (show Kd.M (Kd.int .u8) _ _ _ 27 [.int .u8 27] from rfl) (Reps.one (show Kd.M (Kd.int .u8) _ _ _ 34 [.int .u8 34] from rfl) (Reps.one (show Kd.M (Kd.int .u8) _ _ _ 2 [.int .u8 2] from rfl) (Reps.one (show Kd.M (Kd.int .u8) _ _ _ 42 [.int .u8 42] from rfl) (Reps.one (show Kd.M (Kd.int .u8) _ _ _ 10 [.int .u8 10] from rfl) (Reps.one (show Kd.M (Kd.int .u8) _ _ _ 50 [.int .u8 50] from rfl) (Reps.one (show Kd.M (Kd.int .u8) _ _ _ 18 [.int .u8 18] from rfl) (Reps.one (show Kd.M (Kd.int .u8) _ _ _ 58 [.int .u8 58] from rfl) (Reps.one (show Kd.M (Kd.int .u8) _ _ _ 26 [.int .u8 26] from rfl) (Reps.one (show Kd.M (Kd.int .u8) _ _ _ 33 [.int .u8 33] from rfl) (Reps.one (show Kd.M (Kd.int .u8) _ _ _ 1 [.int .u8 1] from rfl) (Reps.one (show Kd.M (Kd.int .u8) _ _ _ 41 [.int .u8 41] from rfl) (Reps.one (show Kd.M (Kd.int .u8) _ _ _ 9 [.int .u8 9] from rfl) (Reps.one (show Kd.M (Kd.int .u8) _ _ _ 49 [.int .u8 49] from rfl) (Reps.one (show Kd.M (Kd.int .u8) _ _ _ 17 [.int .u8 17] from rfl) (Reps.one (show Kd.M (Kd.int .u8) _ _ _ 57 [.int .u8 57] from rfl) (Reps.one (show Kd.M (Kd.int .u8) _ _ _ 25 [.int .u8 25] from rfl) (Reps.none _ _)))))))))))))))))))))))))))))))))))))))))))))))))))))))))))))))))); intro v122 w1 ho2 hb hg_ hnew_; clear hg_ hnew_; (first | rw [← Ny121.out] at ho2 | (simp only [Int.reduceToNat] at ho2; rw [← Ny121.out] at ho2)); have n0_ := Aside0.mk (Kd.R_lower ho2 (below_size (by repeat (first | (with_reducible first | exact HB.out | apply below_alloc | apply pw_below_drewN | apply below_drew1) | exact HB.out)))); have n1_ := Aside0.mk (below_step (by repeat (first | (with_reducible first | exact HB.out | apply below_alloc | apply pw_below_drewN | apply below_drew1) | exact HB.out)) hb); clear HB; have HO123 := n0_; have HB := n1_; clear n0_ n1_; clear hb ho2))
  go_ret
  exact ⟨_, by first | rfl | (simp [errW_none, errW_some] <;> rfl) | (simp [*, errW_none, errW_some] <;> rfl), by (with_reducible repeat (first | apply Kd.R_alloc | apply Kd.R_drewN | apply Kd.R_drew)); exact HO123.out, by repeat (first | (with_reducible first | exact HB.out | apply below_alloc | apply pw_below_drewN | apply below_drew1) | exact HB.out)⟩

end Go.Proofs.YtopobangjpehnaaGreat.Pr
