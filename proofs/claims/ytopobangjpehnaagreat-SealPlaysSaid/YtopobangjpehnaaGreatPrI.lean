/- Functions of the program as plain Lean functions, and that the Go calls come to just these answers: each text below as the kit's print.py wrote it (several laws at once), laid by wip/cutprint.py. -/
import Derived.Test.YtopobangjpehnaaGreatPrA
namespace Go.Proofs.YtopobangjpehnaaGreat.Pr
open Go.RowKit Go.Proofs.YtopobangjpehnaaGreatW.PrintWords Go.Proofs.YtopobangjpehnaaGreatW.PrintLast Go.Proofs.YtopobangjpehnaaGreatW.PrintMore
attribute [local go_sem] max2_int min2_int max_two min_two max_three min_three max_four min_four   -- for this text's walks alone
set_option linter.unusedVariables false
set_option linter.unusedSimpArgs false


/-! ### cipher_Weak: function 42 -/
def cipher_Weak.l0 : Nat → ByteArray → Int → Option (Bool)
  | 0, _, _ => none
  | k + 1, x0, x3 => if x3 < (x0.size : Int) then (if 0 ≤ x3 then (if x3 ≤ (x0.size : Int) then ((cipher_number.f k (x0.extract (x3 : Int).toNat x0.size)).bind fun t279 => (if (Go.bits .andNot .u64 t279 72340172838076673) = 0 then (some true) else (if (Go.bits .andNot .u64 t279 72340172838076673) = 18374403900871474942 then (some true) else (if (Go.bits .andNot .u64 t279 72340172838076673) = 16204198715998662896 then (some true) else (if (Go.bits .andNot .u64 t279 72340172838076673) = 2170205184872812046 then (some true) else (cipher_Weak.l0 k x0 (wrap64 (x3 + 8)))))))) else (none)) else (none)) else (some false)
def cipher_Weak.f (k : Nat) (a0 : ByteArray) : Option (Bool) := (cipher_kind.f a0).bind fun t278 => (if t278 = 0 then (some false) else (cipher_Weak.l0 k a0 0))
theorem cipher_Weak.mono_l : ∀ k, (∀ y0 y1, LeO (cipher_Weak.l0 k y0 y1) (cipher_Weak.l0 (k + 1) y0 y1))
  | 0 => fun _ _ r h => by simp [cipher_Weak.l0] at h
  | k + 1 => by
    have ih0 := cipher_Weak.mono_l k
    · intro y0 y1
      unfold cipher_Weak.l0
      repeat' first
      | (with_reducible exact ih0 _ _)
      | (with_reducible exact cipher_number.mono _ _)
      | (with_reducible exact LeO.refl _)
      | (with_reducible exact LeO.none _)
      | (with_reducible refine LeO.ite ?_ ?_)
      | (with_reducible refine LeO.bind ?_ (fun _ => ?_))
      | exact ih0 _ _
      | exact cipher_number.mono _ _
      | exact LeO.none _
      | refine LeO.ite ?_ ?_
      | refine LeO.bind ?_ (fun _ => ?_)
theorem cipher_Weak.mono : ∀ a0 k, LeO (cipher_Weak.f k a0) (cipher_Weak.f (k + 1) a0) := by
  intro a0 k
  have ih0 := cipher_Weak.mono_l k
  unfold cipher_Weak.f
  repeat' first
      | (with_reducible exact ih0 _ _)
      | (with_reducible exact cipher_number.mono _ _)
      | (with_reducible exact LeO.refl _)
      | (with_reducible exact LeO.none _)
      | (with_reducible refine LeO.ite ?_ ?_)
      | (with_reducible refine LeO.bind ?_ (fun _ => ?_))
      | exact ih0 _ _
      | exact cipher_number.mono _ _
      | exact LeO.none _
      | refine LeO.ite ?_ ?_
      | refine LeO.bind ?_ (fun _ => ?_)
set_option maxHeartbeats 8000000 in
set_option maxRecDepth 100000 in
theorem cipher_Weak.calls (k : Nat) (a0 : ByteArray) (r : Bool) (w : World) (h : cipher_Weak.f k a0 = some r) :
    Calls Tryz.prog 45 #[.string a0] w fun e w' => e = .returned (.bool r) ∧ Drawn0 w w' := by
  have H : ((cipher_kind.f a0).bind fun t278 => (if t278 = 0 then (some false) else (cipher_Weak.l0 k a0 0))) = some r := h
  clear h
  replace H := Option.bind_eq_some_iff.mp H
  obtain ⟨t278, A20, H⟩ := H
  replace H : (if t278 = 0 then (some false) else (cipher_Weak.l0 k a0 0)) = some r := H
  have A2 := Aside0.mk A20
  clear A20
  by_cases c3 : t278 = 0
  · rw [if_pos c3] at H
    have c3b0 : (t278 == 0) = true := beq_iff_eq.mpr c3
    have c3b1 : (t278 != 0) = false := bne_eq_false_iff_eq.mpr c3
    clear c3
    obtain rfl := Option.some.inj H
    go_enter Tryz.func45, Tryz.ntmps45
    go_wp2_with (first | ((with_reducible refine gate_callee (f := 57) rfl ?_); refine goesL_ (some 5) rfl rfl Tryz.func57 (by kernel_rfl) rfl #[.string a0] rfl (by (try simp only [List.map_toArray, List.map_cons, List.map_nil]); first | done | rfl | (simp only [List.length_drop, List.length_take]; rfl)) ?_; (with_reducible refine (cipher_kind.calls a0 t278 _ A2.out).mono ?_); rintro e w' ⟨rfl, ⟨nd, rfl⟩⟩; refine ⟨_, rfl, ?_⟩))
    go_ret
    exact ⟨by first | rfl | (simp; done) | (simp [*]; done), by repeat (first | exact Drawn0.refl _ | apply Drawn0.step)⟩
  · rw [if_neg c3] at H
    have c3b0 : (t278 == 0) = false := beq_eq_false_iff_ne.mpr c3
    have c3b1 : (t278 != 0) = true := bne_iff_ne.mpr c3
    have H' := Aside0.mk H
    clear H
    go_enter Tryz.func45, Tryz.ntmps45
    go_wp2_with (first | ((with_reducible refine gate_callee (f := 57) rfl ?_); refine goesL_ (some 5) rfl rfl Tryz.func57 (by kernel_rfl) rfl #[.string a0] rfl (by (try simp only [List.map_toArray, List.map_cons, List.map_nil]); first | done | rfl | (simp only [List.length_drop, List.length_take]; rfl)) ?_; (with_reducible refine (cipher_kind.calls a0 t278 _ A2.out).mono ?_); rintro e w' ⟨rfl, ⟨nd, rfl⟩⟩; refine ⟨_, rfl, ?_⟩))
    go_loopg [3] k (fun kq v3 w' => ∃ (x3_1 : Int), v3 = .int .i64 x3_1 ∧ Aside0 (cipher_Weak.l0 kq a0 x3_1 = some r) ∧ Aside0 (kq ≤ k) ∧ Drawn0 w w')
    case atStart => exact ⟨(0), (by first | rfl | (simp; done) | (simp [*]; done)), H', ⟨Nat.le_refl _⟩, by repeat (first | exact Drawn0.refl _ | apply Drawn0.step)⟩
    case round =>
      clear H'
      try clear p2
      try clear c3
      try clear c3b0
      try clear c3b1
      obtain ⟨x3_1, rfl, HA, HK1, ⟨m1, rfl⟩⟩ := hrel
      cases gk with
      | zero => exact absurd HA.out (by simp [cipher_Weak.l0])
      | succ k1 =>
        have H := HA.out
        clear HA
        simp only [cipher_Weak.l0] at H
        by_cases c4 : x3_1 < (a0.size : Int)
        · rw [if_pos c4] at H
          have c4b0 : decide (x3_1 < (a0.size : Int)) = true := decide_eq_true c4
          clear c4
          by_cases c5 : 0 ≤ x3_1
          · rw [if_pos c5] at H
            have c5b0 := eq_true c5
            have c5b1 : decide (0 ≤ x3_1) = true := decide_eq_true c5
            clear c5
            by_cases c6 : x3_1 ≤ (a0.size : Int)
            · rw [if_pos c6] at H
              have c6b0 := eq_true c6
              have c6b1 : decide (x3_1 ≤ (a0.size : Int)) = true := decide_eq_true c6
              clear c6
              replace H := Option.bind_eq_some_iff.mp H
              obtain ⟨t279, A70, H⟩ := H
              replace H : (if (Go.bits .andNot .u64 t279 72340172838076673) = 0 then (some true) else (if (Go.bits .andNot .u64 t279 72340172838076673) = 18374403900871474942 then (some true) else (if (Go.bits .andNot .u64 t279 72340172838076673) = 16204198715998662896 then (some true) else (if (Go.bits .andNot .u64 t279 72340172838076673) = 2170205184872812046 then (some true) else (cipher_Weak.l0 k1 a0 (wrap64 (x3_1 + 8))))))) = some r := H
              have A7 := Aside0.mk A70
              clear A70
              by_cases c8 : (Go.bits .andNot .u64 t279 72340172838076673) = 0
              · rw [if_pos c8] at H
                have c8b0 : ((Go.bits .andNot .u64 t279 72340172838076673) == 0) = true := beq_iff_eq.mpr c8
                have c8b1 : ((Go.bits .andNot .u64 t279 72340172838076673) != 0) = false := bne_eq_false_iff_eq.mpr c8
                clear c8
                obtain rfl := Option.some.inj H
                go_wp2_with (first | ((with_reducible refine gate_callee (f := 59) rfl ?_); refine goesL_ (some 16) rfl rfl Tryz.func59 (by kernel_rfl) rfl #[.string (a0.extract (x3_1 : Int).toNat a0.size)] rfl (by (try simp only [List.map_toArray, List.map_cons, List.map_nil]); first | done | rfl | (simp only [List.length_drop, List.length_take]; rfl)) ?_; (with_reducible refine (cipher_number.calls k1 (a0.extract (x3_1 : Int).toNat a0.size) t279 _ A7.out).mono ?_); rintro e w' ⟨rfl, ⟨nd, rfl⟩⟩; refine ⟨_, rfl, ?_⟩))
                go_ret
                exact ⟨by first | rfl | (simp; done) | (simp [*]; done), by repeat (first | exact Drawn0.refl _ | apply Drawn0.step)⟩
              · rw [if_neg c8] at H
                have c8b0 : ((Go.bits .andNot .u64 t279 72340172838076673) == 0) = false := beq_eq_false_iff_ne.mpr c8
                have c8b1 : ((Go.bits .andNot .u64 t279 72340172838076673) != 0) = true := bne_iff_ne.mpr c8
                by_cases c9 : (Go.bits .andNot .u64 t279 72340172838076673) = 18374403900871474942
                · rw [if_pos c9] at H
                  have c9b0 : ((Go.bits .andNot .u64 t279 72340172838076673) == 18374403900871474942) = true := beq_iff_eq.mpr c9
                  have c9b1 : ((Go.bits .andNot .u64 t279 72340172838076673) != 18374403900871474942) = false := bne_eq_false_iff_eq.mpr c9
                  clear c9
                  obtain rfl := Option.some.inj H
                  go_wp2_with (first | ((with_reducible refine gate_callee (f := 59) rfl ?_); refine goesL_ (some 16) rfl rfl Tryz.func59 (by kernel_rfl) rfl #[.string (a0.extract (x3_1 : Int).toNat a0.size)] rfl (by (try simp only [List.map_toArray, List.map_cons, List.map_nil]); first | done | rfl | (simp only [List.length_drop, List.length_take]; rfl)) ?_; (with_reducible refine (cipher_number.calls k1 (a0.extract (x3_1 : Int).toNat a0.size) t279 _ A7.out).mono ?_); rintro e w' ⟨rfl, ⟨nd, rfl⟩⟩; refine ⟨_, rfl, ?_⟩))
                  go_ret
                  exact ⟨by first | rfl | (simp; done) | (simp [*]; done), by repeat (first | exact Drawn0.refl _ | apply Drawn0.step)⟩
                · rw [if_neg c9] at H
                  have c9b0 : ((Go.bits .andNot .u64 t279 72340172838076673) == 18374403900871474942) = false := beq_eq_false_iff_ne.mpr c9
                  have c9b1 : ((Go.bits .andNot .u64 t279 72340172838076673) != 18374403900871474942) = true := bne_iff_ne.mpr c9
                  by_cases c10 : (Go.bits .andNot .u64 t279 72340172838076673) = 16204198715998662896
                  · rw [if_pos c10] at H
                    have c10b0 : ((Go.bits .andNot .u64 t279 72340172838076673) == 16204198715998662896) = true := beq_iff_eq.mpr c10
                    have c10b1 : ((Go.bits .andNot .u64 t279 72340172838076673) != 16204198715998662896) = false := bne_eq_false_iff_eq.mpr c10
                    clear c10
                    obtain rfl := Option.some.inj H
                    go_wp2_with (first | ((with_reducible refine gate_callee (f := 59) rfl ?_); refine goesL_ (some 16) rfl rfl Tryz.func59 (by kernel_rfl) rfl #[.string (a0.extract (x3_1 : Int).toNat a0.size)] rfl (by (try simp only [List.map_toArray, List.map_cons, List.map_nil]); first | done | rfl | (simp only [List.length_drop, List.length_take]; rfl)) ?_; (with_reducible refine (cipher_number.calls k1 (a0.extract (x3_1 : Int).toNat a0.size) t279 _ A7.out).mono ?_); rintro e w' ⟨rfl, ⟨nd, rfl⟩⟩; refine ⟨_, rfl, ?_⟩))
                    go_ret
                    exact ⟨by first | rfl | (simp; done) | (simp [*]; done), by repeat (first | exact Drawn0.refl _ | apply Drawn0.step)⟩
                  · rw [if_neg c10] at H
                    have c10b0 : ((Go.bits .andNot .u64 t279 72340172838076673) == 16204198715998662896) = false := beq_eq_false_iff_ne.mpr c10
                    have c10b1 : ((Go.bits .andNot .u64 t279 72340172838076673) != 16204198715998662896) = true := bne_iff_ne.mpr c10
                    by_cases c11 : (Go.bits .andNot .u64 t279 72340172838076673) = 2170205184872812046
                    · rw [if_pos c11] at H
                      have c11b0 : ((Go.bits .andNot .u64 t279 72340172838076673) == 2170205184872812046) = true := beq_iff_eq.mpr c11
                      have c11b1 : ((Go.bits .andNot .u64 t279 72340172838076673) != 2170205184872812046) = false := bne_eq_false_iff_eq.mpr c11
                      clear c11
                      obtain rfl := Option.some.inj H
                      go_wp2_with (first | ((with_reducible refine gate_callee (f := 59) rfl ?_); refine goesL_ (some 16) rfl rfl Tryz.func59 (by kernel_rfl) rfl #[.string (a0.extract (x3_1 : Int).toNat a0.size)] rfl (by (try simp only [List.map_toArray, List.map_cons, List.map_nil]); first | done | rfl | (simp only [List.length_drop, List.length_take]; rfl)) ?_; (with_reducible refine (cipher_number.calls k1 (a0.extract (x3_1 : Int).toNat a0.size) t279 _ A7.out).mono ?_); rintro e w' ⟨rfl, ⟨nd, rfl⟩⟩; refine ⟨_, rfl, ?_⟩))
                      go_ret
                      exact ⟨by first | rfl | (simp; done) | (simp [*]; done), by repeat (first | exact Drawn0.refl _ | apply Drawn0.step)⟩
                    · rw [if_neg c11] at H
                      have c11b0 : ((Go.bits .andNot .u64 t279 72340172838076673) == 2170205184872812046) = false := beq_eq_false_iff_ne.mpr c11
                      have c11b1 : ((Go.bits .andNot .u64 t279 72340172838076673) != 2170205184872812046) = true := bne_iff_ne.mpr c11
                      have H' := Aside0.mk H
                      clear H
                      go_wp2_with (first | ((with_reducible refine gate_callee (f := 59) rfl ?_); refine goesL_ (some 16) rfl rfl Tryz.func59 (by kernel_rfl) rfl #[.string (a0.extract (x3_1 : Int).toNat a0.size)] rfl (by (try simp only [List.map_toArray, List.map_cons, List.map_nil]); first | done | rfl | (simp only [List.length_drop, List.length_take]; rfl)) ?_; (with_reducible refine (cipher_number.calls k1 (a0.extract (x3_1 : Int).toNat a0.size) t279 _ A7.out).mono ?_); rintro e w' ⟨rfl, ⟨nd, rfl⟩⟩; refine ⟨_, rfl, ?_⟩))
                      go_roundg k1
                      case measure => have := HK1.out; omega
                      case rel => exact ⟨(wrap64 (x3_1 + 8)), (by first | rfl | (simp; done) | (simp [*]; done)), H', ⟨by have := HK1.out; omega⟩, by repeat (first | exact Drawn0.refl _ | apply Drawn0.step)⟩
            · rw [if_neg c6] at H
              exact absurd H (by simp)
          · rw [if_neg c5] at H
            exact absurd H (by simp)
        · rw [if_neg c4] at H
          have c4b0 : decide (x3_1 < (a0.size : Int)) = false := decide_eq_false c4
          clear c4
          obtain rfl := Option.some.inj H
          go_wp2
          go_ret
          exact ⟨by first | rfl | (simp; done) | (simp [*]; done), by repeat (first | exact Drawn0.refl _ | apply Drawn0.step)⟩

end Go.Proofs.YtopobangjpehnaaGreat.Pr
