/- Functions of the program as plain Lean functions, and that the Go calls come to just these answers: each text below as the kit's print.py wrote it (several laws at once), laid by wip/cutprint.py. -/
import Derived.Test.YtopobangjpehnaaGreatPrC
namespace Go.Proofs.YtopobangjpehnaaGreat.Pr
open Go.RowKit Go.Proofs.YtopobangjpehnaaGreatW.PrintWords Go.Proofs.YtopobangjpehnaaGreatW.PrintLast Go.Proofs.YtopobangjpehnaaGreatW.PrintMore
attribute [local go_sem] max2_int min2_int max_two min_two max_three min_three max_four min_four   -- for this text's walks alone
set_option linter.unusedVariables false
set_option linter.unusedSimpArgs false


/-! ### turnstileref3_Weak: function 51 -/
mutual
def turnstileref3_Weak.l0 : Nat → ByteArray → List ByteArray → Int → Option (Bool)
  | 0, _, _, _ => none
  | k + 1, x0, x4, x5 => if x5 < (x0.size : Int) then (turnstileref3_Weak.l1 k x0 x4 x5 0) else (some false)
def turnstileref3_Weak.l1 : Nat → ByteArray → List ByteArray → Int → Int → Option (Bool)
  | 0, _, _, _, _ => none
  | k + 1, x0, x4, x5, x6 => if x6 < 4 then (turnstileref3_Weak.l2 k x0 x4 x5 x6 true 0) else (turnstileref3_Weak.l0 k x0 x4 (wrap64 (x5 + 8)))
def turnstileref3_Weak.l2 : Nat → ByteArray → List ByteArray → Int → Int → Bool → Int → Option (Bool)
  | 0, _, _, _, _, _, _ => none
  | k + 1, x0, x4, x5, x6, x7, x8 => if x8 < 8 then (if x7 = true then (if 0 ≤ (wrap64 (x5 + x8)) then (if (wrap64 (x5 + x8)) < (x0.size : Int) then (if 0 ≤ x6 then (if x6 < (x4.length : Int) then (if 0 ≤ x8 then (if x8 < ((rdOf ByteArray.empty x4 x6).size : Int) then (turnstileref3_Weak.l2 k x0 x4 x5 x6 (((Int.tdiv (bt x0 (wrap64 (x5 + x8))) 2) % 256) == ((Int.tdiv (bt (rdOf ByteArray.empty x4 x6) x8) 2) % 256)) (wrap64 (x8 + 1))) else (none)) else (none)) else (none)) else (none)) else (none)) else (none)) else (turnstileref3_Weak.l2 k x0 x4 x5 x6 false (wrap64 (x8 + 1)))) else (if x7 = true then (some true) else (turnstileref3_Weak.l1 k x0 x4 x5 (wrap64 (x6 + 1))))
end
def turnstileref3_Weak.f (k : Nat) (a0 : ByteArray) : Option (Bool) := (turnstileref3_Length.f a0).bind fun t287 => (if t287 = true then (turnstileref3_Weak.l0 k a0 (([(⟨#[1, 1, 1, 1, 1, 1, 1, 1]⟩ : ByteArray), (⟨#[254, 254, 254, 254, 254, 254, 254, 254]⟩ : ByteArray), (⟨#[224, 224, 224, 224, 241, 241, 241, 241]⟩ : ByteArray), (⟨#[31, 31, 31, 31, 14, 14, 14, 14]⟩ : ByteArray)] : List ByteArray)) 0) else (some false))
theorem turnstileref3_Weak.mono_l : ∀ k, (∀ y0 y1 y2, LeO (turnstileref3_Weak.l0 k y0 y1 y2) (turnstileref3_Weak.l0 (k + 1) y0 y1 y2)) ∧ (∀ y0 y1 y2 y3, LeO (turnstileref3_Weak.l1 k y0 y1 y2 y3) (turnstileref3_Weak.l1 (k + 1) y0 y1 y2 y3)) ∧ (∀ y0 y1 y2 y3 y4 y5, LeO (turnstileref3_Weak.l2 k y0 y1 y2 y3 y4 y5) (turnstileref3_Weak.l2 (k + 1) y0 y1 y2 y3 y4 y5))
  | 0 => ⟨fun _ _ _ r h => by simp [turnstileref3_Weak.l0] at h, fun _ _ _ _ r h => by simp [turnstileref3_Weak.l1] at h, fun _ _ _ _ _ _ r h => by simp [turnstileref3_Weak.l2] at h⟩
  | k + 1 => by
    obtain ⟨ih0, ih1, ih2⟩ := turnstileref3_Weak.mono_l k
    refine ⟨?_, ?_, ?_⟩
    · intro y0 y1 y2
      unfold turnstileref3_Weak.l0
      repeat' first
      | (with_reducible exact ih0 _ _ _)
      | (with_reducible exact ih1 _ _ _ _)
      | (with_reducible exact ih2 _ _ _ _ _ _)
      | (with_reducible exact LeO.refl _)
      | (with_reducible exact LeO.none _)
      | (with_reducible refine LeO.ite ?_ ?_)
      | (with_reducible refine LeO.bind ?_ (fun _ => ?_))
      | exact ih0 _ _ _
      | exact ih1 _ _ _ _
      | exact ih2 _ _ _ _ _ _
      | exact LeO.none _
      | refine LeO.ite ?_ ?_
      | refine LeO.bind ?_ (fun _ => ?_)
    · intro y0 y1 y2 y3
      unfold turnstileref3_Weak.l1
      repeat' first
      | (with_reducible exact ih0 _ _ _)
      | (with_reducible exact ih1 _ _ _ _)
      | (with_reducible exact ih2 _ _ _ _ _ _)
      | (with_reducible exact LeO.refl _)
      | (with_reducible exact LeO.none _)
      | (with_reducible refine LeO.ite ?_ ?_)
      | (with_reducible refine LeO.bind ?_ (fun _ => ?_))
      | exact ih0 _ _ _
      | exact ih1 _ _ _ _
      | exact ih2 _ _ _ _ _ _
      | exact LeO.none _
      | refine LeO.ite ?_ ?_
      | refine LeO.bind ?_ (fun _ => ?_)
    · intro y0 y1 y2 y3 y4 y5
      unfold turnstileref3_Weak.l2
      repeat' first
      | (with_reducible exact ih0 _ _ _)
      | (with_reducible exact ih1 _ _ _ _)
      | (with_reducible exact ih2 _ _ _ _ _ _)
      | (with_reducible exact LeO.refl _)
      | (with_reducible exact LeO.none _)
      | (with_reducible refine LeO.ite ?_ ?_)
      | (with_reducible refine LeO.bind ?_ (fun _ => ?_))
      | exact ih0 _ _ _
      | exact ih1 _ _ _ _
      | exact ih2 _ _ _ _ _ _
      | exact LeO.none _
      | refine LeO.ite ?_ ?_
      | refine LeO.bind ?_ (fun _ => ?_)
theorem turnstileref3_Weak.mono : ∀ a0 k, LeO (turnstileref3_Weak.f k a0) (turnstileref3_Weak.f (k + 1) a0) := by
  intro a0 k
  obtain ⟨ih0, ih1, ih2⟩ := turnstileref3_Weak.mono_l k
  unfold turnstileref3_Weak.f
  repeat' first
      | (with_reducible exact ih0 _ _ _)
      | (with_reducible exact ih1 _ _ _ _)
      | (with_reducible exact ih2 _ _ _ _ _ _)
      | (with_reducible exact LeO.refl _)
      | (with_reducible exact LeO.none _)
      | (with_reducible refine LeO.ite ?_ ?_)
      | (with_reducible refine LeO.bind ?_ (fun _ => ?_))
      | exact ih0 _ _ _
      | exact ih1 _ _ _ _
      | exact ih2 _ _ _ _ _ _
      | exact LeO.none _
      | refine LeO.ite ?_ ?_
      | refine LeO.bind ?_ (fun _ => ?_)
set_option maxHeartbeats 8000000 in
set_option maxRecDepth 100000 in
theorem turnstileref3_Weak.calls (k : Nat) (a0 : ByteArray) (r : Bool) (w : World) (h : turnstileref3_Weak.f k a0 = some r) :
    Calls Tryz.prog 48 #[.string a0] w fun e w' => e = .returned (.bool r) ∧ Below w.heap.size w w' := by
  have HB := Aside0.mk (Below.refl w.heap.size w)
  have H : ((turnstileref3_Length.f a0).bind fun t287 => (if t287 = true then (turnstileref3_Weak.l0 k a0 (([(⟨#[1, 1, 1, 1, 1, 1, 1, 1]⟩ : ByteArray), (⟨#[254, 254, 254, 254, 254, 254, 254, 254]⟩ : ByteArray), (⟨#[224, 224, 224, 224, 241, 241, 241, 241]⟩ : ByteArray), (⟨#[31, 31, 31, 31, 14, 14, 14, 14]⟩ : ByteArray)] : List ByteArray)) 0) else (some false))) = some r := h
  clear h
  replace H := Option.bind_eq_some_iff.mp H
  obtain ⟨t287, A20, H⟩ := H
  replace H : (if t287 = true then (turnstileref3_Weak.l0 k a0 (([(⟨#[1, 1, 1, 1, 1, 1, 1, 1]⟩ : ByteArray), (⟨#[254, 254, 254, 254, 254, 254, 254, 254]⟩ : ByteArray), (⟨#[224, 224, 224, 224, 241, 241, 241, 241]⟩ : ByteArray), (⟨#[31, 31, 31, 31, 14, 14, 14, 14]⟩ : ByteArray)] : List ByteArray)) 0) else (some false)) = some r := H
  have A2 := Aside0.mk A20
  clear A20
  by_cases c3 : t287 = true
  · subst c3
    have H1 : (turnstileref3_Weak.l0 k a0 (([(⟨#[1, 1, 1, 1, 1, 1, 1, 1]⟩ : ByteArray), (⟨#[254, 254, 254, 254, 254, 254, 254, 254]⟩ : ByteArray), (⟨#[224, 224, 224, 224, 241, 241, 241, 241]⟩ : ByteArray), (⟨#[31, 31, 31, 31, 14, 14, 14, 14]⟩ : ByteArray)] : List ByteArray)) 0) = some r := by rw [if_pos rfl] at H; exact H
    clear H
    have H := H1
    clear H1
    obtain ⟨y288, hy288⟩ : ∃ y_ : List ByteArray, y_ = (([(⟨#[1, 1, 1, 1, 1, 1, 1, 1]⟩ : ByteArray), (⟨#[254, 254, 254, 254, 254, 254, 254, 254]⟩ : ByteArray), (⟨#[224, 224, 224, 224, 241, 241, 241, 241]⟩ : ByteArray), (⟨#[31, 31, 31, 31, 14, 14, 14, 14]⟩ : ByteArray)] : List ByteArray)) := ⟨_, rfl⟩
    replace H : (turnstileref3_Weak.l0 k a0 y288 0) = some r := by first | (rw [hy288]; with_reducible exact H) | (have H2_ := (Option.bind_some _ _).symm.trans H; rw [hy288]; with_reducible exact H2_) | (have H2_ := (Option.bind_some _ _).symm.trans H; with_reducible exact H2_) | with_reducible exact H | (rw [hy288]; exact H) | exact H
    have Ny288 := Aside0.mk hy288
    clear hy288
    have H' := Aside0.mk H
    clear H
    go_enter Tryz.func48, Tryz.ntmps48
    go_wp2_with (first | (go_at_call 72; (with_reducible refine (turnstileref3_Length.calls a0 true _ A2.out).mono ?_); rintro e w' ⟨rfl, ⟨nd, rfl⟩⟩; (try first | exact ⟨rfl, _, World.drewN_drewN _ _ _⟩ | exact ⟨rfl, _, Eq.trans (World.drewN_drewN _ _ _) (congrArg (World.drewN _) (Nat.add_assoc _ _ _))⟩)) | ((with_reducible refine gate_dst (N := 13) rfl ?_); refine Kd.R_lit Kd.string _ 9 ?hg (N := 13) ?hd (xs := ([(⟨#[1, 1, 1, 1, 1, 1, 1, 1]⟩ : ByteArray), (⟨#[254, 254, 254, 254, 254, 254, 254, 254]⟩ : ByteArray), (⟨#[224, 224, 224, 224, 241, 241, 241, 241]⟩ : ByteArray), (⟨#[31, 31, 31, 31, 14, 14, 14, 14]⟩ : ByteArray)] : List ByteArray)) (inner := [.string (⟨#[1, 1, 1, 1, 1, 1, 1, 1]⟩ : ByteArray), .string (⟨#[254, 254, 254, 254, 254, 254, 254, 254]⟩ : ByteArray), .string (⟨#[224, 224, 224, 224, 241, 241, 241, 241]⟩ : ByteArray), .string (⟨#[31, 31, 31, 31, 14, 14, 14, 14]⟩ : ByteArray)]) (ok := fun _ => True) (okp := fun _ => True) ?hr ?hp (fun _ hk => hk) trivial (Below.refl _ _) (Nat.le_refl _) (by simp) ?_; (case hd => rfl); (case hg => rfl); (case hr => first | (go_simp; done) | (go_simp; rfl)); (case hp => exact (Reps.one (show Kd.M Kd.string _ _ _ (⟨#[1, 1, 1, 1, 1, 1, 1, 1]⟩ : ByteArray) [.string (⟨#[1, 1, 1, 1, 1, 1, 1, 1]⟩ : ByteArray)] from rfl) (Reps.one (show Kd.M Kd.string _ _ _ (⟨#[254, 254, 254, 254, 254, 254, 254, 254]⟩ : ByteArray) [.string (⟨#[254, 254, 254, 254, 254, 254, 254, 254]⟩ : ByteArray)] from rfl) (Reps.one (show Kd.M Kd.string _ _ _ (⟨#[224, 224, 224, 224, 241, 241, 241, 241]⟩ : ByteArray) [.string (⟨#[224, 224, 224, 224, 241, 241, 241, 241]⟩ : ByteArray)] from rfl) (Reps.one (show Kd.M Kd.string _ _ _ (⟨#[31, 31, 31, 31, 14, 14, 14, 14]⟩ : ByteArray) [.string (⟨#[31, 31, 31, 31, 14, 14, 14, 14]⟩ : ByteArray)] from rfl) (Reps.none _ _)))))); intro v289 w4 ho5 hb hg_ hnew_; clear hg_ hnew_; (first | rw [← Ny288.out] at ho5 | (simp only [Int.reduceToNat] at ho5; rw [← Ny288.out] at ho5)); have n0_ := Aside0.mk (Kd.R_lower ho5 (below_size (by repeat (first | (with_reducible first | exact HB.out | apply below_alloc | apply pw_below_drewN | apply below_drew1) | exact HB.out)))); have n1_ := Aside0.mk (below_step (by repeat (first | (with_reducible first | exact HB.out | apply below_alloc | apply pw_below_drewN | apply below_drew1) | exact HB.out)) hb); clear HB; have HO290 := n0_; have HB := n1_; clear n0_ n1_; clear hb ho5))
    repeat (go_quiet (first | (go_at_call 72; (with_reducible refine (turnstileref3_Length.calls a0 true _ A2.out).mono ?_); rintro e w' ⟨rfl, ⟨nd, rfl⟩⟩; (try first | exact ⟨rfl, _, World.drewN_drewN _ _ _⟩ | exact ⟨rfl, _, Eq.trans (World.drewN_drewN _ _ _) (congrArg (World.drewN _) (Nat.add_assoc _ _ _))⟩)) | ((with_reducible refine gate_dst (N := 13) rfl ?_); refine Kd.R_lit Kd.string _ 9 ?hg (N := 13) ?hd (xs := ([(⟨#[1, 1, 1, 1, 1, 1, 1, 1]⟩ : ByteArray), (⟨#[254, 254, 254, 254, 254, 254, 254, 254]⟩ : ByteArray), (⟨#[224, 224, 224, 224, 241, 241, 241, 241]⟩ : ByteArray), (⟨#[31, 31, 31, 31, 14, 14, 14, 14]⟩ : ByteArray)] : List ByteArray)) (inner := [.string (⟨#[1, 1, 1, 1, 1, 1, 1, 1]⟩ : ByteArray), .string (⟨#[254, 254, 254, 254, 254, 254, 254, 254]⟩ : ByteArray), .string (⟨#[224, 224, 224, 224, 241, 241, 241, 241]⟩ : ByteArray), .string (⟨#[31, 31, 31, 31, 14, 14, 14, 14]⟩ : ByteArray)]) (ok := fun _ => True) (okp := fun _ => True) ?hr ?hp (fun _ hk => hk) trivial (Below.refl _ _) (Nat.le_refl _) (by simp) ?_; (case hd => rfl); (case hg => rfl); (case hr => first | (go_simp; done) | (go_simp; rfl)); (case hp => exact (Reps.one (show Kd.M Kd.string _ _ _ (⟨#[1, 1, 1, 1, 1, 1, 1, 1]⟩ : ByteArray) [.string (⟨#[1, 1, 1, 1, 1, 1, 1, 1]⟩ : ByteArray)] from rfl) (Reps.one (show Kd.M Kd.string _ _ _ (⟨#[254, 254, 254, 254, 254, 254, 254, 254]⟩ : ByteArray) [.string (⟨#[254, 254, 254, 254, 254, 254, 254, 254]⟩ : ByteArray)] from rfl) (Reps.one (show Kd.M Kd.string _ _ _ (⟨#[224, 224, 224, 224, 241, 241, 241, 241]⟩ : ByteArray) [.string (⟨#[224, 224, 224, 224, 241, 241, 241, 241]⟩ : ByteArray)] from rfl) (Reps.one (show Kd.M Kd.string _ _ _ (⟨#[31, 31, 31, 31, 14, 14, 14, 14]⟩ : ByteArray) [.string (⟨#[31, 31, 31, 31, 14, 14, 14, 14]⟩ : ByteArray)] from rfl) (Reps.none _ _)))))); intro v289 w4 ho5 hb hg_ hnew_; clear hg_ hnew_; (first | rw [← Ny288.out] at ho5 | (simp only [Int.reduceToNat] at ho5; rw [← Ny288.out] at ho5)); have n0_ := Aside0.mk (Kd.R_lower ho5 (below_size (by repeat (first | (with_reducible first | exact HB.out | apply below_alloc | apply pw_below_drewN | apply below_drew1) | exact HB.out)))); have n1_ := Aside0.mk (below_step (by repeat (first | (with_reducible first | exact HB.out | apply below_alloc | apply pw_below_drewN | apply below_drew1) | exact HB.out)) hb); clear HB; have HO290 := n0_; have HB := n1_; clear n0_ n1_; clear hb ho5)); try go_wp2_with (first | (go_at_call 72; (with_reducible refine (turnstileref3_Length.calls a0 true _ A2.out).mono ?_); rintro e w' ⟨rfl, ⟨nd, rfl⟩⟩; (try first | exact ⟨rfl, _, World.drewN_drewN _ _ _⟩ | exact ⟨rfl, _, Eq.trans (World.drewN_drewN _ _ _) (congrArg (World.drewN _) (Nat.add_assoc _ _ _))⟩)) | ((with_reducible refine gate_dst (N := 13) rfl ?_); refine Kd.R_lit Kd.string _ 9 ?hg (N := 13) ?hd (xs := ([(⟨#[1, 1, 1, 1, 1, 1, 1, 1]⟩ : ByteArray), (⟨#[254, 254, 254, 254, 254, 254, 254, 254]⟩ : ByteArray), (⟨#[224, 224, 224, 224, 241, 241, 241, 241]⟩ : ByteArray), (⟨#[31, 31, 31, 31, 14, 14, 14, 14]⟩ : ByteArray)] : List ByteArray)) (inner := [.string (⟨#[1, 1, 1, 1, 1, 1, 1, 1]⟩ : ByteArray), .string (⟨#[254, 254, 254, 254, 254, 254, 254, 254]⟩ : ByteArray), .string (⟨#[224, 224, 224, 224, 241, 241, 241, 241]⟩ : ByteArray), .string (⟨#[31, 31, 31, 31, 14, 14, 14, 14]⟩ : ByteArray)]) (ok := fun _ => True) (okp := fun _ => True) ?hr ?hp (fun _ hk => hk) trivial (Below.refl _ _) (Nat.le_refl _) (by simp) ?_; (case hd => rfl); (case hg => rfl); (case hr => first | (go_simp; done) | (go_simp; rfl)); (case hp => exact (Reps.one (show Kd.M Kd.string _ _ _ (⟨#[1, 1, 1, 1, 1, 1, 1, 1]⟩ : ByteArray) [.string (⟨#[1, 1, 1, 1, 1, 1, 1, 1]⟩ : ByteArray)] from rfl) (Reps.one (show Kd.M Kd.string _ _ _ (⟨#[254, 254, 254, 254, 254, 254, 254, 254]⟩ : ByteArray) [.string (⟨#[254, 254, 254, 254, 254, 254, 254, 254]⟩ : ByteArray)] from rfl) (Reps.one (show Kd.M Kd.string _ _ _ (⟨#[224, 224, 224, 224, 241, 241, 241, 241]⟩ : ByteArray) [.string (⟨#[224, 224, 224, 224, 241, 241, 241, 241]⟩ : ByteArray)] from rfl) (Reps.one (show Kd.M Kd.string _ _ _ (⟨#[31, 31, 31, 31, 14, 14, 14, 14]⟩ : ByteArray) [.string (⟨#[31, 31, 31, 31, 14, 14, 14, 14]⟩ : ByteArray)] from rfl) (Reps.none _ _)))))); intro v289 w4 ho5 hb hg_ hnew_; clear hg_ hnew_; (first | rw [← Ny288.out] at ho5 | (simp only [Int.reduceToNat] at ho5; rw [← Ny288.out] at ho5)); have n0_ := Aside0.mk (Kd.R_lower ho5 (below_size (by repeat (first | (with_reducible first | exact HB.out | apply below_alloc | apply pw_below_drewN | apply below_drew1) | exact HB.out)))); have n1_ := Aside0.mk (below_step (by repeat (first | (with_reducible first | exact HB.out | apply below_alloc | apply pw_below_drewN | apply below_drew1) | exact HB.out)) hb); clear HB; have HO290 := n0_; have HB := n1_; clear n0_ n1_; clear hb ho5)))
    go_loopg [5] k (fun kq v5 w' => ∃ (x5_1 : Int), v5 = .int .i64 x5_1 ∧ Aside0 (turnstileref3_Weak.l0 kq a0 y288 x5_1 = some r) ∧ Aside0 (kq ≤ k) ∧ Aside0 (Kd.R Kd.string 9 w' w.heap.size (fun _ => True) v289 y288) ∧ Aside0 (Below w.heap.size w w'))
    case atStart => exact ⟨(0), (by first | rfl | (simp; done) | (simp [*]; done)), H', ⟨Nat.le_refl _⟩, ⟨by (with_reducible repeat (first | apply Kd.R_alloc | apply Kd.R_drewN | apply Kd.R_drew)); exact HO290.out⟩, ⟨by repeat (first | (with_reducible first | exact HB.out | apply below_alloc | apply pw_below_drewN | apply below_drew1) | exact HB.out)⟩⟩
    case round =>
      clear H'
      try clear p2
      try clear c3
      try clear c5
      obtain ⟨x5_1, rfl, HA, HK1, HO_4, HB⟩ := hrel
      cases gk with
      | zero => exact absurd HA.out (by simp [turnstileref3_Weak.l0])
      | succ k1 =>
        have H := HA.out
        clear HA
        simp only [turnstileref3_Weak.l0] at H
        by_cases c6 : x5_1 < (a0.size : Int)
        · rw [if_pos c6] at H
          have c6b0 : decide (x5_1 < (a0.size : Int)) = true := decide_eq_true c6
          clear c6
          have H' := Aside0.mk H
          clear H
          go_wp2
          repeat (go_quiet (fail); try go_wp2)
          go_loopg [6] k1 (fun kq v6 w' => ∃ (x6_2 : Int), v6 = .int .i64 x6_2 ∧ Aside0 (turnstileref3_Weak.l1 kq a0 y288 x5_1 x6_2 = some r) ∧ Aside0 (kq ≤ k1) ∧ Aside0 (Kd.R Kd.string 9 w' w.heap.size (fun _ => True) v289 y288) ∧ Aside0 (Below w.heap.size w w'))
          case atStart => exact ⟨(0), (by first | rfl | (simp; done) | (simp [*]; done)), H', ⟨Nat.le_refl _⟩, ⟨by (with_reducible repeat (first | apply Kd.R_alloc | apply Kd.R_drewN | apply Kd.R_drew)); exact HO_4.out⟩, ⟨by repeat (first | (with_reducible first | exact HB.out | apply below_alloc | apply pw_below_drewN | apply below_drew1) | exact HB.out)⟩⟩
          case round =>
            clear H'
            try clear p2
            try clear c3
            try clear c5
            try clear c6
            try clear c6b0
            try clear p2
            obtain ⟨x6_2, rfl, HA, HK2, HO_4, HB⟩ := hrel
            cases gk with
            | zero => exact absurd HA.out (by simp [turnstileref3_Weak.l1])
            | succ k2 =>
              have H := HA.out
              clear HA
              simp only [turnstileref3_Weak.l1] at H
              by_cases c7 : x6_2 < 4
              · rw [if_pos c7] at H
                have c7b0 : decide (x6_2 < 4) = true := decide_eq_true c7
                clear c7
                have H' := Aside0.mk H
                clear H
                go_wp2
                repeat (go_quiet (fail); try go_wp2)
                go_loopg [7, 8] k2 (fun kq v7 v8 w' => ∃ (x7_3 : Bool) (x8_3 : Int), v7 = .bool x7_3 ∧ v8 = .int .i64 x8_3 ∧ Aside0 (turnstileref3_Weak.l2 kq a0 y288 x5_1 x6_2 x7_3 x8_3 = some r) ∧ Aside0 (kq ≤ k2) ∧ Aside0 (Kd.R Kd.string 9 w' w.heap.size (fun _ => True) v289 y288) ∧ Aside0 (Below w.heap.size w w'))
                case atStart => exact ⟨(true), (0), (by first | rfl | (simp; done) | (simp [*]; done)), (by first | rfl | (simp; done) | (simp [*]; done)), H', ⟨Nat.le_refl _⟩, ⟨by (with_reducible repeat (first | apply Kd.R_alloc | apply Kd.R_drewN | apply Kd.R_drew)); exact HO_4.out⟩, ⟨by repeat (first | (with_reducible first | exact HB.out | apply below_alloc | apply pw_below_drewN | apply below_drew1) | exact HB.out)⟩⟩
                case round =>
                  clear H'
                  try clear p2
                  try clear c3
                  try clear c5
                  try clear c6
                  try clear c6b0
                  try clear c7
                  try clear c7b0
                  try clear p2
                  obtain ⟨x7_3, x8_3, rfl, rfl, HA, HK3, HO_4, HB⟩ := hrel
                  cases gk with
                  | zero => exact absurd HA.out (by simp [turnstileref3_Weak.l2])
                  | succ k3 =>
                    have H := HA.out
                    clear HA
                    simp only [turnstileref3_Weak.l2] at H
                    by_cases c8 : x8_3 < 8
                    · rw [if_pos c8] at H
                      have c8b0 : decide (x8_3 < 8) = true := decide_eq_true c8
                      clear c8
                      by_cases c9 : x7_3 = true
                      · subst c9
                        have H1 : (if 0 ≤ (wrap64 (x5_1 + x8_3)) then (if (wrap64 (x5_1 + x8_3)) < (a0.size : Int) then (if 0 ≤ x6_2 then (if x6_2 < (y288.length : Int) then (if 0 ≤ x8_3 then (if x8_3 < ((rdOf ByteArray.empty y288 x6_2).size : Int) then (turnstileref3_Weak.l2 k3 a0 y288 x5_1 x6_2 (((Int.tdiv (bt a0 (wrap64 (x5_1 + x8_3))) 2) % 256) == ((Int.tdiv (bt (rdOf ByteArray.empty y288 x6_2) x8_3) 2) % 256)) (wrap64 (x8_3 + 1))) else (none)) else (none)) else (none)) else (none)) else (none)) else (none)) = some r := by rw [if_pos rfl] at H; exact H
                        clear H
                        have H := H1
                        clear H1
                        obtain ⟨ji10, hji10⟩ : ∃ j_ : Int, (wrap64 (x5_1 + x8_3)) = j_ := ⟨_, rfl⟩
                        replace H : (if 0 ≤ (ji10) then (if (ji10) < (a0.size : Int) then (if 0 ≤ x6_2 then (if x6_2 < (y288.length : Int) then (if 0 ≤ x8_3 then (if x8_3 < ((rdOf ByteArray.empty y288 x6_2).size : Int) then (turnstileref3_Weak.l2 k3 a0 y288 x5_1 x6_2 (((Int.tdiv (bt a0 (ji10)) 2) % 256) == ((Int.tdiv (bt (rdOf ByteArray.empty y288 x6_2) x8_3) 2) % 256)) (wrap64 (x8_3 + 1))) else (none)) else (none)) else (none)) else (none)) else (none)) else (none)) = some r := by first | (rw [hji10] at H; exact H) | (simp only [hji10] at H ⊢; exact H)
                        have hji10w : (IntKind.i64.wrap (x5_1 + x8_3)) = ji10 := (i64_w _).trans hji10
                        by_cases c11 : 0 ≤ (ji10)
                        · rw [if_pos c11] at H
                          have c11b0 : decide (0 ≤ (ji10)) = true := decide_eq_true c11
                          clear c11
                          by_cases c12 : (ji10) < (a0.size : Int)
                          · rw [if_pos c12] at H
                            have c12b0 : decide ((ji10) < (a0.size : Int)) = true := decide_eq_true c12
                            clear c12
                            by_cases c14 : 0 ≤ x6_2
                            · rw [if_pos c14] at H
                              have c14b0 : decide (0 ≤ x6_2) = true := decide_eq_true c14
                              clear c14
                              by_cases c15 : x6_2 < (y288.length : Int)
                              · rw [if_pos c15] at H
                                have c15b0 : decide (x6_2 < (y288.length : Int)) = true := decide_eq_true c15
                                clear c15
                                by_cases c16 : 0 ≤ x8_3
                                · rw [if_pos c16] at H
                                  have c16b0 : decide (0 ≤ x8_3) = true := decide_eq_true c16
                                  clear c16
                                  by_cases c17 : x8_3 < ((rdOf ByteArray.empty y288 x6_2).size : Int)
                                  · rw [if_pos c17] at H
                                    have c17b0 : decide (x8_3 < ((rdOf ByteArray.empty y288 x6_2).size : Int)) = true := decide_eq_true c17
                                    clear c17
                                    have H' := Aside0.mk H
                                    clear H
                                    have p13 : 0 ≤ ((ji10) : Int) := of_decide_eq_true (by first | (with_reducible assumption) | assumption)
                                    have q13 : (ji10) < (a0.size : Int) := of_decide_eq_true (by first | (with_reducible assumption) | assumption)
                                    have hx13 := bt_at a0 (ji10)
                                    replace p13 := eq_true p13
                                    replace q13 := eq_true q13
                                    obtain ⟨Ao19, co19, eo19⟩ := Kd.R_slice HO_4.out
                                    subst eo19
                                    have p291 : 0 ≤ (x6_2 : Int) := of_decide_eq_true (by first | (with_reducible assumption) | assumption)
                                    have q291 : x6_2 < (y288.length : Int) := of_decide_eq_true (by first | (with_reducible assumption) | assumption)
                                    obtain ⟨ad291, e291, hx291_0⟩ := Kd.at_string (Kd.R_reads' HO_4.out).2.2 x6_2 p291 q291
                                    cases e291
                                    replace p291 := eq_true p291
                                    replace q291 := eq_true q291
                                    have p18 : 0 ≤ (x8_3 : Int) := of_decide_eq_true (by first | (with_reducible assumption) | assumption)
                                    have q18 : x8_3 < ((rdOf ByteArray.empty y288 x6_2).size : Int) := of_decide_eq_true (by first | (with_reducible assumption) | assumption)
                                    have hx18 := bt_at (rdOf ByteArray.empty y288 x6_2) x8_3
                                    replace p18 := eq_true p18
                                    replace q18 := eq_true q18
                                    go_wp2
                                    repeat (go_quiet (fail); try go_wp2)
                                    go_roundg k3
                                    case measure => have := HK1.out; have := HK2.out; have := HK3.out; omega
                                    case rel => exact ⟨((((Int.tdiv (bt a0 (ji10)) 2) % 256) == ((Int.tdiv (bt (rdOf ByteArray.empty y288 x6_2) x8_3) 2) % 256))), (wrap64 (x8_3 + 1)), (by first | rfl | (simp; done) | (simp only [← hji10] <;> (first | rfl | simp)) | (simp [*]; done)), (by first | rfl | (simp; done) | (simp [*]; done)), H', ⟨by have := HK1.out; have := HK2.out; have := HK3.out; omega⟩, ⟨by (with_reducible repeat (first | apply Kd.R_alloc | apply Kd.R_drewN | apply Kd.R_drew)); exact HO_4.out⟩, ⟨by repeat (first | (with_reducible first | exact HB.out | apply below_alloc | apply pw_below_drewN | apply below_drew1) | exact HB.out)⟩⟩
                                  · rw [if_neg c17] at H
                                    exact absurd H (by simp)
                                · rw [if_neg c16] at H
                                  exact absurd H (by simp)
                              · rw [if_neg c15] at H
                                exact absurd H (by simp)
                            · rw [if_neg c14] at H
                              exact absurd H (by simp)
                          · rw [if_neg c12] at H
                            exact absurd H (by simp)
                        · rw [if_neg c11] at H
                          exact absurd H (by simp)
                      · replace c9 := Bool.eq_false_iff.mpr c9
                        subst c9
                        have H1 : (turnstileref3_Weak.l2 k3 a0 y288 x5_1 x6_2 false (wrap64 (x8_3 + 1))) = some r := by rw [if_neg (show ¬ (false = true) by decide)] at H; exact H
                        clear H
                        have H := H1
                        clear H1
                        have H' := Aside0.mk H
                        clear H
                        go_wp2
                        repeat (go_quiet (fail); try go_wp2)
                        go_roundg k3
                        case measure => have := HK1.out; have := HK2.out; have := HK3.out; omega
                        case rel => exact ⟨(false), (wrap64 (x8_3 + 1)), (by first | rfl | (simp; done) | (simp [*]; done)), (by first | rfl | (simp; done) | (simp [*]; done)), H', ⟨by have := HK1.out; have := HK2.out; have := HK3.out; omega⟩, ⟨by (with_reducible repeat (first | apply Kd.R_alloc | apply Kd.R_drewN | apply Kd.R_drew)); exact HO_4.out⟩, ⟨by repeat (first | (with_reducible first | exact HB.out | apply below_alloc | apply pw_below_drewN | apply below_drew1) | exact HB.out)⟩⟩
                    · rw [if_neg c8] at H
                      have c8b0 : decide (x8_3 < 8) = false := decide_eq_false c8
                      clear c8
                      by_cases c20 : x7_3 = true
                      · subst c20
                        have H1 : (some true) = some r := by rw [if_pos rfl] at H; exact H
                        clear H
                        have H := H1
                        clear H1
                        obtain rfl := Option.some.inj H
                        go_wp2
                        repeat (go_quiet (fail); try go_wp2)
                        go_ret
                        exact ⟨by first | rfl | (simp [errW_none, errW_some] <;> rfl) | (simp [*, errW_none, errW_some] <;> rfl), by repeat (first | (with_reducible first | exact HB.out | apply below_alloc | apply pw_below_drewN | apply below_drew1) | exact HB.out)⟩
                      · replace c20 := Bool.eq_false_iff.mpr c20
                        subst c20
                        have H1 : (turnstileref3_Weak.l1 k3 a0 y288 x5_1 (wrap64 (x6_2 + 1))) = some r := by rw [if_neg (show ¬ (false = true) by decide)] at H; exact H
                        clear H
                        have H := H1
                        clear H1
                        have H' := Aside0.mk H
                        clear H
                        go_wp2
                        repeat (go_quiet (fail); try go_wp2)
                        go_roundg k3
                        case measure => have := HK1.out; have := HK2.out; have := HK3.out; omega
                        case rel => exact ⟨(wrap64 (x6_2 + 1)), (by first | rfl | (simp; done) | (simp [*]; done)), H', ⟨by have := HK1.out; have := HK2.out; have := HK3.out; omega⟩, ⟨by (with_reducible repeat (first | apply Kd.R_alloc | apply Kd.R_drewN | apply Kd.R_drew)); exact HO_4.out⟩, ⟨by repeat (first | (with_reducible first | exact HB.out | apply below_alloc | apply pw_below_drewN | apply below_drew1) | exact HB.out)⟩⟩
              · rw [if_neg c7] at H
                have c7b0 : decide (x6_2 < 4) = false := decide_eq_false c7
                clear c7
                have H' := Aside0.mk H
                clear H
                go_wp2
                repeat (go_quiet (fail); try go_wp2)
                go_roundg k2
                case measure => have := HK1.out; have := HK2.out; omega
                case rel => exact ⟨(wrap64 (x5_1 + 8)), (by first | rfl | (simp; done) | (simp [*]; done)), H', ⟨by have := HK1.out; have := HK2.out; omega⟩, ⟨by (with_reducible repeat (first | apply Kd.R_alloc | apply Kd.R_drewN | apply Kd.R_drew)); exact HO_4.out⟩, ⟨by repeat (first | (with_reducible first | exact HB.out | apply below_alloc | apply pw_below_drewN | apply below_drew1) | exact HB.out)⟩⟩
        · rw [if_neg c6] at H
          have c6b0 : decide (x5_1 < (a0.size : Int)) = false := decide_eq_false c6
          clear c6
          obtain rfl := Option.some.inj H
          go_wp2
          repeat (go_quiet (fail); try go_wp2)
          go_ret
          exact ⟨by first | rfl | (simp [errW_none, errW_some] <;> rfl) | (simp [*, errW_none, errW_some] <;> rfl), by repeat (first | (with_reducible first | exact HB.out | apply below_alloc | apply pw_below_drewN | apply below_drew1) | exact HB.out)⟩
  · replace c3 := Bool.eq_false_iff.mpr c3
    subst c3
    have H1 : (some false) = some r := by rw [if_neg (show ¬ (false = true) by decide)] at H; exact H
    clear H
    have H := H1
    clear H1
    obtain rfl := Option.some.inj H
    go_enter Tryz.func48, Tryz.ntmps48
    go_wp2_with (first | (go_at_call 72; (with_reducible refine (turnstileref3_Length.calls a0 false _ A2.out).mono ?_); rintro e w' ⟨rfl, ⟨nd, rfl⟩⟩; (try first | exact ⟨rfl, _, World.drewN_drewN _ _ _⟩ | exact ⟨rfl, _, Eq.trans (World.drewN_drewN _ _ _) (congrArg (World.drewN _) (Nat.add_assoc _ _ _))⟩)))
    repeat (go_quiet (first | (go_at_call 72; (with_reducible refine (turnstileref3_Length.calls a0 false _ A2.out).mono ?_); rintro e w' ⟨rfl, ⟨nd, rfl⟩⟩; (try first | exact ⟨rfl, _, World.drewN_drewN _ _ _⟩ | exact ⟨rfl, _, Eq.trans (World.drewN_drewN _ _ _) (congrArg (World.drewN _) (Nat.add_assoc _ _ _))⟩))); try go_wp2_with (first | (go_at_call 72; (with_reducible refine (turnstileref3_Length.calls a0 false _ A2.out).mono ?_); rintro e w' ⟨rfl, ⟨nd, rfl⟩⟩; (try first | exact ⟨rfl, _, World.drewN_drewN _ _ _⟩ | exact ⟨rfl, _, Eq.trans (World.drewN_drewN _ _ _) (congrArg (World.drewN _) (Nat.add_assoc _ _ _))⟩))))
    go_ret
    exact ⟨by first | rfl | (simp [errW_none, errW_some] <;> rfl) | (simp [*, errW_none, errW_some] <;> rfl), by repeat (first | (with_reducible first | exact HB.out | apply below_alloc | apply pw_below_drewN | apply below_drew1) | exact HB.out)⟩

end Go.Proofs.YtopobangjpehnaaGreat.Pr
