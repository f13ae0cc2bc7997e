/- One step of a script on two rows of slots: the answer is the document's. -/
import Derived.Test.YtopobangjpehnaaGreatChanges
set_option linter.unusedVariables false
set_option linter.unusedSimpArgs false
namespace Go.Proofs.YtopobangjpehnaaGreat.Seal
open Go.RowKit Go.Proofs.YtopobangjpehnaaGreatW.PrintWords Go.Proofs.YtopobangjpehnaaGreatW.PrintLast Go.Proofs.YtopobangjpehnaaGreatW.PrintMore Pr Des Num Walk

theorem Two.drew {w : World} {g b g' b' : Nat} {L M : List SlotD} (h : Two w g b g' b' L M) : Two w.drew g b g' b' L M := ⟨⟨h.s.head, h.s.body⟩, ⟨h.r.head, h.r.body⟩⟩
theorem Kp2.drew {B c d : Nat} {w W : World} (h : Kp2 B c d w W) : Kp2 B c d w W.drew := ⟨h.os, h.tape, h.output, h.size, h.block⟩
theorem Blk.kp2 {w w' : World} {k c d : Nat} {t : TypeId} {cs : Array Value} (h : Blk w k t cs) (hb : Kp2 w.heap.size c d w w') (h1 : k ≠ c) (h2 : k ≠ d) : Blk w' k t cs := (hb.block k h.lt h1 h2).trans h
theorem op_box {w w' : World} {k g b g' b' : Nat} {L M : List SlotD} {o : OpD} (h : Blk w k 35 (opCells o)) (S : Two w g b g' b' L M) (hb : Kp2 w.heap.size b b' w w') : Blk w' k 35 (opCells o) :=
  Blk.kp2 h hb (Walk.Blk.ne_ h S.s.body (by decide)) (Walk.Blk.ne_ h S.r.body (by decide))
/-- What a step comes to. -/
abbrev StepTo (L : List SlotD) (g b g' b' : Nat) (w : World) (e : Ending) (w' : World) : Prop := e = .returned (.bool true) ∧ ∃ L', GoodL L' ∧ L'.length = L.length ∧ Two w' g b g' b' L' L' ∧ Kp2 w.heap.size b b' w w'

set_option maxHeartbeats 4000000 in
set_option maxRecDepth 100000 in
theorem play_put (L : List SlotD) (hL : GoodL L) (hn32 : L.length ≤ 32) (o : OpD) (ho : GoodO o) (hk : o.kind = 1) (g b g' b' : Nat) (w : World) (h : Two w g b g' b' L L) :
    Calls Tryz.prog 7 #[.pointer (some ⟨g, 0, none⟩), .pointer (some ⟨g', 0, none⟩), .agg (opCells o)] w (StepTo L g b g' b' w) := by
  have S := Aside0.mk (h.step (below_alloc (Below.refl w.heap.size w) (.cells (opCells o) 35)))
  have B : Aside0 (Below w.heap.size w (w.alloc (.cells (opCells o) 35))) := ⟨below_alloc (Below.refl _ _) _⟩
  have G : Aside0 (Blk (w.alloc (.cells (opCells o) 35)) w.heap.size 35 (opCells o)) := ⟨Blk.new w 35 _⟩
  have HO := Aside0.mk ho
  have HL := Aside0.mk hL
  obtain ⟨r, hr1, hr2, nr⟩ := near_any o.slot L.length ho.slot (by omega)
  have NR := Aside0.mk nr
  have HK := Aside0.mk hk
  clear h ho hL nr hk
  have hw1 : w.alloc (.cells (opCells o) 35) = w.alloc (.cells #[.int .i64 o.kind, .int .i64 o.on, .int .i64 o.slot, .int .i64 o.alg, .int .i64 o.method, .string o.key, .string o.exch, .string o.text] 35) := rfl
  rw [hw1] at S B G
  clear hw1
  rw [show opCells o = #[.int .i64 o.kind, .int .i64 o.on, .int .i64 o.slot, .int .i64 o.alg, .int .i64 o.method, .string o.key, .string o.exch, .string o.text] from rfl]
  go_enter Tryz.func7, Tryz.ntmps7
  go_upto_region 1 with fail
  generalize w.alloc (.cells #[.int .i64 o.kind, .int .i64 o.on, .int .i64 o.slot, .int .i64 o.alg, .int .i64 o.method, .string o.key, .string o.exch, .string o.text] 35) = w1 at *
  obtain ⟨q0, q2, q3, q4, q5, q6, q7⟩ := op_cells G.out
  have c0 := S.out.r.cell0
  go_cut [7] from 23 to 30 (fun v7 wx => v7 = .int .i64 r ∧ Aside0 (Two wx g b g' b' L L) ∧ Aside0 (Below w.heap.size w wx) ∧ Aside0 (Blk wx w.heap.size 35 (opCells o)))
  case first =>
    go_region_held (fun w' => w'.cell? ⟨w.heap.size, 2, none⟩ = some (.int .i64 o.slot) ∧ w'.cell? ⟨g', 0, none⟩ = some (.slice (some ⟨b', 0, none⟩) L.length L.length)) (first | exact ⟨q2, c0⟩ | exact ⟨(G.out.drew.step hb).cell 2, (S.out.drew.step hb).r.cell0⟩) (first | (go_at_call 12; refine (NR.out _).mono ?_; rintro e w2 ⟨rfl, hb⟩))
    all_goals
      go_wp2_with fail
      go_meet
      exact ⟨rfl, ⟨S.out.drew.step hb⟩, ⟨B.out.drew.trans (hb.mono B.out.drew.size)⟩, ⟨G.out.drew.step hb⟩⟩
  case rest =>
    clear q0 q2 q3 q4 q5 q6 q7 c0 S B G
    obtain ⟨rfl, S, B, G⟩ := hcut
    obtain ⟨q0, q2, q3, q4, q5, q6, q7⟩ := op_cells G.out
    rw [HK.out] at q0
    obtain ⟨E, L', hG, hl, c1, c2⟩ := put_two L HL.out o.slot o.alg o.method o.key o.exch g b g' b'
    have C1 := Aside0.mk c1
    have C2 := Aside0.mk c2
    clear c1 c2
    go_wp2_with fail
    clear q0 q2 q3 q4 q5 q6 q7
    refine (C1.out _ S.out).mono ?_
    rintro e x1 ⟨rfl, hS, hb⟩
    have K := Aside0.mk ((Kp2.of_below (c := b) (d := b') B.out).also (hb.mono B.out.size))
    replace G := Aside0.mk (op_box G.out S.out hb)
    replace S := Aside0.mk hS
    clear hS hb B
    obtain ⟨q0, q2, q3, q4, q5, q6, q7⟩ := op_cells G.out
    rw [HK.out] at q0
    go_wp2_with fail
    refine (C2.out _ S.out).mono ?_
    rintro e x2 ⟨rfl, hS, hb⟩
    replace K := Aside0.mk (K.out.also (hb.mono K.out.size))
    replace S := Aside0.mk hS
    clear hS hb
    go_wp2_with fail
    go_ret
    exact ⟨by simp, L', hG, hl, S.out, K.out⟩
set_option maxHeartbeats 8000000 in
set_option maxRecDepth 100000 in
theorem play_fit (L : List SlotD) (hL : GoodL L) (hn32 : L.length ≤ 32) (o : OpD) (ho : GoodO o) (hk : o.kind = 2) (g b g' b' : Nat) (w : World) (h : Two w g b g' b' L L) :
    Calls Tryz.prog 7 #[.pointer (some ⟨g, 0, none⟩), .pointer (some ⟨g', 0, none⟩), .agg (opCells o)] w (StepTo L g b g' b' w) := by
  have S := Aside0.mk (h.step (below_alloc (Below.refl w.heap.size w) (.cells (opCells o) 35)))
  have B : Aside0 (Below w.heap.size w (w.alloc (.cells (opCells o) 35))) := ⟨below_alloc (Below.refl _ _) _⟩
  have G : Aside0 (Blk (w.alloc (.cells (opCells o) 35)) w.heap.size 35 (opCells o)) := ⟨Blk.new w 35 _⟩
  have HO := Aside0.mk ho
  have HL := Aside0.mk hL
  obtain ⟨r, hr1, hr2, nr⟩ := near_any o.slot L.length ho.slot (by omega)
  have NR := Aside0.mk nr
  have HK := Aside0.mk hk
  clear h ho hL nr hk
  have hw1 : w.alloc (.cells (opCells o) 35) = w.alloc (.cells #[.int .i64 o.kind, .int .i64 o.on, .int .i64 o.slot, .int .i64 o.alg, .int .i64 o.method, .string o.key, .string o.exch, .string o.text] 35) := rfl
  rw [hw1] at S B G
  clear hw1
  rw [show opCells o = #[.int .i64 o.kind, .int .i64 o.on, .int .i64 o.slot, .int .i64 o.alg, .int .i64 o.method, .string o.key, .string o.exch, .string o.text] from rfl]
  go_enter Tryz.func7, Tryz.ntmps7
  go_upto_region 1 with fail
  generalize w.alloc (.cells #[.int .i64 o.kind, .int .i64 o.on, .int .i64 o.slot, .int .i64 o.alg, .int .i64 o.method, .string o.key, .string o.exch, .string o.text] 35) = w1 at *
  obtain ⟨q0, q2, q3, q4, q5, q6, q7⟩ := op_cells G.out
  have c0 := S.out.r.cell0
  go_cut [7] from 23 to 30 (fun v7 wx => v7 = .int .i64 r ∧ Aside0 (Two wx g b g' b' L L) ∧ Aside0 (Below w.heap.size w wx) ∧ Aside0 (Blk wx w.heap.size 35 (opCells o)))
  case first =>
    go_region_held (fun w' => w'.cell? ⟨w.heap.size, 2, none⟩ = some (.int .i64 o.slot) ∧ w'.cell? ⟨g', 0, none⟩ = some (.slice (some ⟨b', 0, none⟩) L.length L.length)) (first | exact ⟨q2, c0⟩ | exact ⟨(G.out.drew.step hb).cell 2, (S.out.drew.step hb).r.cell0⟩) (first | (go_at_call 12; refine (NR.out _).mono ?_; rintro e w2 ⟨rfl, hb⟩))
    all_goals
      go_wp2_with fail
      go_meet
      exact ⟨rfl, ⟨S.out.drew.step hb⟩, ⟨B.out.drew.trans (hb.mono B.out.drew.size)⟩, ⟨G.out.drew.step hb⟩⟩
  case rest =>
    clear q0 q2 q3 q4 q5 q6 q7 c0 S B G
    obtain ⟨rfl, S, B, G⟩ := hcut
    obtain ⟨q0, q2, q3, q4, q5, q6, q7⟩ := op_cells G.out
    rw [HK.out] at q0
    obtain ⟨ra, ha0, ha1, pa⟩ := pickI_any o.alg 2 HO.out.alg (by decide) (by decide)
    obtain ⟨rm, hm0, hm1, pm⟩ := pickI_any o.method 2 HO.out.method (by decide) (by decide)
    have hkz := HO.out.key
    have hez := HO.out.exch
    have F8 := Aside0.mk (fitted_any o.key 8 (.inl rfl) (by omega))
    have F16 := Aside0.mk (fitted_any o.key 16 (.inr rfl) (by omega))
    have FX := Aside0.mk (fitted_any o.exch 16 (.inr rfl) (by omega))
    have PA := Aside0.mk pa
    have PM := Aside0.mk pm
    generalize fitS o.key (8 : Int).toNat = K8 at *
    generalize fitS o.key (16 : Int).toNat = K16 at *
    generalize fitS o.exch (16 : Int).toNat = X16 at *
    have hra : ra = 0 ∨ ra = 1 := by omega
    have hrm : rm = 0 ∨ rm = 1 := by omega
    clear pa pm hkz hez ha0 ha1 hm0 hm1
    rcases he : o.exch.toList.isEmpty with _ | _
    · rcases hra with rfl | rfl
      · rcases hrm with rfl | rfl
        · obtain ⟨E, L', hG, hl, c1, c2⟩ := put_two L HL.out r 1 1 K8 X16 g b g' b'
          have C1 := Aside0.mk c1
          have C2 := Aside0.mk c2
          clear c1 c2
          go_wp2_with fail
          clear q0 q2 q3 q4 q5 q6 q7
          refine (PA.out _).mono ?_
          rintro e y1 ⟨rfl, hb⟩
          replace B := Aside0.mk (B.out.trans (hb.mono B.out.size))
          replace S := Aside0.mk (S.out.step hb)
          replace G := Aside0.mk (G.out.step hb)
          clear hb
          obtain ⟨q0, q2, q3, q4, q5, q6, q7⟩ := op_cells G.out
          rw [HK.out] at q0
          go_wp2_with fail
          clear q0 q2 q3 q4 q5 q6 q7
          refine (PM.out _).mono ?_
          rintro e y2 ⟨rfl, hb⟩
          replace B := Aside0.mk (B.out.trans (hb.mono B.out.size))
          replace S := Aside0.mk (S.out.step hb)
          replace G := Aside0.mk (G.out.step hb)
          clear hb
          obtain ⟨q0, q2, q3, q4, q5, q6, q7⟩ := op_cells G.out
          rw [HK.out] at q0
          go_wp2_with fail
          clear q0 q2 q3 q4 q5 q6 q7
          refine (F8.out _).mono ?_
          rintro e y3 ⟨rfl, hb⟩
          replace B := Aside0.mk (B.out.trans (hb.mono B.out.size))
          replace S := Aside0.mk (S.out.step hb)
          replace G := Aside0.mk (G.out.step hb)
          clear hb
          obtain ⟨q0, q2, q3, q4, q5, q6, q7⟩ := op_cells G.out
          rw [HK.out] at q0
          go_wp2_with fail
          clear q0 q2 q3 q4 q5 q6 q7
          refine (FX.out _).mono ?_
          rintro e y4 ⟨rfl, hb⟩
          replace B := Aside0.mk (B.out.trans (hb.mono B.out.size))
          replace S := Aside0.mk (S.out.step hb)
          replace G := Aside0.mk (G.out.step hb)
          clear hb
          obtain ⟨q0, q2, q3, q4, q5, q6, q7⟩ := op_cells G.out
          rw [HK.out] at q0
          go_wp2_with fail
          clear q0 q2 q3 q4 q5 q6 q7
          refine (C1.out _ S.out).mono ?_
          rintro e x1 ⟨rfl, hS, hb⟩
          have K := Aside0.mk ((Kp2.of_below (c := b) (d := b') B.out).also (hb.mono B.out.size))
          replace G := Aside0.mk (op_box G.out S.out hb)
          replace S := Aside0.mk hS
          clear hS hb B
          obtain ⟨q0, q2, q3, q4, q5, q6, q7⟩ := op_cells G.out
          rw [HK.out] at q0
          go_wp2_with fail
          refine (C2.out _ S.out).mono ?_
          rintro e x2 ⟨rfl, hS, hb⟩
          replace K := Aside0.mk (K.out.also (hb.mono K.out.size))
          replace S := Aside0.mk hS
          clear hS hb
          go_wp2_with fail
          go_ret
          exact ⟨by simp, L', hG, hl, S.out, K.out⟩
        · obtain ⟨E, L', hG, hl, c1, c2⟩ := put_two L HL.out r 1 2 K8 X16 g b g' b'
          have C1 := Aside0.mk c1
          have C2 := Aside0.mk c2
          clear c1 c2
          go_wp2_with fail
          clear q0 q2 q3 q4 q5 q6 q7
          refine (PA.out _).mono ?_
          rintro e y1 ⟨rfl, hb⟩
          replace B := Aside0.mk (B.out.trans (hb.mono B.out.size))
          replace S := Aside0.mk (S.out.step hb)
          replace G := Aside0.mk (G.out.step hb)
          clear hb
          obtain ⟨q0, q2, q3, q4, q5, q6, q7⟩ := op_cells G.out
          rw [HK.out] at q0
          go_wp2_with fail
          clear q0 q2 q3 q4 q5 q6 q7
          refine (PM.out _).mono ?_
          rintro e y2 ⟨rfl, hb⟩
          replace B := Aside0.mk (B.out.trans (hb.mono B.out.size))
          replace S := Aside0.mk (S.out.step hb)
          replace G := Aside0.mk (G.out.step hb)
          clear hb
          obtain ⟨q0, q2, q3, q4, q5, q6, q7⟩ := op_cells G.out
          rw [HK.out] at q0
          go_wp2_with fail
          clear q0 q2 q3 q4 q5 q6 q7
          refine (F8.out _).mono ?_
          rintro e y3 ⟨rfl, hb⟩
          replace B := Aside0.mk (B.out.trans (hb.mono B.out.size))
          replace S := Aside0.mk (S.out.step hb)
          replace G := Aside0.mk (G.out.step hb)
          clear hb
          obtain ⟨q0, q2, q3, q4, q5, q6, q7⟩ := op_cells G.out
          rw [HK.out] at q0
          go_wp2_with fail
          clear q0 q2 q3 q4 q5 q6 q7
          refine (FX.out _).mono ?_
          rintro e y4 ⟨rfl, hb⟩
          replace B := Aside0.mk (B.out.trans (hb.mono B.out.size))
          replace S := Aside0.mk (S.out.step hb)
          replace G := Aside0.mk (G.out.step hb)
          clear hb
          obtain ⟨q0, q2, q3, q4, q5, q6, q7⟩ := op_cells G.out
          rw [HK.out] at q0
          go_wp2_with fail
          clear q0 q2 q3 q4 q5 q6 q7
          refine (C1.out _ S.out).mono ?_
          rintro e x1 ⟨rfl, hS, hb⟩
          have K := Aside0.mk ((Kp2.of_below (c := b) (d := b') B.out).also (hb.mono B.out.size))
          replace G := Aside0.mk (op_box G.out S.out hb)
          replace S := Aside0.mk hS
          clear hS hb B
          obtain ⟨q0, q2, q3, q4, q5, q6, q7⟩ := op_cells G.out
          rw [HK.out] at q0
          go_wp2_with fail
          refine (C2.out _ S.out).mono ?_
          rintro e x2 ⟨rfl, hS, hb⟩
          replace K := Aside0.mk (K.out.also (hb.mono K.out.size))
          replace S := Aside0.mk hS
          clear hS hb
          go_wp2_with fail
          go_ret
          exact ⟨by simp, L', hG, hl, S.out, K.out⟩
      · rcases hrm with rfl | rfl
        · obtain ⟨E, L', hG, hl, c1, c2⟩ := put_two L HL.out r 3 1 K16 X16 g b g' b'
          have C1 := Aside0.mk c1
          have C2 := Aside0.mk c2
          clear c1 c2
          go_wp2_with fail
          clear q0 q2 q3 q4 q5 q6 q7
          refine (PA.out _).mono ?_
          rintro e y1 ⟨rfl, hb⟩
          replace B := Aside0.mk (B.out.trans (hb.mono B.out.size))
          replace S := Aside0.mk (S.out.step hb)
          replace G := Aside0.mk (G.out.step hb)
          clear hb
          obtain ⟨q0, q2, q3, q4, q5, q6, q7⟩ := op_cells G.out
          rw [HK.out] at q0
          go_wp2_with fail
          clear q0 q2 q3 q4 q5 q6 q7
          refine (PM.out _).mono ?_
          rintro e y2 ⟨rfl, hb⟩
          replace B := Aside0.mk (B.out.trans (hb.mono B.out.size))
          replace S := Aside0.mk (S.out.step hb)
          replace G := Aside0.mk (G.out.step hb)
          clear hb
          obtain ⟨q0, q2, q3, q4, q5, q6, q7⟩ := op_cells G.out
          rw [HK.out] at q0
          go_wp2_with fail
          clear q0 q2 q3 q4 q5 q6 q7
          refine (F16.out _).mono ?_
          rintro e y3 ⟨rfl, hb⟩
          replace B := Aside0.mk (B.out.trans (hb.mono B.out.size))
          replace S := Aside0.mk (S.out.step hb)
          replace G := Aside0.mk (G.out.step hb)
          clear hb
          obtain ⟨q0, q2, q3, q4, q5, q6, q7⟩ := op_cells G.out
          rw [HK.out] at q0
          go_wp2_with fail
          clear q0 q2 q3 q4 q5 q6 q7
          refine (FX.out _).mono ?_
          rintro e y4 ⟨rfl, hb⟩
          replace B := Aside0.mk (B.out.trans (hb.mono B.out.size))
          replace S := Aside0.mk (S.out.step hb)
          replace G := Aside0.mk (G.out.step hb)
          clear hb
          obtain ⟨q0, q2, q3, q4, q5, q6, q7⟩ := op_cells G.out
          rw [HK.out] at q0
          go_wp2_with fail
          clear q0 q2 q3 q4 q5 q6 q7
          refine (C1.out _ S.out).mono ?_
          rintro e x1 ⟨rfl, hS, hb⟩
          have K := Aside0.mk ((Kp2.of_below (c := b) (d := b') B.out).also (hb.mono B.out.size))
          replace G := Aside0.mk (op_box G.out S.out hb)
          replace S := Aside0.mk hS
          clear hS hb B
          obtain ⟨q0, q2, q3, q4, q5, q6, q7⟩ := op_cells G.out
          rw [HK.out] at q0
          go_wp2_with fail
          refine (C2.out _ S.out).mono ?_
          rintro e x2 ⟨rfl, hS, hb⟩
          replace K := Aside0.mk (K.out.also (hb.mono K.out.size))
          replace S := Aside0.mk hS
          clear hS hb
          go_wp2_with fail
          go_ret
          exact ⟨by simp, L', hG, hl, S.out, K.out⟩
        · obtain ⟨E, L', hG, hl, c1, c2⟩ := put_two L HL.out r 3 2 K16 X16 g b g' b'
          have C1 := Aside0.mk c1
          have C2 := Aside0.mk c2
          clear c1 c2
          go_wp2_with fail
          clear q0 q2 q3 q4 q5 q6 q7
          refine (PA.out _).mono ?_
          rintro e y1 ⟨rfl, hb⟩
          replace B := Aside0.mk (B.out.trans (hb.mono B.out.size))
          replace S := Aside0.mk (S.out.step hb)
          replace G := Aside0.mk (G.out.step hb)
          clear hb
          obtain ⟨q0, q2, q3, q4, q5, q6, q7⟩ := op_cells G.out
          rw [HK.out] at q0
          go_wp2_with fail
          clear q0 q2 q3 q4 q5 q6 q7
          refine (PM.out _).mono ?_
          rintro e y2 ⟨rfl, hb⟩
          replace B := Aside0.mk (B.out.trans (hb.mono B.out.size))
          replace S := Aside0.mk (S.out.step hb)
          replace G := Aside0.mk (G.out.step hb)
          clear hb
          obtain ⟨q0, q2, q3, q4, q5, q6, q7⟩ := op_cells G.out
          rw [HK.out] at q0
          go_wp2_with fail
          clear q0 q2 q3 q4 q5 q6 q7
          refine (F16.out _).mono ?_
          rintro e y3 ⟨rfl, hb⟩
          replace B := Aside0.mk (B.out.trans (hb.mono B.out.size))
          replace S := Aside0.mk (S.out.step hb)
          replace G := Aside0.mk (G.out.step hb)
          clear hb
          obtain ⟨q0, q2, q3, q4, q5, q6, q7⟩ := op_cells G.out
          rw [HK.out] at q0
          go_wp2_with fail
          clear q0 q2 q3 q4 q5 q6 q7
          refine (FX.out _).mono ?_
          rintro e y4 ⟨rfl, hb⟩
          replace B := Aside0.mk (B.out.trans (hb.mono B.out.size))
          replace S := Aside0.mk (S.out.step hb)
          replace G := Aside0.mk (G.out.step hb)
          clear hb
          obtain ⟨q0, q2, q3, q4, q5, q6, q7⟩ := op_cells G.out
          rw [HK.out] at q0
          go_wp2_with fail
          clear q0 q2 q3 q4 q5 q6 q7
          refine (C1.out _ S.out).mono ?_
          rintro e x1 ⟨rfl, hS, hb⟩
          have K := Aside0.mk ((Kp2.of_below (c := b) (d := b') B.out).also (hb.mono B.out.size))
          replace G := Aside0.mk (op_box G.out S.out hb)
          replace S := Aside0.mk hS
          clear hS hb B
          obtain ⟨q0, q2, q3, q4, q5, q6, q7⟩ := op_cells G.out
          rw [HK.out] at q0
          go_wp2_with fail
          refine (C2.out _ S.out).mono ?_
          rintro e x2 ⟨rfl, hS, hb⟩
          replace K := Aside0.mk (K.out.also (hb.mono K.out.size))
          replace S := Aside0.mk hS
          clear hS hb
          go_wp2_with fail
          go_ret
          exact ⟨by simp, L', hG, hl, S.out, K.out⟩
    · rcases hra with rfl | rfl
      · rcases hrm with rfl | rfl
        · obtain ⟨E, L', hG, hl, c1, c2⟩ := put_two L HL.out r 1 1 K8 o.exch g b g' b'
          have C1 := Aside0.mk c1
          have C2 := Aside0.mk c2
          clear c1 c2
          go_wp2_with fail
          clear q0 q2 q3 q4 q5 q6 q7
          refine (PA.out _).mono ?_
          rintro e y1 ⟨rfl, hb⟩
          replace B := Aside0.mk (B.out.trans (hb.mono B.out.size))
          replace S := Aside0.mk (S.out.step hb)
          replace G := Aside0.mk (G.out.step hb)
          clear hb
          obtain ⟨q0, q2, q3, q4, q5, q6, q7⟩ := op_cells G.out
          rw [HK.out] at q0
          go_wp2_with fail
          clear q0 q2 q3 q4 q5 q6 q7
          refine (PM.out _).mono ?_
          rintro e y2 ⟨rfl, hb⟩
          replace B := Aside0.mk (B.out.trans (hb.mono B.out.size))
          replace S := Aside0.mk (S.out.step hb)
          replace G := Aside0.mk (G.out.step hb)
          clear hb
          obtain ⟨q0, q2, q3, q4, q5, q6, q7⟩ := op_cells G.out
          rw [HK.out] at q0
          go_wp2_with fail
          clear q0 q2 q3 q4 q5 q6 q7
          refine (F8.out _).mono ?_
          rintro e y3 ⟨rfl, hb⟩
          replace B := Aside0.mk (B.out.trans (hb.mono B.out.size))
          replace S := Aside0.mk (S.out.step hb)
          replace G := Aside0.mk (G.out.step hb)
          clear hb
          obtain ⟨q0, q2, q3, q4, q5, q6, q7⟩ := op_cells G.out
          rw [HK.out] at q0
          go_wp2_with fail
          clear q0 q2 q3 q4 q5 q6 q7
          refine (C1.out _ S.out).mono ?_
          rintro e x1 ⟨rfl, hS, hb⟩
          have K := Aside0.mk ((Kp2.of_below (c := b) (d := b') B.out).also (hb.mono B.out.size))
          replace G := Aside0.mk (op_box G.out S.out hb)
          replace S := Aside0.mk hS
          clear hS hb B
          obtain ⟨q0, q2, q3, q4, q5, q6, q7⟩ := op_cells G.out
          rw [HK.out] at q0
          go_wp2_with fail
          refine (C2.out _ S.out).mono ?_
          rintro e x2 ⟨rfl, hS, hb⟩
          replace K := Aside0.mk (K.out.also (hb.mono K.out.size))
          replace S := Aside0.mk hS
          clear hS hb
          go_wp2_with fail
          go_ret
          exact ⟨by simp, L', hG, hl, S.out, K.out⟩
        · obtain ⟨E, L', hG, hl, c1, c2⟩ := put_two L HL.out r 1 2 K8 o.exch g b g' b'
          have C1 := Aside0.mk c1
          have C2 := Aside0.mk c2
          clear c1 c2
          go_wp2_with fail
          clear q0 q2 q3 q4 q5 q6 q7
          refine (PA.out _).mono ?_
          rintro e y1 ⟨rfl, hb⟩
          replace B := Aside0.mk (B.out.trans (hb.mono B.out.size))
          replace S := Aside0.mk (S.out.step hb)
          replace G := Aside0.mk (G.out.step hb)
          clear hb
          obtain ⟨q0, q2, q3, q4, q5, q6, q7⟩ := op_cells G.out
          rw [HK.out] at q0
          go_wp2_with fail
          clear q0 q2 q3 q4 q5 q6 q7
          refine (PM.out _).mono ?_
          rintro e y2 ⟨rfl, hb⟩
          replace B := Aside0.mk (B.out.trans (hb.mono B.out.size))
          replace S := Aside0.mk (S.out.step hb)
          replace G := Aside0.mk (G.out.step hb)
          clear hb
          obtain ⟨q0, q2, q3, q4, q5, q6, q7⟩ := op_cells G.out
          rw [HK.out] at q0
          go_wp2_with fail
          clear q0 q2 q3 q4 q5 q6 q7
          refine (F8.out _).mono ?_
          rintro e y3 ⟨rfl, hb⟩
          replace B := Aside0.mk (B.out.trans (hb.mono B.out.size))
          replace S := Aside0.mk (S.out.step hb)
          replace G := Aside0.mk (G.out.step hb)
          clear hb
          obtain ⟨q0, q2, q3, q4, q5, q6, q7⟩ := op_cells G.out
          rw [HK.out] at q0
          go_wp2_with fail
          clear q0 q2 q3 q4 q5 q6 q7
          refine (C1.out _ S.out).mono ?_
          rintro e x1 ⟨rfl, hS, hb⟩
          have K := Aside0.mk ((Kp2.of_below (c := b) (d := b') B.out).also (hb.mono B.out.size))
          replace G := Aside0.mk (op_box G.out S.out hb)
          replace S := Aside0.mk hS
          clear hS hb B
          obtain ⟨q0, q2, q3, q4, q5, q6, q7⟩ := op_cells G.out
          rw [HK.out] at q0
          go_wp2_with fail
          refine (C2.out _ S.out).mono ?_
          rintro e x2 ⟨rfl, hS, hb⟩
          replace K := Aside0.mk (K.out.also (hb.mono K.out.size))
          replace S := Aside0.mk hS
          clear hS hb
          go_wp2_with fail
          go_ret
          exact ⟨by simp, L', hG, hl, S.out, K.out⟩
      · rcases hrm with rfl | rfl
        · obtain ⟨E, L', hG, hl, c1, c2⟩ := put_two L HL.out r 3 1 K16 o.exch g b g' b'
          have C1 := Aside0.mk c1
          have C2 := Aside0.mk c2
          clear c1 c2
          go_wp2_with fail
          clear q0 q2 q3 q4 q5 q6 q7
          refine (PA.out _).mono ?_
          rintro e y1 ⟨rfl, hb⟩
          replace B := Aside0.mk (B.out.trans (hb.mono B.out.size))
          replace S := Aside0.mk (S.out.step hb)
          replace G := Aside0.mk (G.out.step hb)
          clear hb
          obtain ⟨q0, q2, q3, q4, q5, q6, q7⟩ := op_cells G.out
          rw [HK.out] at q0
          go_wp2_with fail
          clear q0 q2 q3 q4 q5 q6 q7
          refine (PM.out _).mono ?_
          rintro e y2 ⟨rfl, hb⟩
          replace B := Aside0.mk (B.out.trans (hb.mono B.out.size))
          replace S := Aside0.mk (S.out.step hb)
          replace G := Aside0.mk (G.out.step hb)
          clear hb
          obtain ⟨q0, q2, q3, q4, q5, q6, q7⟩ := op_cells G.out
          rw [HK.out] at q0
          go_wp2_with fail
          clear q0 q2 q3 q4 q5 q6 q7
          refine (F16.out _).mono ?_
          rintro e y3 ⟨rfl, hb⟩
          replace B := Aside0.mk (B.out.trans (hb.mono B.out.size))
          replace S := Aside0.mk (S.out.step hb)
          replace G := Aside0.mk (G.out.step hb)
          clear hb
          obtain ⟨q0, q2, q3, q4, q5, q6, q7⟩ := op_cells G.out
          rw [HK.out] at q0
          go_wp2_with fail
          clear q0 q2 q3 q4 q5 q6 q7
          refine (C1.out _ S.out).mono ?_
          rintro e x1 ⟨rfl, hS, hb⟩
          have K := Aside0.mk ((Kp2.of_below (c := b) (d := b') B.out).also (hb.mono B.out.size))
          replace G := Aside0.mk (op_box G.out S.out hb)
          replace S := Aside0.mk hS
          clear hS hb B
          obtain ⟨q0, q2, q3, q4, q5, q6, q7⟩ := op_cells G.out
          rw [HK.out] at q0
          go_wp2_with fail
          refine (C2.out _ S.out).mono ?_
          rintro e x2 ⟨rfl, hS, hb⟩
          replace K := Aside0.mk (K.out.also (hb.mono K.out.size))
          replace S := Aside0.mk hS
          clear hS hb
          go_wp2_with fail
          go_ret
          exact ⟨by simp, L', hG, hl, S.out, K.out⟩
        · obtain ⟨E, L', hG, hl, c1, c2⟩ := put_two L HL.out r 3 2 K16 o.exch g b g' b'
          have C1 := Aside0.mk c1
          have C2 := Aside0.mk c2
          clear c1 c2
          go_wp2_with fail
          clear q0 q2 q3 q4 q5 q6 q7
          refine (PA.out _).mono ?_
          rintro e y1 ⟨rfl, hb⟩
          replace B := Aside0.mk (B.out.trans (hb.mono B.out.size))
          replace S := Aside0.mk (S.out.step hb)
          replace G := Aside0.mk (G.out.step hb)
          clear hb
          obtain ⟨q0, q2, q3, q4, q5, q6, q7⟩ := op_cells G.out
          rw [HK.out] at q0
          go_wp2_with fail
          clear q0 q2 q3 q4 q5 q6 q7
          refine (PM.out _).mono ?_
          rintro e y2 ⟨rfl, hb⟩
          replace B := Aside0.mk (B.out.trans (hb.mono B.out.size))
          replace S := Aside0.mk (S.out.step hb)
          replace G := Aside0.mk (G.out.step hb)
          clear hb
          obtain ⟨q0, q2, q3, q4, q5, q6, q7⟩ := op_cells G.out
          rw [HK.out] at q0
          go_wp2_with fail
          clear q0 q2 q3 q4 q5 q6 q7
          refine (F16.out _).mono ?_
          rintro e y3 ⟨rfl, hb⟩
          replace B := Aside0.mk (B.out.trans (hb.mono B.out.size))
          replace S := Aside0.mk (S.out.step hb)
          replace G := Aside0.mk (G.out.step hb)
          clear hb
          obtain ⟨q0, q2, q3, q4, q5, q6, q7⟩ := op_cells G.out
          rw [HK.out] at q0
          go_wp2_with fail
          clear q0 q2 q3 q4 q5 q6 q7
          refine (C1.out _ S.out).mono ?_
          rintro e x1 ⟨rfl, hS, hb⟩
          have K := Aside0.mk ((Kp2.of_below (c := b) (d := b') B.out).also (hb.mono B.out.size))
          replace G := Aside0.mk (op_box G.out S.out hb)
          replace S := Aside0.mk hS
          clear hS hb B
          obtain ⟨q0, q2, q3, q4, q5, q6, q7⟩ := op_cells G.out
          rw [HK.out] at q0
          go_wp2_with fail
          refine (C2.out _ S.out).mono ?_
          rintro e x2 ⟨rfl, hS, hb⟩
          replace K := Aside0.mk (K.out.also (hb.mono K.out.size))
          replace S := Aside0.mk hS
          clear hS hb
          go_wp2_with fail
          go_ret
          exact ⟨by simp, L', hG, hl, S.out, K.out⟩
set_option maxHeartbeats 8000000 in
set_option maxRecDepth 100000 in
theorem play_tag (L : List SlotD) (hL : GoodL L) (hn32 : L.length ≤ 32) (o : OpD) (ho : GoodO o) (hk : o.kind = 3) (g b g' b' : Nat) (w : World) (h : Two w g b g' b' L L) :
    Calls Tryz.prog 7 #[.pointer (some ⟨g, 0, none⟩), .pointer (some ⟨g', 0, none⟩), .agg (opCells o)] w (StepTo L g b g' b' w) := by
  have S := Aside0.mk (h.step (below_alloc (Below.refl w.heap.size w) (.cells (opCells o) 35)))
  have B : Aside0 (Below w.heap.size w (w.alloc (.cells (opCells o) 35))) := ⟨below_alloc (Below.refl _ _) _⟩
  have G : Aside0 (Blk (w.alloc (.cells (opCells o) 35)) w.heap.size 35 (opCells o)) := ⟨Blk.new w 35 _⟩
  have HO := Aside0.mk ho
  have HL := Aside0.mk hL
  obtain ⟨r, hr1, hr2, nr⟩ := near_any o.slot L.length ho.slot (by omega)
  have NR := Aside0.mk nr
  have HK := Aside0.mk hk
  clear h ho hL nr hk
  have hw1 : w.alloc (.cells (opCells o) 35) = w.alloc (.cells #[.int .i64 o.kind, .int .i64 o.on, .int .i64 o.slot, .int .i64 o.alg, .int .i64 o.method, .string o.key, .string o.exch, .string o.text] 35) := rfl
  rw [hw1] at S B G
  clear hw1
  rw [show opCells o = #[.int .i64 o.kind, .int .i64 o.on, .int .i64 o.slot, .int .i64 o.alg, .int .i64 o.method, .string o.key, .string o.exch, .string o.text] from rfl]
  go_enter Tryz.func7, Tryz.ntmps7
  go_upto_region 1 with fail
  generalize w.alloc (.cells #[.int .i64 o.kind, .int .i64 o.on, .int .i64 o.slot, .int .i64 o.alg, .int .i64 o.method, .string o.key, .string o.exch, .string o.text] 35) = w1 at *
  obtain ⟨q0, q2, q3, q4, q5, q6, q7⟩ := op_cells G.out
  have c0 := S.out.r.cell0
  go_cut [7] from 23 to 30 (fun v7 wx => v7 = .int .i64 r ∧ Aside0 (Two wx g b g' b' L L) ∧ Aside0 (Below w.heap.size w wx) ∧ Aside0 (Blk wx w.heap.size 35 (opCells o)))
  case first =>
    go_region_held (fun w' => w'.cell? ⟨w.heap.size, 2, none⟩ = some (.int .i64 o.slot) ∧ w'.cell? ⟨g', 0, none⟩ = some (.slice (some ⟨b', 0, none⟩) L.length L.length)) (first | exact ⟨q2, c0⟩ | exact ⟨(G.out.drew.step hb).cell 2, (S.out.drew.step hb).r.cell0⟩) (first | (go_at_call 12; refine (NR.out _).mono ?_; rintro e w2 ⟨rfl, hb⟩))
    all_goals
      go_wp2_with fail
      go_meet
      exact ⟨rfl, ⟨S.out.drew.step hb⟩, ⟨B.out.drew.trans (hb.mono B.out.drew.size)⟩, ⟨G.out.drew.step hb⟩⟩
  case rest =>
    clear q0 q2 q3 q4 q5 q6 q7 c0 S B G
    obtain ⟨rfl, S, B, G⟩ := hcut
    obtain ⟨q0, q2, q3, q4, q5, q6, q7⟩ := op_cells G.out
    rw [HK.out] at q0
    have htz := HO.out.text
    obtain ⟨T, E, hT, t1, t2⟩ := tag_two L r o.text (by omega) g b g' b'
    obtain ⟨n1, u1, u2⟩ := round_two L r g b g' b'
    obtain ⟨n2, v1, v2⟩ := round_two L o.slot g b g' b'
    have T1 := Aside0.mk t1
    have T2 := Aside0.mk t2
    have U1 := Aside0.mk u1
    have U2 := Aside0.mk u2
    have V1 := Aside0.mk v1
    have V2 := Aside0.mk v2
    clear t1 t2 u1 u2 v1 v2 htz hT
    go_wp2_with fail
    clear q0 q2 q3 q4 q5 q6 q7
    refine (T1.out _ S.out).mono ?_
    rintro e y1 ⟨rfl, hb⟩
    replace B := Aside0.mk (B.out.trans (hb.mono B.out.size))
    replace S := Aside0.mk (S.out.step hb)
    replace G := Aside0.mk (G.out.step hb)
    clear hb
    obtain ⟨q0, q2, q3, q4, q5, q6, q7⟩ := op_cells G.out
    rw [HK.out] at q0
    go_wp2_with fail
    clear q0 q2 q3 q4 q5 q6 q7
    refine (T2.out _ S.out).mono ?_
    rintro e y2 ⟨rfl, hb⟩
    replace B := Aside0.mk (B.out.trans (hb.mono B.out.size))
    replace S := Aside0.mk (S.out.step hb)
    replace G := Aside0.mk (G.out.step hb)
    clear hb
    go_upto_region 18 with fail
    replace B := Aside0.mk B.out.drew
    replace S := Aside0.mk S.out.drew
    replace G := Aside0.mk G.out.drew
    go_region_held (fun w' => w'.cell? ⟨w.heap.size, 2, none⟩ = some (.int .i64 o.slot)) (exact G.out.cell 2) (first
      | (go_at_call_of 10 (Value.int IntKind.i64 r); refine (U1.out _ S.out).mono ?_; rintro e x1 ⟨rfl, hb⟩; replace B := Aside0.mk (B.out.trans (hb.mono B.out.size)); replace S := Aside0.mk (S.out.step hb); replace G := Aside0.mk (G.out.step hb); clear hb)
      | (go_at_call_of 11 (Value.int IntKind.i64 r); refine (U2.out _ S.out).mono ?_; rintro e x2 ⟨rfl, hb⟩; replace B := Aside0.mk (B.out.trans (hb.mono B.out.size)); replace S := Aside0.mk (S.out.step hb); replace G := Aside0.mk (G.out.step hb); clear hb)
      | (go_at_call_of 10 (Value.int IntKind.i64 o.slot); refine (V1.out _ S.out).mono ?_; rintro e x3 ⟨rfl, hb⟩; replace B := Aside0.mk (B.out.trans (hb.mono B.out.size)); replace S := Aside0.mk (S.out.step hb); replace G := Aside0.mk (G.out.step hb); clear hb)
      | (go_at_call_of 11 (Value.int IntKind.i64 o.slot); refine (V2.out _ S.out).mono ?_; rintro e x4 ⟨rfl, hb⟩; replace B := Aside0.mk (B.out.trans (hb.mono B.out.size)); replace S := Aside0.mk (S.out.step hb); replace G := Aside0.mk (G.out.step hb); clear hb))
    all_goals
      go_wp2_with fail
      go_ret
      exact ⟨by simp, L, HL.out, rfl, S.out, .of_below B.out⟩
set_option maxHeartbeats 8000000 in
set_option maxRecDepth 100000 in
theorem play_right (L : List SlotD) (hL : GoodL L) (hn32 : L.length ≤ 32) (o : OpD) (ho : GoodO o) (hk : o.kind = 4) (g b g' b' : Nat) (w : World) (h : Two w g b g' b' L L) :
    Calls Tryz.prog 7 #[.pointer (some ⟨g, 0, none⟩), .pointer (some ⟨g', 0, none⟩), .agg (opCells o)] w (StepTo L g b g' b' w) := by
  have S := Aside0.mk (h.step (below_alloc (Below.refl w.heap.size w) (.cells (opCells o) 35)))
  have B : Aside0 (Below w.heap.size w (w.alloc (.cells (opCells o) 35))) := ⟨below_alloc (Below.refl _ _) _⟩
  have G : Aside0 (Blk (w.alloc (.cells (opCells o) 35)) w.heap.size 35 (opCells o)) := ⟨Blk.new w 35 _⟩
  have HO := Aside0.mk ho
  have HL := Aside0.mk hL
  obtain ⟨r, hr1, hr2, nr⟩ := near_any o.slot L.length ho.slot (by omega)
  have NR := Aside0.mk nr
  have HK := Aside0.mk hk
  clear h ho hL nr hk
  have hw1 : w.alloc (.cells (opCells o) 35) = w.alloc (.cells #[.int .i64 o.kind, .int .i64 o.on, .int .i64 o.slot, .int .i64 o.alg, .int .i64 o.method, .string o.key, .string o.exch, .string o.text] 35) := rfl
  rw [hw1] at S B G
  clear hw1
  rw [show opCells o = #[.int .i64 o.kind, .int .i64 o.on, .int .i64 o.slot, .int .i64 o.alg, .int .i64 o.method, .string o.key, .string o.exch, .string o.text] from rfl]
  go_enter Tryz.func7, Tryz.ntmps7
  go_upto_region 1 with fail
  generalize w.alloc (.cells #[.int .i64 o.kind, .int .i64 o.on, .int .i64 o.slot, .int .i64 o.alg, .int .i64 o.method, .string o.key, .string o.exch, .string o.text] 35) = w1 at *
  obtain ⟨q0, q2, q3, q4, q5, q6, q7⟩ := op_cells G.out
  have c0 := S.out.r.cell0
  go_cut [7] from 23 to 30 (fun v7 wx => v7 = .int .i64 r ∧ Aside0 (Two wx g b g' b' L L) ∧ Aside0 (Below w.heap.size w wx) ∧ Aside0 (Blk wx w.heap.size 35 (opCells o)))
  case first =>
    go_region_held (fun w' => w'.cell? ⟨w.heap.size, 2, none⟩ = some (.int .i64 o.slot) ∧ w'.cell? ⟨g', 0, none⟩ = some (.slice (some ⟨b', 0, none⟩) L.length L.length)) (first | exact ⟨q2, c0⟩ | exact ⟨(G.out.drew.step hb).cell 2, (S.out.drew.step hb).r.cell0⟩) (first | (go_at_call 12; refine (NR.out _).mono ?_; rintro e w2 ⟨rfl, hb⟩))
    all_goals
      go_wp2_with fail
      go_meet
      exact ⟨rfl, ⟨S.out.drew.step hb⟩, ⟨B.out.drew.trans (hb.mono B.out.drew.size)⟩, ⟨G.out.drew.step hb⟩⟩
  case rest =>
    clear q0 q2 q3 q4 q5 q6 q7 c0 S B G
    obtain ⟨rfl, S, B, G⟩ := hcut
    obtain ⟨q0, q2, q3, q4, q5, q6, q7⟩ := op_cells G.out
    rw [HK.out] at q0
    have htz := HO.out.text
    obtain ⟨X, E, t1, t2⟩ := right_two L r o.text o.key (by omega) g b g' b'
    have T1 := Aside0.mk t1
    have T2 := Aside0.mk t2
    clear t1 t2 htz
    go_wp2_with fail
    clear q0 q2 q3 q4 q5 q6 q7
    refine (T1.out _ S.out).mono ?_
    rintro e y1 ⟨rfl, hb⟩
    replace B := Aside0.mk (B.out.trans (hb.mono B.out.size))
    replace S := Aside0.mk (S.out.step hb)
    replace G := Aside0.mk (G.out.step hb)
    clear hb
    obtain ⟨q0, q2, q3, q4, q5, q6, q7⟩ := op_cells G.out
    rw [HK.out] at q0
    go_wp2_with fail
    clear q0 q2 q3 q4 q5 q6 q7
    refine (T2.out _ S.out).mono ?_
    rintro e y2 ⟨rfl, hb⟩
    replace B := Aside0.mk (B.out.trans (hb.mono B.out.size))
    replace S := Aside0.mk (S.out.step hb)
    replace G := Aside0.mk (G.out.step hb)
    clear hb
    go_wp2_with fail
    go_ret
    exact ⟨by simp, L, HL.out, rfl, S.out, .of_below B.out⟩
set_option maxHeartbeats 8000000 in
set_option maxRecDepth 100000 in
theorem play_own (L : List SlotD) (hL : GoodL L) (hn32 : L.length ≤ 32) (o : OpD) (ho : GoodO o) (hk : o.kind = 5) (g b g' b' : Nat) (w : World) (h : Two w g b g' b' L L) :
    Calls Tryz.prog 7 #[.pointer (some ⟨g, 0, none⟩), .pointer (some ⟨g', 0, none⟩), .agg (opCells o)] w (StepTo L g b g' b' w) := by
  have S := Aside0.mk (h.step (below_alloc (Below.refl w.heap.size w) (.cells (opCells o) 35)))
  have B : Aside0 (Below w.heap.size w (w.alloc (.cells (opCells o) 35))) := ⟨below_alloc (Below.refl _ _) _⟩
  have G : Aside0 (Blk (w.alloc (.cells (opCells o) 35)) w.heap.size 35 (opCells o)) := ⟨Blk.new w 35 _⟩
  have HO := Aside0.mk ho
  have HL := Aside0.mk hL
  obtain ⟨r, hr1, hr2, nr⟩ := near_any o.slot L.length ho.slot (by omega)
  have NR := Aside0.mk nr
  have HK := Aside0.mk hk
  clear h ho hL nr hk
  have hw1 : w.alloc (.cells (opCells o) 35) = w.alloc (.cells #[.int .i64 o.kind, .int .i64 o.on, .int .i64 o.slot, .int .i64 o.alg, .int .i64 o.method, .string o.key, .string o.exch, .string o.text] 35) := rfl
  rw [hw1] at S B G
  clear hw1
  rw [show opCells o = #[.int .i64 o.kind, .int .i64 o.on, .int .i64 o.slot, .int .i64 o.alg, .int .i64 o.method, .string o.key, .string o.exch, .string o.text] from rfl]
  go_enter Tryz.func7, Tryz.ntmps7
  go_upto_region 1 with fail
  generalize w.alloc (.cells #[.int .i64 o.kind, .int .i64 o.on, .int .i64 o.slot, .int .i64 o.alg, .int .i64 o.method, .string o.key, .string o.exch, .string o.text] 35) = w1 at *
  obtain ⟨q0, q2, q3, q4, q5, q6, q7⟩ := op_cells G.out
  have c0 := S.out.r.cell0
  go_cut [7] from 23 to 30 (fun v7 wx => v7 = .int .i64 r ∧ Aside0 (Two wx g b g' b' L L) ∧ Aside0 (Below w.heap.size w wx) ∧ Aside0 (Blk wx w.heap.size 35 (opCells o)))
  case first =>
    go_region_held (fun w' => w'.cell? ⟨w.heap.size, 2, none⟩ = some (.int .i64 o.slot) ∧ w'.cell? ⟨g', 0, none⟩ = some (.slice (some ⟨b', 0, none⟩) L.length L.length)) (first | exact ⟨q2, c0⟩ | exact ⟨(G.out.drew.step hb).cell 2, (S.out.drew.step hb).r.cell0⟩) (first | (go_at_call 12; refine (NR.out _).mono ?_; rintro e w2 ⟨rfl, hb⟩))
    all_goals
      go_wp2_with fail
      go_meet
      exact ⟨rfl, ⟨S.out.drew.step hb⟩, ⟨B.out.drew.trans (hb.mono B.out.drew.size)⟩, ⟨G.out.drew.step hb⟩⟩
  case rest =>
    clear q0 q2 q3 q4 q5 q6 q7 c0 S B G
    obtain ⟨rfl, S, B, G⟩ := hcut
    obtain ⟨q0, q2, q3, q4, q5, q6, q7⟩ := op_cells G.out
    rw [HK.out] at q0
    have htz := HO.out.text
    obtain ⟨T, E, hT, t1, t2⟩ := tag_two L r o.text (by omega) g b g' b'
    obtain ⟨T', bt⟩ := bent_any T (by omega) o.alg HO.out.alg
    obtain ⟨p, _, _, p3⟩ := pickI_any o.alg 3 HO.out.alg (by decide) (by decide)
    obtain ⟨X, E1, u1, u2⟩ := right_two L r o.text T (by omega) g b g' b'
    obtain ⟨X', E2, v1, v2⟩ := right_two L r o.text T' (by omega) g b g' b'
    have T2 := Aside0.mk t2
    have BT := Aside0.mk bt
    have P3 := Aside0.mk p3
    have U1 := Aside0.mk u1
    have U2 := Aside0.mk u2
    have V1 := Aside0.mk v1
    have V2 := Aside0.mk v2
    clear t1 t2 u1 u2 v1 v2 htz hT bt p3
    go_wp2_with fail
    clear q0 q2 q3 q4 q5 q6 q7
    refine (T2.out _ S.out).mono ?_
    rintro e y1 ⟨rfl, hb⟩
    replace B := Aside0.mk (B.out.trans (hb.mono B.out.size))
    replace S := Aside0.mk (S.out.step hb)
    replace G := Aside0.mk (G.out.step hb)
    clear hb
    obtain ⟨q0, q2, q3, q4, q5, q6, q7⟩ := op_cells G.out
    rw [HK.out] at q0
    go_wp2_with fail
    clear q0 q2 q3 q4 q5 q6 q7
    refine (P3.out _).mono ?_
    rintro e y2 ⟨rfl, hb⟩
    replace B := Aside0.mk (B.out.trans (hb.mono B.out.size))
    replace S := Aside0.mk (S.out.step hb)
    replace G := Aside0.mk (G.out.step hb)
    clear hb
    rcases hp : (p == 2) with _ | _
    · skip
      obtain ⟨q0, q2, q3, q4, q5, q6, q7⟩ := op_cells G.out
      rw [HK.out] at q0
      go_wp2_with fail
      clear q0 q2 q3 q4 q5 q6 q7
      refine (U1.out _ S.out).mono ?_
      rintro e z1 ⟨rfl, hb⟩
      replace B := Aside0.mk (B.out.trans (hb.mono B.out.size))
      replace S := Aside0.mk (S.out.step hb)
      replace G := Aside0.mk (G.out.step hb)
      clear hb
      obtain ⟨q0, q2, q3, q4, q5, q6, q7⟩ := op_cells G.out
      rw [HK.out] at q0
      go_wp2_with fail
      clear q0 q2 q3 q4 q5 q6 q7
      refine (U2.out _ S.out).mono ?_
      rintro e z2 ⟨rfl, hb⟩
      replace B := Aside0.mk (B.out.trans (hb.mono B.out.size))
      replace S := Aside0.mk (S.out.step hb)
      replace G := Aside0.mk (G.out.step hb)
      clear hb
      go_wp2_with fail
      go_ret
      exact ⟨by simp, L, HL.out, rfl, S.out, .of_below B.out⟩
    · skip
      obtain ⟨q0, q2, q3, q4, q5, q6, q7⟩ := op_cells G.out
      rw [HK.out] at q0
      go_wp2_with fail
      clear q0 q2 q3 q4 q5 q6 q7
      refine (BT.out _).mono ?_
      rintro e y3 ⟨rfl, hb⟩
      replace B := Aside0.mk (B.out.trans (hb.mono B.out.size))
      replace S := Aside0.mk (S.out.step hb)
      replace G := Aside0.mk (G.out.step hb)
      clear hb
      obtain ⟨q0, q2, q3, q4, q5, q6, q7⟩ := op_cells G.out
      rw [HK.out] at q0
      go_wp2_with fail
      clear q0 q2 q3 q4 q5 q6 q7
      refine (V1.out _ S.out).mono ?_
      rintro e z1 ⟨rfl, hb⟩
      replace B := Aside0.mk (B.out.trans (hb.mono B.out.size))
      replace S := Aside0.mk (S.out.step hb)
      replace G := Aside0.mk (G.out.step hb)
      clear hb
      obtain ⟨q0, q2, q3, q4, q5, q6, q7⟩ := op_cells G.out
      rw [HK.out] at q0
      go_wp2_with fail
      clear q0 q2 q3 q4 q5 q6 q7
      refine (V2.out _ S.out).mono ?_
      rintro e z2 ⟨rfl, hb⟩
      replace B := Aside0.mk (B.out.trans (hb.mono B.out.size))
      replace S := Aside0.mk (S.out.step hb)
      replace G := Aside0.mk (G.out.step hb)
      clear hb
      go_wp2_with fail
      go_ret
      exact ⟨by simp, L, HL.out, rfl, S.out, .of_below B.out⟩
set_option maxHeartbeats 8000000 in
set_option maxRecDepth 100000 in
theorem play_change (L : List SlotD) (hL : GoodL L) (hn32 : L.length ≤ 32) (o : OpD) (ho : GoodO o) (hk : o.kind = 6 ∨ o.kind = 7 ∨ o.kind = 8) (g b g' b' : Nat) (w : World) (h : Two w g b g' b' L L) :
    Calls Tryz.prog 7 #[.pointer (some ⟨g, 0, none⟩), .pointer (some ⟨g', 0, none⟩), .agg (opCells o)] w (StepTo L g b g' b' w) := by
  have S := Aside0.mk (h.step (below_alloc (Below.refl w.heap.size w) (.cells (opCells o) 35)))
  have B : Aside0 (Below w.heap.size w (w.alloc (.cells (opCells o) 35))) := ⟨below_alloc (Below.refl _ _) _⟩
  have G : Aside0 (Blk (w.alloc (.cells (opCells o) 35)) w.heap.size 35 (opCells o)) := ⟨Blk.new w 35 _⟩
  have HO := Aside0.mk ho
  have HL := Aside0.mk hL
  obtain ⟨r, hr1, hr2, nr⟩ := near_any o.slot L.length ho.slot (by omega)
  have NR := Aside0.mk nr
  have HK := Aside0.mk hk
  clear h ho hL nr hk
  have hw1 : w.alloc (.cells (opCells o) 35) = w.alloc (.cells #[.int .i64 o.kind, .int .i64 o.on, .int .i64 o.slot, .int .i64 o.alg, .int .i64 o.method, .string o.key, .string o.exch, .string o.text] 35) := rfl
  rw [hw1] at S B G
  clear hw1
  rw [show opCells o = #[.int .i64 o.kind, .int .i64 o.on, .int .i64 o.slot, .int .i64 o.alg, .int .i64 o.method, .string o.key, .string o.exch, .string o.text] from rfl]
  go_enter Tryz.func7, Tryz.ntmps7
  go_upto_region 1 with fail
  generalize w.alloc (.cells #[.int .i64 o.kind, .int .i64 o.on, .int .i64 o.slot, .int .i64 o.alg, .int .i64 o.method, .string o.key, .string o.exch, .string o.text] 35) = w1 at *
  obtain ⟨q0, q2, q3, q4, q5, q6, q7⟩ := op_cells G.out
  have c0 := S.out.r.cell0
  go_cut [7] from 23 to 30 (fun v7 wx => v7 = .int .i64 r ∧ Aside0 (Two wx g b g' b' L L) ∧ Aside0 (Below w.heap.size w wx) ∧ Aside0 (Blk wx w.heap.size 35 (opCells o)))
  case first =>
    go_region_held (fun w' => w'.cell? ⟨w.heap.size, 2, none⟩ = some (.int .i64 o.slot) ∧ w'.cell? ⟨g', 0, none⟩ = some (.slice (some ⟨b', 0, none⟩) L.length L.length)) (first | exact ⟨q2, c0⟩ | exact ⟨(G.out.drew.step hb).cell 2, (S.out.drew.step hb).r.cell0⟩) (first | (go_at_call 12; refine (NR.out _).mono ?_; rintro e w2 ⟨rfl, hb⟩))
    all_goals
      go_wp2_with fail
      go_meet
      exact ⟨rfl, ⟨S.out.drew.step hb⟩, ⟨B.out.drew.trans (hb.mono B.out.drew.size)⟩, ⟨G.out.drew.step hb⟩⟩
  case rest =>
    clear q0 q2 q3 q4 q5 q6 q7 c0 S B G
    obtain ⟨rfl, S, B, G⟩ := hcut
    obtain ⟨q0, q2, q3, q4, q5, q6, q7⟩ := op_cells G.out
    have q1 : wc.cell? ⟨w.heap.size, 1, none⟩ = some (.int .i64 o.on) := G.out.cell 1
    have C := Aside0.mk (changes_any L HL.out hn32 r ⟨hr1, hr2⟩ o HO.out g b g' b' wc S.out)
    have HOP : Aside0 (opCells o = #[.int .i64 o.kind, .int .i64 o.on, .int .i64 o.slot, .int .i64 o.alg, .int .i64 o.method, .string o.key, .string o.exch, .string o.text]) := ⟨rfl⟩
    rw [HOP.out] at C
    have HK2 := HK.out
    clear HK
    generalize o.kind = kd at *
    rcases HK2 with rfl | rfl | rfl
    all_goals
      go_wp2_with fail
      refine C.out.mono ?_
      rintro e x1 ⟨rfl, L', hG, hl, hS, hb⟩
      have K := Aside0.mk ((Kp2.of_below (c := b) (d := b') B.out).also (hb.mono B.out.size))
      replace S := Aside0.mk hS
      clear hS hb B G q0 q1 q2 q3 q4 q5 q6 q7
      go_wp2_with fail
      go_ret
      exact ⟨rfl, L', hG, hl, S.out, K.out⟩
set_option maxHeartbeats 8000000 in
set_option maxRecDepth 100000 in
theorem play_none (L : List SlotD) (hL : GoodL L) (hn32 : L.length ≤ 32) (o : OpD) (ho : GoodO o) (hk : o.kind < 1 ∨ 8 < o.kind) (g b g' b' : Nat) (w : World) (h : Two w g b g' b' L L) :
    Calls Tryz.prog 7 #[.pointer (some ⟨g, 0, none⟩), .pointer (some ⟨g', 0, none⟩), .agg (opCells o)] w (StepTo L g b g' b' w) := by
  have S := Aside0.mk (h.step (below_alloc (Below.refl w.heap.size w) (.cells (opCells o) 35)))
  have B : Aside0 (Below w.heap.size w (w.alloc (.cells (opCells o) 35))) := ⟨below_alloc (Below.refl _ _) _⟩
  have G : Aside0 (Blk (w.alloc (.cells (opCells o) 35)) w.heap.size 35 (opCells o)) := ⟨Blk.new w 35 _⟩
  have HO := Aside0.mk ho
  have HL := Aside0.mk hL
  obtain ⟨r, hr1, hr2, nr⟩ := near_any o.slot L.length ho.slot (by omega)
  have NR := Aside0.mk nr
  have HK := Aside0.mk hk
  clear h ho hL nr hk
  have hw1 : w.alloc (.cells (opCells o) 35) = w.alloc (.cells #[.int .i64 o.kind, .int .i64 o.on, .int .i64 o.slot, .int .i64 o.alg, .int .i64 o.method, .string o.key, .string o.exch, .string o.text] 35) := rfl
  rw [hw1] at S B G
  clear hw1
  rw [show opCells o = #[.int .i64 o.kind, .int .i64 o.on, .int .i64 o.slot, .int .i64 o.alg, .int .i64 o.method, .string o.key, .string o.exch, .string o.text] from rfl]
  go_enter Tryz.func7, Tryz.ntmps7
  go_upto_region 1 with fail
  generalize w.alloc (.cells #[.int .i64 o.kind, .int .i64 o.on, .int .i64 o.slot, .int .i64 o.alg, .int .i64 o.method, .string o.key, .string o.exch, .string o.text] 35) = w1 at *
  obtain ⟨q0, q2, q3, q4, q5, q6, q7⟩ := op_cells G.out
  have c0 := S.out.r.cell0
  go_cut [7] from 23 to 30 (fun v7 wx => v7 = .int .i64 r ∧ Aside0 (Two wx g b g' b' L L) ∧ Aside0 (Below w.heap.size w wx) ∧ Aside0 (Blk wx w.heap.size 35 (opCells o)))
  case first =>
    go_region_held (fun w' => w'.cell? ⟨w.heap.size, 2, none⟩ = some (.int .i64 o.slot) ∧ w'.cell? ⟨g', 0, none⟩ = some (.slice (some ⟨b', 0, none⟩) L.length L.length)) (first | exact ⟨q2, c0⟩ | exact ⟨(G.out.drew.step hb).cell 2, (S.out.drew.step hb).r.cell0⟩) (first | (go_at_call 12; refine (NR.out _).mono ?_; rintro e w2 ⟨rfl, hb⟩))
    all_goals
      go_wp2_with fail
      go_meet
      exact ⟨rfl, ⟨S.out.drew.step hb⟩, ⟨B.out.drew.trans (hb.mono B.out.drew.size)⟩, ⟨G.out.drew.step hb⟩⟩
  case rest =>
    clear q0 q2 q3 q4 q5 q6 q7 c0 S B G
    obtain ⟨rfl, S, B, G⟩ := hcut
    obtain ⟨q0, q2, q3, q4, q5, q6, q7⟩ := op_cells G.out
    have e1 : (o.kind == 1) = false := by have := HK.out; rw [beq_eq_false_iff_ne]; omega
    have e2 : (o.kind == 2) = false := by have := HK.out; rw [beq_eq_false_iff_ne]; omega
    have e3 : (o.kind == 3) = false := by have := HK.out; rw [beq_eq_false_iff_ne]; omega
    have e4 : (o.kind == 4) = false := by have := HK.out; rw [beq_eq_false_iff_ne]; omega
    have e5 : (o.kind == 5) = false := by have := HK.out; rw [beq_eq_false_iff_ne]; omega
    have e6 : (o.kind == 6) = false := by have := HK.out; rw [beq_eq_false_iff_ne]; omega
    have e7 : (o.kind == 7) = false := by have := HK.out; rw [beq_eq_false_iff_ne]; omega
    have e8 : (o.kind == 8) = false := by have := HK.out; rw [beq_eq_false_iff_ne]; omega
    go_wp2_with fail
    go_ret
    exact ⟨rfl, L, HL.out, rfl, S.out, .of_below B.out⟩
theorem play_any (L : List SlotD) (hL : GoodL L) (hn32 : L.length ≤ 32) (o : OpD) (ho : GoodO o) (g b g' b' : Nat) (w : World) (h : Two w g b g' b' L L) :
    Calls Tryz.prog 7 #[.pointer (some ⟨g, 0, none⟩), .pointer (some ⟨g', 0, none⟩), .agg (opCells o)] w (StepTo L g b g' b' w) := by
  have : (o.kind < 1 ∨ 8 < o.kind) ∨ o.kind = 1 ∨ o.kind = 2 ∨ o.kind = 3 ∨ o.kind = 4 ∨ o.kind = 5 ∨ (o.kind = 6 ∨ o.kind = 7 ∨ o.kind = 8) := by omega
  rcases this with hk | hk | hk | hk | hk | hk | hk
  · exact play_none L hL hn32 o ho hk g b g' b' w h
  · exact play_put L hL hn32 o ho hk g b g' b' w h
  · exact play_fit L hL hn32 o ho hk g b g' b' w h
  · exact play_tag L hL hn32 o ho hk g b g' b' w h
  · exact play_right L hL hn32 o ho hk g b g' b' w h
  · exact play_own L hL hn32 o ho hk g b g' b' w h
  · exact play_change L hL hn32 o ho hk g b g' b' w h
end Go.Proofs.YtopobangjpehnaaGreat.Seal
