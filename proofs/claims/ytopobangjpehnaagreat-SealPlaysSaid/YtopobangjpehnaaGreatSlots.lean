/- seal.Slots in memory, and its methods: NewSlots, at, Tag, Right, Round, Put. -/
import Derived.Test.YtopobangjpehnaaGreatFitted
import Derived.Test.YtopobangjpehnaaGreatLocks
import Derived.StillTailTactics
set_option linter.unusedVariables false
set_option linter.unusedSimpArgs false
namespace Go.Proofs.YtopobangjpehnaaGreat.Seal
open Go.RowKit Go.Proofs.YtopobangjpehnaaGreatW.PrintWords Go.Proofs.YtopobangjpehnaaGreatW.PrintLast Go.Proofs.YtopobangjpehnaaGreatW.PrintMore Pr Des Num Walk
open Go.MuLone

/-- What a slot has. -/
structure SlotD where
  alg : Int
  method : Int
  key : ByteArray
  exchange : ByteArray
  round : Int
def emptySlot : SlotD := ⟨0, 0, ⟨#[]⟩, ⟨#[]⟩, 0⟩
def slotCells (x : SlotD) : List Value := [.int .i64 x.alg, .int .i64 x.method, .string x.key, .string x.exchange, .int .i64 x.round]
def allCells (L : List SlotD) : Array Value := (L.flatMap slotCells).toArray
theorem allCells_at (L : List SlotD) (i j : Nat) (hi : i < L.length) (hj : j < 5) : (allCells L)[i * 5 + j]? = (slotCells L[i])[j]? := by
  unfold allCells
  rw [List.getElem?_toArray]
  induction L generalizing i with
  | nil => simp at hi
  | cons x L ih =>
    rw [List.flatMap_cons]
    cases i with
    | zero => rw [Nat.zero_mul, Nat.zero_add, List.getElem?_append_left (by simp [slotCells]; exact hj)]; rfl
    | succ i =>
      rw [List.getElem?_append_right (by simp [slotCells]; omega)]
      have := ih i (by simpa using hi)
      rw [show (i + 1) * 5 + j - (slotCells x).length = i * 5 + j by simp [slotCells]; omega, this]
      rfl
theorem allCells_size (L : List SlotD) : (allCells L).size = L.length * 5 := by
  unfold allCells
  rw [List.size_toArray]
  induction L with
  | nil => rfl
  | cons x L ih => rw [List.flatMap_cons, List.length_append, ih]; simp [slotCells]; omega
/-- The row of slots at g, its slots at b; the lock as s says. -/
structure SlotsIn (w : World) (g b : Nat) (L : List SlotD) (s : Int) : Prop where
  head : Blk w g 53 #[.int .i32 s, .int .u32 0, .slice (some ⟨b, 0, none⟩) L.length L.length]
  body : Blk w b 62 (allCells L)
abbrev SlotsAt (w : World) (g b : Nat) (L : List SlotD) : Prop := SlotsIn w g b L 0
theorem SlotsIn.ne {w : World} {g b : Nat} {L : List SlotD} {s : Int} (h : SlotsIn w g b L s) : g ≠ b := h.head.ne_ h.body (by decide)
theorem SlotsIn.step {w w' : World} {g b : Nat} {L : List SlotD} {s : Int} (h : SlotsIn w g b L s) (hb : Below w.heap.size w w') : SlotsIn w' g b L s := ⟨h.head.step hb, h.body.step hb⟩
theorem SlotsIn.lock {w : World} {g b : Nat} {L : List SlotD} {s : Int} (h : SlotsIn w g b L s) (t : Int) : SlotsIn (w.setCell ⟨g, 0, none⟩ (.int .i32 t)) g b L t :=
  ⟨h.head.set_ 0 _, h.body.far (p := ⟨g, 0, none⟩) h.ne.symm _⟩
theorem SlotsIn.cell0 {w : World} {g b : Nat} {L : List SlotD} {s : Int} (h : SlotsIn w g b L s) : w.cell? ⟨g, 0, none⟩ = some (.int .i32 s) := h.head.cell 0
theorem SlotsIn.cell2 {w : World} {g b : Nat} {L : List SlotD} {s : Int} (h : SlotsIn w g b L s) : w.cell? ⟨g, 2, none⟩ = some (.slice (some ⟨b, 0, none⟩) L.length L.length) := h.head.cell 2
theorem SlotsIn.slot {w : World} {g b : Nat} {L : List SlotD} {s : Int} (h : SlotsIn w g b L s) (i : Nat) (hi : i < L.length) :
    w.cell? ⟨b, i * 5, none⟩ = some (.int .i64 L[i].alg) ∧ w.cell? ⟨b, i * 5 + 1, none⟩ = some (.int .i64 L[i].method) ∧ w.cell? ⟨b, i * 5 + 2, none⟩ = some (.string L[i].key) ∧ w.cell? ⟨b, i * 5 + 3, none⟩ = some (.string L[i].exchange) ∧ w.cell? ⟨b, i * 5 + 4, none⟩ = some (.int .i64 L[i].round) := by
  have e := fun j hj => (h.body.cell (i * 5 + j)).trans (allCells_at L i j hi hj)
  exact ⟨e 0 (by decide), e 1 (by decide), e 2 (by decide), e 3 (by decide), e 4 (by decide)⟩
/-- The lock taken, and given back behind whatever left all that lay there: as it was. -/
theorem lock_back {w W : World} {g b : Nat} {L : List SlotD} (h : SlotsAt w g b L) (hb : Below (w.setCell ⟨g, 0, none⟩ (.int .i32 1)).heap.size (w.setCell ⟨g, 0, none⟩ (.int .i32 1)) W) :
    Below w.heap.size w (W.setCell ⟨g, 0, none⟩ (.int .i32 0)) := by
  have hsz : (w.setCell ⟨g, 0, none⟩ (.int .i32 1)).heap.size = w.heap.size := by simp [World.setCell]
  have h1 := (h.lock 1).step hb
  have h0 := h1.lock 0
  refine ⟨hb.os, hb.tape, hb.output, by have := hb.size; rw [hsz] at this; simpa [World.setCell] using this, fun k hk => ?_⟩
  by_cases e : k = g
  · subst e; exact h0.head.trans h.head.symm
  · exact (Below.heap_setCell W ⟨g, 0, none⟩ _ k e).trans ((hb.block k (by rw [hsz]; exact hk)).trans (Below.heap_setCell w ⟨g, 0, none⟩ _ k e))

/-- No panic is asked for: in a function with a deferred call a region's steps may be taken in one order then. -/
def calm (Q : Exit → Act → World → Prop) : Exit → Act → World → Prop
  | .panic _, _, _ => False
  | e, a, w => Q e a w
theorem calm_region {P : Program} {id : Nat} {ops : Array Oper} {d : Bool} {Q : Exit → Act → World → Prop} {a : Act} {w : World} (h : (Code.region id ops d).wp P (calm Q) a w) : (Code.region id ops d).wp P Q a w :=
  Code.wp_mono (fun e a w h => by cases e <;> first | exact h | exact h.elim) h
theorem calm_normal {Q : Exit → Act → World → Prop} {a : Act} {w : World} (h : Q .normal a w) : calm Q .normal a w := h

/-! ### at -/
set_option maxHeartbeats 2000000 in
set_option maxRecDepth 100000 in
theorem at_out (g b : Nat) (L : List SlotD) (s : Int) (i : Int) (hi : i < 0 ∨ (L.length : Int) ≤ i) (w : World) (h : SlotsIn w g b L s) :
    Calls Tryz.prog 22 #[.pointer (some ⟨g, 0, none⟩), .int .i64 i] w fun e w' => e = .returned (.pointer none) ∧ Below w.heap.size w w' := by
  have c2 := h.cell2
  clear h
  rcases hi with hi | hi
  · go_enter Tryz.func22, Tryz.ntmps22
    go_wp2
    go_ret
    exact ⟨rfl, Below.refl _ _⟩
  · have hi0 : ¬ i < 0 := by omega
    go_enter Tryz.func22, Tryz.ntmps22
    go_wp2
    go_ret
    exact ⟨rfl, Below.refl _ _⟩
set_option maxHeartbeats 2000000 in
set_option maxRecDepth 100000 in
theorem at_in (g b : Nat) (L : List SlotD) (s : Int) (i : Nat) (hi : i < L.length) (w : World) (h : SlotsIn w g b L s) :
    Calls Tryz.prog 22 #[.pointer (some ⟨g, 0, none⟩), .int .i64 (i : Int)] w fun e w' => e = .returned (.pointer (some ⟨b, i * 5, none⟩)) ∧ Below w.heap.size w w' := by
  have c2 := h.cell2
  clear h
  generalize L.length = n at *
  go_enter Tryz.func22, Tryz.ntmps22
  go_wp2
  go_ret
  exact ⟨rfl, Below.refl _ _⟩

/-! ### Tag -/
set_option maxHeartbeats 4000000 in
set_option maxRecDepth 100000 in
theorem stag_out (g b : Nat) (L : List SlotD) (i : Int) (hi : i < 0 ∨ (L.length : Int) ≤ i) (s : ByteArray) (w : World) (h : SlotsAt w g b L) :
    Calls Tryz.prog 8 #[.pointer (some ⟨g, 0, none⟩), .int .i64 i, .string s] w fun e w' => e = .returned (.tuple #[.string ⟨#[]⟩, .int .i64 40]) ∧ Below w.heap.size w w' := by
  have c0 := h.cell0
  have f0 := h.head.frozen 0
  have H := Aside0.mk h
  have AT := Aside0.mk (fun W hW => at_out g b L 1 i hi W hW)
  clear h hi
  go_enter_defers Tryz.func8, Tryz.ntmps8
  go_wp2_with fail
  refine (lock_free muLib ⟨g, 0, none⟩ _ c0 f0).mono ?_
  rintro e w1 ⟨rfl, hw1⟩
  have HB := Aside0.mk (fun W (hb : Below w1.heap.size w1 W) => by rw [hw1] at hb; exact lock_back H.out hb)
  have H1 : Aside0 (SlotsIn w1 g b L 1) := ⟨by rw [hw1]; exact H.out.lock 1⟩
  clear hw1 c0 f0 H
  go_wp2_with fail
  refine (AT.out _ H1.out).mono ?_
  rintro e w2 ⟨rfl, hb⟩
  have B := Aside0.mk hb
  replace H1 := Aside0.mk (H1.out.step hb)
  clear hb AT
  go_wp2_with fail
  refine leaves_cons (f := 21) (args := #[.pointer (some ⟨g, 0, none⟩)]) (by simp) (by simp [go_sem]) ?_
  refine (unlock_deferred muLib ⟨g, 0, none⟩ .returning _ H1.out.cell0 (H1.out.head.frozen 0)).mono ?_
  rintro e u' w3 ⟨rfl, rfl, rfl⟩
  exact ⟨_, results_tmp2 rfl _ _ _, rfl, HB.out _ B.out⟩
set_option maxHeartbeats 4000000 in
set_option maxRecDepth 100000 in
theorem stag_empty (g b : Nat) (L : List SlotD) (i : Nat) (hi : i < L.length) (h0 : L[i].alg = 0) (s : ByteArray) (w : World) (h : SlotsAt w g b L) :
    Calls Tryz.prog 8 #[.pointer (some ⟨g, 0, none⟩), .int .i64 (i : Int), .string s] w fun e w' => e = .returned (.tuple #[.string ⟨#[]⟩, .int .i64 40]) ∧ Below w.heap.size w w' := by
  have c0 := h.cell0
  have f0 := h.head.frozen 0
  have H := Aside0.mk h
  have AT := Aside0.mk (fun W hW => at_in g b L 1 i hi W hW)
  have HS := Aside0.mk (fun W (hW : SlotsIn W g b L 1) => by have := (hW.slot i hi).1; rw [h0] at this; exact this)
  clear h hi h0
  go_enter_defers Tryz.func8, Tryz.ntmps8
  go_wp2_with fail
  refine (lock_free muLib ⟨g, 0, none⟩ _ c0 f0).mono ?_
  rintro e w1 ⟨rfl, hw1⟩
  have HB := Aside0.mk (fun W (hb : Below w1.heap.size w1 W) => by rw [hw1] at hb; exact lock_back H.out hb)
  have H1 : Aside0 (SlotsIn w1 g b L 1) := ⟨by rw [hw1]; exact H.out.lock 1⟩
  clear hw1 c0 f0 H
  go_wp2_with fail
  refine (AT.out _ H1.out).mono ?_
  rintro e w2 ⟨rfl, hb⟩
  have B := Aside0.mk hb
  replace H1 := Aside0.mk (H1.out.step hb)
  clear hb AT
  have q0 := HS.out _ H1.out
  go_wp2_with fail
  refine leaves_cons (f := 21) (args := #[.pointer (some ⟨g, 0, none⟩)]) (by simp) (by simp [go_sem]) ?_
  refine (unlock_deferred muLib ⟨g, 0, none⟩ .returning _ H1.out.cell0 (H1.out.head.frozen 0)).mono ?_
  rintro e u' wz ⟨rfl, rfl, rfl⟩
  exact ⟨_, results_tmp2 rfl _ _ _, rfl, HB.out _ B.out⟩
set_option maxHeartbeats 4000000 in
set_option maxRecDepth 100000 in
theorem stag_in (g b : Nat) (L : List SlotD) (i : Nat) (hi : i < L.length) (h0 : L[i].alg ≠ 0) (s : ByteArray) (hs : s.size ≤ 140737488354000) (w : World) (h : SlotsAt w g b L) :
    Calls Tryz.prog 8 #[.pointer (some ⟨g, 0, none⟩), .int .i64 (i : Int), .string s] w fun e w' => e = .returned (.tuple #[.string (tagT L[i].alg L[i].method L[i].key s), .int .i64 (tagE L[i].alg L[i].method L[i].key)]) ∧ Below w.heap.size w w' := by
  have c0 := h.cell0
  have f0 := h.head.frozen 0
  have H := Aside0.mk h
  have AT := Aside0.mk (fun W hW => at_in g b L 1 i hi W hW)
  have b0 : (L[i].alg == 0) = false := by rw [beq_eq_false_iff_ne]; exact h0
  have T := Aside0.mk (tag_all L[i].alg L[i].method L[i].key s hs)
  have HS := Aside0.mk (fun W (hW : SlotsIn W g b L 1) => hW.slot i hi)
  generalize L[i] = x at *
  clear h hi h0 hs
  go_enter_defers Tryz.func8, Tryz.ntmps8
  go_wp2_with fail
  refine (lock_free muLib ⟨g, 0, none⟩ _ c0 f0).mono ?_
  rintro e w1 ⟨rfl, hw1⟩
  have HB := Aside0.mk (fun W (hb : Below w1.heap.size w1 W) => by rw [hw1] at hb; exact lock_back H.out hb)
  have H1 : Aside0 (SlotsIn w1 g b L 1) := ⟨by rw [hw1]; exact H.out.lock 1⟩
  clear hw1 c0 f0 H
  go_wp2_with fail
  refine (AT.out _ H1.out).mono ?_
  rintro e w2 ⟨rfl, hb⟩
  have B := Aside0.mk hb
  replace H1 := Aside0.mk (H1.out.step hb)
  clear hb AT
  obtain ⟨q0, q1, q2, q3, q4⟩ := HS.out _ H1.out
  go_wp2_with fail
  refine calm_region ?_
  go_region_with (go_at_call 23; refine (T.out _).mono ?_; rintro e w3 ⟨rfl, hb⟩)
  all_goals
    have b3 := B.out.drew.trans (hb.mono B.out.size)
    have H3 := Aside0.mk (SlotsIn.step (w := w2.drew) ⟨H1.out.head, H1.out.body⟩ hb)
    have B3 := Aside0.mk b3
    clear b3 hb B H1 HS q0 q1 q2 q3 q4 b0
    rename Aside0 (SlotsIn w3 g b L 1) => H1
    rename Aside0 (Below w1.heap.size w1 w3) => B
    refine calm_normal ?_
    go_wp2_with fail
    refine leaves_cons (f := 21) (args := #[.pointer (some ⟨g, 0, none⟩)]) (by simp) (by simp [go_sem]) ?_
    refine (unlock_deferred muLib ⟨g, 0, none⟩ .returning _ H1.out.cell0 (H1.out.head.frozen 0)).mono ?_
    rintro e u' wz ⟨rfl, rfl, rfl⟩
    exact ⟨_, results_tmp2 rfl _ _ _, rfl, HB.out _ B.out⟩
end Go.Proofs.YtopobangjpehnaaGreat.Seal
