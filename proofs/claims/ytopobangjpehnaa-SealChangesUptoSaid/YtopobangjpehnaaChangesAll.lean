/- sync.Mutex's numbers; seal.Slots and its methods; the walk of the law SealChanges. -/
import Derived.Test.YtopobangjpehnaaProg
import Derived.Conc.MuLone
import Derived.KernelRfl
import Derived.Test.YtopobangjpehnaaFitted
import Derived.StillTailTactics
import Derived.Test.YtopobangjpehnaaWeak
namespace Go.Proofs.Ytopobangjpehnaa
open Go.Conc.Locks
abbrev muLink : MuLink := { lock := 60, unlock := 61, ilock := 88, iunlock := 89, lockSlow := 101, unlockSlow := 104, disable := 97, enable := 99, acquire := 100, relMerge := 102, cas32 := 98, add32 := 103, tMutex := 82, tIMutex := 80, tPMutex := 115, tPIMutex := 121, tPI32 := 123, tUP := 125, tNoCopy := 77, tU32 := 78 }
theorem muLib : MuLib Try.prog muLink :=
  ⟨Try.func60, Try.func61, Try.func88, Try.func89, Try.func97, Try.func99, Try.func100, Try.func102, Try.func98, Try.func103,
    Try.underlying80, Try.runUnderlying80, Try.sizeOf80, Try.isAgg80, Try.zeroValue80, Try.underlying82, Try.runUnderlying82, Try.sizeOf82, Try.isAgg82, Try.zeroValue82,
    Try.underlying115, Try.runUnderlying115, Try.sizeOf115, Try.isAgg115, Try.zeroValue115, Try.underlying121, Try.runUnderlying121, Try.sizeOf121, Try.isAgg121, Try.zeroValue121,
    Try.underlying123, Try.runUnderlying123, Try.sizeOf123, Try.isAgg123, Try.zeroValue123, Try.underlying125, Try.runUnderlying125, Try.sizeOf125, Try.isAgg125, Try.zeroValue125,
    Try.underlying77, Try.runUnderlying77, Try.sizeOf77, Try.isAgg77, Try.zeroValue77, Try.underlying21, Try.runUnderlying21, Try.sizeOf21, Try.isAgg21, Try.zeroValue21, by kernel_rfl⟩
end Go.Proofs.Ytopobangjpehnaa

set_option linter.unusedVariables false
set_option linter.unusedSimpArgs false
namespace Go.Proofs.Ytopobangjpehnaa.Seal
open Go.RowKit Go.Proofs.YtopobangjpehnaaW.PrintWords Go.Proofs.YtopobangjpehnaaW.PrintLast Go.Proofs.YtopobangjpehnaaW.PrintMore Pr Des Num Walk
open Go.MuLone

/-- What a slot has. -/
structure SlotD where
  alg : Int
  method : Int
  key : ByteArray
  exchange : ByteArray
  round : Int
def emptySlot : SlotD := ⟨0, 0, ⟨#[]⟩, ⟨#[]⟩, 0⟩
def slotCells (x : SlotD) : List Value := [.int .i64 x.alg, .int .i64 x.method, .string x.key, .string x.exchange, .int .i64 x.round]
def allCells (L : List SlotD) : Array Value := (L.flatMap slotCells).toArray
theorem allCells_at (L : List SlotD) (i j : Nat) (hi : i < L.length) (hj : j < 5) : (allCells L)[i * 5 + j]? = (slotCells L[i])[j]? := by
  unfold allCells
  rw [List.getElem?_toArray]
  induction L generalizing i with
  | nil => simp at hi
  | cons x L ih =>
    rw [List.flatMap_cons]
    cases i with
    | zero => rw [Nat.zero_mul, Nat.zero_add, List.getElem?_append_left (by simp [slotCells]; exact hj)]; rfl
    | succ i =>
      rw [List.getElem?_append_right (by simp [slotCells]; omega)]
      have := ih i (by simpa using hi)
      rw [show (i + 1) * 5 + j - (slotCells x).length = i * 5 + j by simp [slotCells]; omega, this]
      rfl
theorem allCells_size (L : List SlotD) : (allCells L).size = L.length * 5 := by
  unfold allCells
  rw [List.size_toArray]
  induction L with
  | nil => rfl
  | cons x L ih => rw [List.flatMap_cons, List.length_append, ih]; simp [slotCells]; omega
/-- The row of slots at g, its slots at b; the lock as s says. -/
structure SlotsIn (w : World) (g b : Nat) (L : List SlotD) (s : Int) : Prop where
  head : Blk w g 84 #[.int .i32 s, .int .u32 0, .slice (some ⟨b, 0, none⟩) L.length L.length]
  body : Blk w b 88 (allCells L)
abbrev SlotsAt (w : World) (g b : Nat) (L : List SlotD) : Prop := SlotsIn w g b L 0
theorem SlotsIn.ne {w : World} {g b : Nat} {L : List SlotD} {s : Int} (h : SlotsIn w g b L s) : g ≠ b := h.head.ne_ h.body (by decide)
theorem SlotsIn.step {w w' : World} {g b : Nat} {L : List SlotD} {s : Int} (h : SlotsIn w g b L s) (hb : Below w.heap.size w w') : SlotsIn w' g b L s := ⟨h.head.step hb, h.body.step hb⟩
theorem SlotsIn.lock {w : World} {g b : Nat} {L : List SlotD} {s : Int} (h : SlotsIn w g b L s) (t : Int) : SlotsIn (w.setCell ⟨g, 0, none⟩ (.int .i32 t)) g b L t :=
  ⟨h.head.set_ 0 _, h.body.far (p := ⟨g, 0, none⟩) h.ne.symm _⟩
theorem SlotsIn.cell0 {w : World} {g b : Nat} {L : List SlotD} {s : Int} (h : SlotsIn w g b L s) : w.cell? ⟨g, 0, none⟩ = some (.int .i32 s) := h.head.cell 0
theorem SlotsIn.cell2 {w : World} {g b : Nat} {L : List SlotD} {s : Int} (h : SlotsIn w g b L s) : w.cell? ⟨g, 2, none⟩ = some (.slice (some ⟨b, 0, none⟩) L.length L.length) := h.head.cell 2
theorem SlotsIn.slot {w : World} {g b : Nat} {L : List SlotD} {s : Int} (h : SlotsIn w g b L s) (i : Nat) (hi : i < L.length) :
    w.cell? ⟨b, i * 5, none⟩ = some (.int .i64 L[i].alg) ∧ w.cell? ⟨b, i * 5 + 1, none⟩ = some (.int .i64 L[i].method) ∧ w.cell? ⟨b, i * 5 + 2, none⟩ = some (.string L[i].key) ∧ w.cell? ⟨b, i * 5 + 3, none⟩ = some (.string L[i].exchange) ∧ w.cell? ⟨b, i * 5 + 4, none⟩ = some (.int .i64 L[i].round) := by
  have e := fun j hj => (h.body.cell (i * 5 + j)).trans (allCells_at L i j hi hj)
  exact ⟨e 0 (by decide), e 1 (by decide), e 2 (by decide), e 3 (by decide), e 4 (by decide)⟩
/-- The lock taken, and given back behind whatever left all that lay there: as it was. -/
theorem lock_back {w W : World} {g b : Nat} {L : List SlotD} (h : SlotsAt w g b L) (hb : Below (w.setCell ⟨g, 0, none⟩ (.int .i32 1)).heap.size (w.setCell ⟨g, 0, none⟩ (.int .i32 1)) W) :
    Below w.heap.size w (W.setCell ⟨g, 0, none⟩ (.int .i32 0)) := by
  have hsz : (w.setCell ⟨g, 0, none⟩ (.int .i32 1)).heap.size = w.heap.size := by simp [World.setCell]
  have h1 := (h.lock 1).step hb
  have h0 := h1.lock 0
  refine ⟨hb.os, hb.tape, hb.output, by have := hb.size; rw [hsz] at this; simpa [World.setCell] using this, fun k hk => ?_⟩
  by_cases e : k = g
  · subst e; exact h0.head.trans h.head.symm
  · exact (Below.heap_setCell W ⟨g, 0, none⟩ _ k e).trans ((hb.block k (by rw [hsz]; exact hk)).trans (Below.heap_setCell w ⟨g, 0, none⟩ _ k e))

/-- No panic is asked for: in a function with a deferred call a region's steps may be taken in one order then. -/
def calm (Q : Exit → Act → World → Prop) : Exit → Act → World → Prop
  | .panic _, _, _ => False
  | e, a, w => Q e a w
theorem calm_region {P : Program} {id : Nat} {ops : Array Oper} {d : Bool} {Q : Exit → Act → World → Prop} {a : Act} {w : World} (h : (Code.region id ops d).wp P (calm Q) a w) : (Code.region id ops d).wp P Q a w :=
  Code.wp_mono (fun e a w h => by cases e <;> first | exact h | exact h.elim) h
theorem calm_normal {Q : Exit → Act → World → Prop} {a : Act} {w : World} (h : Q .normal a w) : calm Q .normal a w := h

/-! ### at -/
set_option maxHeartbeats 2000000 in
set_option maxRecDepth 100000 in
theorem at_out (g b : Nat) (L : List SlotD) (s : Int) (i : Int) (hi : i < 0 ∨ (L.length : Int) ≤ i) (w : World) (h : SlotsIn w g b L s) :
    Calls Try.prog 62 #[.pointer (some ⟨g, 0, none⟩), .int .i64 i] w fun e w' => e = .returned (.pointer none) ∧ Below w.heap.size w w' := by
  have c2 := h.cell2
  clear h
  rcases hi with hi | hi
  · go_enter Try.func62, Try.ntmps62
    go_wp2
    go_ret
    exact ⟨rfl, Below.refl _ _⟩
  · have hi0 : ¬ i < 0 := by omega
    go_enter Try.func62, Try.ntmps62
    go_wp2
    go_ret
    exact ⟨rfl, Below.refl _ _⟩
set_option maxHeartbeats 2000000 in
set_option maxRecDepth 100000 in
theorem at_in (g b : Nat) (L : List SlotD) (s : Int) (i : Nat) (hi : i < L.length) (w : World) (h : SlotsIn w g b L s) :
    Calls Try.prog 62 #[.pointer (some ⟨g, 0, none⟩), .int .i64 (i : Int)] w fun e w' => e = .returned (.pointer (some ⟨b, i * 5, none⟩)) ∧ Below w.heap.size w w' := by
  have c2 := h.cell2
  clear h
  generalize L.length = n at *
  go_enter Try.func62, Try.ntmps62
  go_wp2
  go_ret
  exact ⟨rfl, Below.refl _ _⟩

/-! ### Tag -/
set_option maxHeartbeats 4000000 in
set_option maxRecDepth 100000 in
theorem stag_out (g b : Nat) (L : List SlotD) (i : Int) (hi : i < 0 ∨ (L.length : Int) ≤ i) (s : ByteArray) (w : World) (h : SlotsAt w g b L) :
    Calls Try.prog 39 #[.pointer (some ⟨g, 0, none⟩), .int .i64 i, .string s] w fun e w' => e = .returned (.tuple #[.string ⟨#[]⟩, .int .i64 40]) ∧ Below w.heap.size w w' := by
  have c0 := h.cell0
  have f0 := h.head.frozen 0
  have H := Aside0.mk h
  have AT := Aside0.mk (fun W hW => at_out g b L 1 i hi W hW)
  clear h hi
  go_enter_defers Try.func39, Try.ntmps39
  go_wp2_with fail
  refine (lock_free muLib ⟨g, 0, none⟩ _ c0 f0).mono ?_
  rintro e w1 ⟨rfl, hw1⟩
  have HB := Aside0.mk (fun W (hb : Below w1.heap.size w1 W) => by rw [hw1] at hb; exact lock_back H.out hb)
  have H1 : Aside0 (SlotsIn w1 g b L 1) := ⟨by rw [hw1]; exact H.out.lock 1⟩
  clear hw1 c0 f0 H
  go_wp2_with fail
  refine (AT.out _ H1.out).mono ?_
  rintro e w2 ⟨rfl, hb⟩
  have B := Aside0.mk hb
  replace H1 := Aside0.mk (H1.out.step hb)
  clear hb AT
  go_wp2_with fail
  refine leaves_cons (f := 61) (args := #[.pointer (some ⟨g, 0, none⟩)]) (by simp) (by simp [go_sem]) ?_
  refine (unlock_deferred muLib ⟨g, 0, none⟩ .returning _ H1.out.cell0 (H1.out.head.frozen 0)).mono ?_
  rintro e u' w3 ⟨rfl, rfl, rfl⟩
  exact ⟨_, results_tmp2 rfl _ _ _, rfl, HB.out _ B.out⟩
set_option maxHeartbeats 4000000 in
set_option maxRecDepth 100000 in
theorem stag_empty (g b : Nat) (L : List SlotD) (i : Nat) (hi : i < L.length) (h0 : L[i].alg = 0) (s : ByteArray) (w : World) (h : SlotsAt w g b L) :
    Calls Try.prog 39 #[.pointer (some ⟨g, 0, none⟩), .int .i64 (i : Int), .string s] w fun e w' => e = .returned (.tuple #[.string ⟨#[]⟩, .int .i64 40]) ∧ Below w.heap.size w w' := by
  have c0 := h.cell0
  have f0 := h.head.frozen 0
  have H := Aside0.mk h
  have AT := Aside0.mk (fun W hW => at_in g b L 1 i hi W hW)
  have HS := Aside0.mk (fun W (hW : SlotsIn W g b L 1) => by have := (hW.slot i hi).1; rw [h0] at this; exact this)
  clear h hi h0
  go_enter_defers Try.func39, Try.ntmps39
  go_wp2_with fail
  refine (lock_free muLib ⟨g, 0, none⟩ _ c0 f0).mono ?_
  rintro e w1 ⟨rfl, hw1⟩
  have HB := Aside0.mk (fun W (hb : Below w1.heap.size w1 W) => by rw [hw1] at hb; exact lock_back H.out hb)
  have H1 : Aside0 (SlotsIn w1 g b L 1) := ⟨by rw [hw1]; exact H.out.lock 1⟩
  clear hw1 c0 f0 H
  go_wp2_with fail
  refine (AT.out _ H1.out).mono ?_
  rintro e w2 ⟨rfl, hb⟩
  have B := Aside0.mk hb
  replace H1 := Aside0.mk (H1.out.step hb)
  clear hb AT
  have q0 := HS.out _ H1.out
  go_wp2_with fail
  refine leaves_cons (f := 61) (args := #[.pointer (some ⟨g, 0, none⟩)]) (by simp) (by simp [go_sem]) ?_
  refine (unlock_deferred muLib ⟨g, 0, none⟩ .returning _ H1.out.cell0 (H1.out.head.frozen 0)).mono ?_
  rintro e u' wz ⟨rfl, rfl, rfl⟩
  exact ⟨_, results_tmp2 rfl _ _ _, rfl, HB.out _ B.out⟩
set_option maxHeartbeats 4000000 in
set_option maxRecDepth 100000 in
theorem stag_in (g b : Nat) (L : List SlotD) (i : Nat) (hi : i < L.length) (h0 : L[i].alg ≠ 0) (s : ByteArray) (hs : s.size ≤ 140737488354000) (w : World) (h : SlotsAt w g b L) :
    Calls Try.prog 39 #[.pointer (some ⟨g, 0, none⟩), .int .i64 (i : Int), .string s] w fun e w' => e = .returned (.tuple #[.string (tagT L[i].alg L[i].method L[i].key s), .int .i64 (tagE L[i].alg L[i].method L[i].key)]) ∧ Below w.heap.size w w' := by
  have c0 := h.cell0
  have f0 := h.head.frozen 0
  have H := Aside0.mk h
  have AT := Aside0.mk (fun W hW => at_in g b L 1 i hi W hW)
  have b0 : (L[i].alg == 0) = false := by rw [beq_eq_false_iff_ne]; exact h0
  have T := Aside0.mk (tag_all L[i].alg L[i].method L[i].key s hs)
  have HS := Aside0.mk (fun W (hW : SlotsIn W g b L 1) => hW.slot i hi)
  generalize L[i] = x at *
  clear h hi h0 hs
  go_enter_defers Try.func39, Try.ntmps39
  go_wp2_with fail
  refine (lock_free muLib ⟨g, 0, none⟩ _ c0 f0).mono ?_
  rintro e w1 ⟨rfl, hw1⟩
  have HB := Aside0.mk (fun W (hb : Below w1.heap.size w1 W) => by rw [hw1] at hb; exact lock_back H.out hb)
  have H1 : Aside0 (SlotsIn w1 g b L 1) := ⟨by rw [hw1]; exact H.out.lock 1⟩
  clear hw1 c0 f0 H
  go_wp2_with fail
  refine (AT.out _ H1.out).mono ?_
  rintro e w2 ⟨rfl, hb⟩
  have B := Aside0.mk hb
  replace H1 := Aside0.mk (H1.out.step hb)
  clear hb AT
  obtain ⟨q0, q1, q2, q3, q4⟩ := HS.out _ H1.out
  go_wp2_with fail
  refine calm_region ?_
  go_region_with (go_at_call 44; refine (T.out _).mono ?_; rintro e w3 ⟨rfl, hb⟩)
  all_goals
    have b3 := B.out.drew.trans (hb.mono B.out.size)
    have H3 := Aside0.mk (SlotsIn.step (w := w2.drew) ⟨H1.out.head, H1.out.body⟩ hb)
    have B3 := Aside0.mk b3
    clear b3 hb B H1 HS q0 q1 q2 q3 q4 b0
    rename Aside0 (SlotsIn w3 g b L 1) => H1
    rename Aside0 (Below w1.heap.size w1 w3) => B
    refine calm_normal ?_
    go_wp2_with fail
    refine leaves_cons (f := 61) (args := #[.pointer (some ⟨g, 0, none⟩)]) (by simp) (by simp [go_sem]) ?_
    refine (unlock_deferred muLib ⟨g, 0, none⟩ .returning _ H1.out.cell0 (H1.out.head.frozen 0)).mono ?_
    rintro e u' wz ⟨rfl, rfl, rfl⟩
    exact ⟨_, results_tmp2 rfl _ _ _, rfl, HB.out _ B.out⟩
end Go.Proofs.Ytopobangjpehnaa.Seal

set_option linter.unusedVariables false
set_option linter.unusedSimpArgs false
namespace Go.Proofs.Ytopobangjpehnaa.Seal
open Go.RowKit Go.Proofs.YtopobangjpehnaaW.PrintWords Go.Proofs.YtopobangjpehnaaW.PrintLast Go.Proofs.YtopobangjpehnaaW.PrintMore Pr Des Num Walk
open Go.MuLone

theorem slotCells_length (x : SlotD) : (slotCells x).length = 5 := rfl
theorem flat_set : ∀ (L : List SlotD) (i j : Nat) (hi : i < L.length) (hj : j < 5) (v : Value) (x : SlotD), slotCells x = (slotCells L[i]).set j v → (L.flatMap slotCells).set (i * 5 + j) v = (L.set i x).flatMap slotCells
  | [], i, j, hi, _, _, _, _ => by simp at hi
  | y :: L, 0, j, hi, hj, v, x, h => by
    have h' : slotCells x = (slotCells y).set j v := h
    rw [List.flatMap_cons, Nat.zero_mul, Nat.zero_add, List.set_append_left _ _ (by rw [slotCells_length]; exact hj), List.set_cons_zero, List.flatMap_cons, h']
  | y :: L, i + 1, j, hi, hj, v, x, h => by
    rw [List.flatMap_cons, List.set_append_right _ _ (by rw [slotCells_length]; omega), slotCells_length, show (i + 1) * 5 + j - 5 = i * 5 + j by omega, List.set_cons_succ, List.flatMap_cons,
      flat_set L i j (by simpa using hi) hj v x (by simpa using h)]
theorem allCells_set (L : List SlotD) (i j : Nat) (hi : i < L.length) (hj : j < 5) (v : Value) (x : SlotD) (h : slotCells x = (slotCells L[i]).set j v) : (allCells L).setIfInBounds (i * 5 + j) v = allCells (L.set i x) := by
  unfold allCells
  rw [List.setIfInBounds_toArray, flat_set L i j hi hj v x h]
theorem flat_put : ∀ (L : List SlotD) (i : Nat) (hi : i < L.length) (x : SlotD), (L.flatMap slotCells).take (i * 5) ++ slotCells x ++ (L.flatMap slotCells).drop (i * 5 + 5) = (L.set i x).flatMap slotCells
  | [], i, hi, _ => by simp at hi
  | y :: L, 0, hi, x => by
    rw [List.flatMap_cons, Nat.zero_mul, List.take_zero, List.nil_append, Nat.zero_add, List.drop_left' (slotCells_length y), List.set_cons_zero, List.flatMap_cons]
  | y :: L, i + 1, hi, x => by
    have ih := flat_put L i (by simpa using hi) x
    rw [List.flatMap_cons, show (i + 1) * 5 = (slotCells y).length + i * 5 by rw [slotCells_length]; omega, List.take_length_add_append, show (slotCells y).length + i * 5 + 5 = (slotCells y).length + (i * 5 + 5) by omega, List.drop_length_add_append,
      List.set_cons_succ, List.flatMap_cons, ← ih]
    simp only [List.append_assoc]
theorem allCells_put (L : List SlotD) (i : Nat) (hi : i < L.length) (x : SlotD) : ((allCells L).toList.take (i * 5) ++ (slotCells x ++ (allCells L).toList.drop (i * 5 + (slotCells x).length))).toArray = allCells (L.set i x) := by
  unfold allCells
  simp only [slotCells_length]
  rw [← List.append_assoc, flat_put L i hi x]
/-- The lock given back behind a change of the slots. -/
theorem lock_back_kp {w W : World} {g b : Nat} {L L' : List SlotD} (h : SlotsAt w g b L) (hl : L'.length = L.length) (h1 : SlotsIn W g b L' 1) (hb : Kp (w.setCell ⟨g, 0, none⟩ (.int .i32 1)).heap.size b (w.setCell ⟨g, 0, none⟩ (.int .i32 1)) W) :
    SlotsAt (W.setCell ⟨g, 0, none⟩ (.int .i32 0)) g b L' ∧ Kp w.heap.size b w (W.setCell ⟨g, 0, none⟩ (.int .i32 0)) := by
  have hsz : (w.setCell ⟨g, 0, none⟩ (.int .i32 1)).heap.size = w.heap.size := by simp [World.setCell]
  have h0 := h1.lock 0
  refine ⟨h0, hb.os, hb.tape, hb.output, by have := hb.size; rw [hsz] at this; simpa [World.setCell] using this, fun k hk hc => ?_⟩
  by_cases e : k = g
  · subst e
    have e1 := h0.head
    rw [hl] at e1
    exact e1.trans h.head.symm
  · exact (Below.heap_setCell W ⟨g, 0, none⟩ _ k e).trans ((hb.block k (by rw [hsz]; exact hk) hc).trans (Below.heap_setCell w ⟨g, 0, none⟩ _ k e))
theorem SlotsIn.kp {w w' : World} {g b : Nat} {L : List SlotD} {s : Int} {c : Nat} (h : SlotsIn w g b L s) (hb : Kp w.heap.size c w w') (hg : c ≠ g) (hc : c ≠ b) : SlotsIn w' g b L s :=
  ⟨(hb.block g h.head.lt (Ne.symm hg)).trans h.head, (hb.block b h.body.lt (Ne.symm hc)).trans h.body⟩

/-! ### Round -/
set_option maxHeartbeats 4000000 in
set_option maxRecDepth 100000 in
theorem round_in (g b : Nat) (L : List SlotD) (i : Nat) (hi : i < L.length) (w : World) (h : SlotsAt w g b L) :
    Calls Try.prog 45 #[.pointer (some ⟨g, 0, none⟩), .int .i64 (i : Int)] w fun e w' => e = .returned (.int .i64 L[i].round) ∧ Below w.heap.size w w' := by
  have c0 := h.cell0
  have f0 := h.head.frozen 0
  have H := Aside0.mk h
  have AT := Aside0.mk (fun W hW => at_in g b L 1 i hi W hW)
  have HS := Aside0.mk (fun W (hW : SlotsIn W g b L 1) => hW.slot i hi)
  generalize L[i] = x at *
  clear h hi
  go_enter_defers Try.func45, Try.ntmps45
  go_wp2_with fail
  refine (lock_free muLib ⟨g, 0, none⟩ _ c0 f0).mono ?_
  rintro e w1 ⟨rfl, hw1⟩
  have HB := Aside0.mk (fun W (hb : Below w1.heap.size w1 W) => by rw [hw1] at hb; exact lock_back H.out hb)
  have H1 : Aside0 (SlotsIn w1 g b L 1) := ⟨by rw [hw1]; exact H.out.lock 1⟩
  clear hw1 c0 f0 H
  go_wp2_with fail
  refine (AT.out _ H1.out).mono ?_
  rintro e w2 ⟨rfl, hb⟩
  have B := Aside0.mk hb
  replace H1 := Aside0.mk (H1.out.step hb)
  clear hb AT
  obtain ⟨q0, q1, q2, q3, q4⟩ := HS.out _ H1.out
  go_wp2_with fail
  refine leaves_cons (f := 61) (args := #[.pointer (some ⟨g, 0, none⟩)]) (by simp) (by simp [go_sem]) ?_
  refine (unlock_deferred muLib ⟨g, 0, none⟩ .returning _ H1.out.cell0 (H1.out.head.frozen 0)).mono ?_
  rintro e u' wz ⟨rfl, rfl, rfl⟩
  exact ⟨_, results_tmp rfl _ _ _, rfl, HB.out _ B.out⟩
set_option maxHeartbeats 4000000 in
set_option maxRecDepth 100000 in
theorem round_out (g b : Nat) (L : List SlotD) (i : Int) (hi : i < 0 ∨ (L.length : Int) ≤ i) (w : World) (h : SlotsAt w g b L) :
    Calls Try.prog 45 #[.pointer (some ⟨g, 0, none⟩), .int .i64 i] w fun e w' => e = .returned (.int .i64 0) ∧ Below w.heap.size w w' := by
  have c0 := h.cell0
  have f0 := h.head.frozen 0
  have H := Aside0.mk h
  have AT := Aside0.mk (fun W hW => at_out g b L 1 i hi W hW)
  clear h hi
  go_enter_defers Try.func45, Try.ntmps45
  go_wp2_with fail
  refine (lock_free muLib ⟨g, 0, none⟩ _ c0 f0).mono ?_
  rintro e w1 ⟨rfl, hw1⟩
  have HB := Aside0.mk (fun W (hb : Below w1.heap.size w1 W) => by rw [hw1] at hb; exact lock_back H.out hb)
  have H1 : Aside0 (SlotsIn w1 g b L 1) := ⟨by rw [hw1]; exact H.out.lock 1⟩
  clear hw1 c0 f0 H
  go_wp2_with fail
  refine (AT.out _ H1.out).mono ?_
  rintro e w2 ⟨rfl, hb⟩
  have B := Aside0.mk hb
  replace H1 := Aside0.mk (H1.out.step hb)
  clear hb AT
  go_wp2_with fail
  refine leaves_cons (f := 61) (args := #[.pointer (some ⟨g, 0, none⟩)]) (by simp) (by simp [go_sem]) ?_
  refine (unlock_deferred muLib ⟨g, 0, none⟩ .returning _ H1.out.cell0 (H1.out.head.frozen 0)).mono ?_
  rintro e u' wz ⟨rfl, rfl, rfl⟩
  exact ⟨_, results_tmp rfl _ _ _, rfl, HB.out _ B.out⟩

/-! ### Right -/
set_option maxHeartbeats 2000000 in
set_option maxRecDepth 100000 in
theorem right_of (p : Value) (n : Int) (s t T : ByteArray) (E : Int) (hT : T.size ≤ 140737488355328) (w : World) (h : Calls Try.prog 39 #[p, .int .i64 n, .string s] w fun e w' => e = .returned (.tuple #[.string T, .int .i64 E]) ∧ Below w.heap.size w w') :
    Calls Try.prog 55 #[p, .int .i64 n, .string s, .string t] w fun e w' => e = .returned (.tuple #[.bool (decide (E = 0 ∧ T = t)), .int .i64 E]) ∧ Below w.heap.size w w' := by
  have C := Aside0.mk h
  have S := Aside0.mk (same_any T t hT)
  clear h
  by_cases h0 : E = 0
  · subst h0
    have e : decide ((0 : Int) = 0 ∧ T = t) = decide (T = t) := by simp
    rw [e]
    generalize decide (T = t) = X at *
    clear e
    go_enter Try.func55, Try.ntmps55
    go_wp2_with fail
    refine (C.out).mono ?_
    rintro e w1 ⟨rfl, hb⟩
    have B := Aside0.mk hb
    clear hb
    go_wp2_with fail
    refine (S.out _).mono ?_
    rintro e w2 ⟨rfl, hb⟩
    replace B := Aside0.mk (B.out.trans (hb.mono B.out.size))
    clear hb
    go_wp2_with fail
    go_ret2
    exact ⟨rfl, B.out⟩
  · rw [decide_eq_false (fun x => h0 x.1)]
    have b1 : (E != 0) = true := by rw [bne_iff_ne]; exact h0
    clear h0
    go_enter Try.func55, Try.ntmps55
    go_wp2_with fail
    refine (C.out).mono ?_
    rintro e w1 ⟨rfl, hb⟩
    have B := Aside0.mk hb
    clear hb
    go_wp2_with fail
    go_ret2
    exact ⟨rfl, B.out⟩

/-! ### Put -/
set_option maxHeartbeats 4000000 in
set_option maxRecDepth 100000 in
theorem put_out (g b : Nat) (L : List SlotD) (i alg m : Int) (key exch : ByteArray) (hi : i < 0 ∨ (L.length : Int) ≤ i) (w : World) (h : SlotsAt w g b L) :
    Calls Try.prog 38 #[.pointer (some ⟨g, 0, none⟩), .int .i64 i, .int .i64 alg, .int .i64 m, .string key, .string exch] w fun e w' => e = .returned (.int .i64 40) ∧ Below w.heap.size w w' := by
  have c0 := h.cell0
  have f0 := h.head.frozen 0
  have H := Aside0.mk h
  have AT := Aside0.mk (fun W hW => at_out g b L 1 i hi W hW)
  have WN := Aside0.mk (wants_any alg m)
  generalize wantsN alg m = wn at *
  clear h hi
  go_enter_defers Try.func38, Try.ntmps38
  go_wp2_with fail
  refine (lock_free muLib ⟨g, 0, none⟩ _ c0 f0).mono ?_
  rintro e w1 ⟨rfl, hw1⟩
  have HB := Aside0.mk (fun W (hb : Below w1.heap.size w1 W) => by rw [hw1] at hb; exact lock_back H.out hb)
  have H1 : Aside0 (SlotsIn w1 g b L 1) := ⟨by rw [hw1]; exact H.out.lock 1⟩
  clear hw1 c0 f0 H
  go_wp2_with fail
  refine (AT.out _ H1.out).mono ?_
  rintro e w2 ⟨rfl, hb⟩
  have B := Aside0.mk hb
  replace H1 := Aside0.mk (H1.out.step hb)
  clear hb AT
  go_wp2_with fail
  refine (WN.out _).mono ?_
  rintro e w3 ⟨rfl, hb⟩
  replace B := Aside0.mk (B.out.trans (hb.mono B.out.size))
  replace H1 := Aside0.mk (H1.out.step hb)
  clear hb
  go_wp2_with fail
  refine leaves_cons (f := 61) (args := #[.pointer (some ⟨g, 0, none⟩)]) (by simp) (by simp [go_sem]) ?_
  refine (unlock_deferred muLib ⟨g, 0, none⟩ .returning _ H1.out.cell0 (H1.out.head.frozen 0)).mono ?_
  rintro e u' wz ⟨rfl, rfl, rfl⟩
  exact ⟨_, results_tmp rfl _ _ _, rfl, HB.out _ B.out⟩
set_option maxHeartbeats 4000000 in
set_option maxRecDepth 100000 in
theorem put_arg (g b : Nat) (L : List SlotD) (i : Nat) (alg m : Int) (key exch : ByteArray) (hi : i < L.length) (hw : wantsN alg m = 0) (w : World) (h : SlotsAt w g b L) :
    Calls Try.prog 38 #[.pointer (some ⟨g, 0, none⟩), .int .i64 (i : Int), .int .i64 alg, .int .i64 m, .string key, .string exch] w fun e w' => e = .returned (.int .i64 1) ∧ Below w.heap.size w w' := by
  have c0 := h.cell0
  have f0 := h.head.frozen 0
  have H := Aside0.mk h
  have AT := Aside0.mk (fun W hW => at_in g b L 1 i hi W hW)
  have WN := Aside0.mk (wants_any alg m)
  rw [hw] at WN
  clear h hi hw
  go_enter_defers Try.func38, Try.ntmps38
  go_wp2_with fail
  refine (lock_free muLib ⟨g, 0, none⟩ _ c0 f0).mono ?_
  rintro e w1 ⟨rfl, hw1⟩
  have HB := Aside0.mk (fun W (hb : Below w1.heap.size w1 W) => by rw [hw1] at hb; exact lock_back H.out hb)
  have H1 : Aside0 (SlotsIn w1 g b L 1) := ⟨by rw [hw1]; exact H.out.lock 1⟩
  clear hw1 c0 f0 H
  go_wp2_with fail
  refine (AT.out _ H1.out).mono ?_
  rintro e w2 ⟨rfl, hb⟩
  have B := Aside0.mk hb
  replace H1 := Aside0.mk (H1.out.step hb)
  clear hb AT
  go_wp2_with fail
  refine (WN.out _).mono ?_
  rintro e w3 ⟨rfl, hb⟩
  replace B := Aside0.mk (B.out.trans (hb.mono B.out.size))
  replace H1 := Aside0.mk (H1.out.step hb)
  clear hb
  go_wp2_with fail
  refine leaves_cons (f := 61) (args := #[.pointer (some ⟨g, 0, none⟩)]) (by simp) (by simp [go_sem]) ?_
  refine (unlock_deferred muLib ⟨g, 0, none⟩ .returning _ H1.out.cell0 (H1.out.head.frozen 0)).mono ?_
  rintro e u' wz ⟨rfl, rfl, rfl⟩
  exact ⟨_, results_tmp rfl _ _ _, rfl, HB.out _ B.out⟩
set_option maxHeartbeats 8000000 in
set_option maxRecDepth 100000 in
theorem put_key (g b : Nat) (L : List SlotD) (i : Nat) (alg m : Int) (key exch : ByteArray) (hi : i < L.length) (hw : wantsN alg m ≠ 0) (hk : (key.size : Int) ≠ wantsN alg m ∨ exch.size ≠ 0 ∧ exch.size ≠ 16) (w : World) (h : SlotsAt w g b L) :
    Calls Try.prog 38 #[.pointer (some ⟨g, 0, none⟩), .int .i64 (i : Int), .int .i64 alg, .int .i64 m, .string key, .string exch] w fun e w' => e = .returned (.int .i64 30) ∧ Below w.heap.size w w' := by
  have c0 := h.cell0
  have f0 := h.head.frozen 0
  have H := Aside0.mk h
  have AT := Aside0.mk (fun W hW => at_in g b L 1 i hi W hW)
  have WN := Aside0.mk (wants_any alg m)
  generalize wantsN alg m = wn at *
  have b0 : (wn == 0) = false := by rw [beq_eq_false_iff_ne]; exact hw
  clear h hi hw
  have hk2 : ((key.size : Int) != wn) = true ∨ ((key.size : Int) != wn) = false ∧ ((exch.size : Int) != 0) = true ∧ ((exch.size : Int) != 16) = true := by
    rw [bne_iff_ne, bne_eq_false_iff_eq, bne_iff_ne, bne_iff_ne]
    omega
  clear hk
  rcases hk2 with b1 | ⟨b1, b2, b3⟩
  all_goals
    go_enter_defers Try.func38, Try.ntmps38
    go_wp2_with fail
    refine (lock_free muLib ⟨g, 0, none⟩ _ c0 f0).mono ?_
    rintro e w1 ⟨rfl, hw1⟩
    have HB := Aside0.mk (fun W (hb : Below w1.heap.size w1 W) => by rw [hw1] at hb; exact lock_back H.out hb)
    have H1 : Aside0 (SlotsIn w1 g b L 1) := ⟨by rw [hw1]; exact H.out.lock 1⟩
    clear hw1 c0 f0 H
    go_wp2_with fail
    refine (AT.out _ H1.out).mono ?_
    rintro e w2 ⟨rfl, hb⟩
    have B := Aside0.mk hb
    replace H1 := Aside0.mk (H1.out.step hb)
    clear hb AT
    go_wp2_with fail
    refine (WN.out _).mono ?_
    rintro e w3 ⟨rfl, hb⟩
    replace B := Aside0.mk (B.out.trans (hb.mono B.out.size))
    replace H1 := Aside0.mk (H1.out.step hb)
    clear hb
    go_wp2_with fail
    refine leaves_cons (f := 61) (args := #[.pointer (some ⟨g, 0, none⟩)]) (by simp) (by simp [go_sem]) ?_
    refine (unlock_deferred muLib ⟨g, 0, none⟩ .returning _ H1.out.cell0 (H1.out.head.frozen 0)).mono ?_
    rintro e u' wz ⟨rfl, rfl, rfl⟩
    exact ⟨_, results_tmp rfl _ _ _, rfl, HB.out _ B.out⟩
theorem size88 : (Try.prog.info? 88).map (·.size) = some 5 := by kernel_rfl
set_option maxHeartbeats 8000000 in
set_option maxRecDepth 100000 in
theorem put_yes (g b : Nat) (L : List SlotD) (i : Nat) (alg m : Int) (key exch : ByteArray) (hi : i < L.length) (hw : wantsN alg m ≠ 0) (hk : (key.size : Int) = wantsN alg m) (he : exch.size = 0 ∨ exch.size = 16) (w : World) (h : SlotsAt w g b L) :
    Calls Try.prog 38 #[.pointer (some ⟨g, 0, none⟩), .int .i64 (i : Int), .int .i64 alg, .int .i64 m, .string key, .string exch] w fun e w' => e = .returned (.int .i64 0) ∧ SlotsAt w' g b (L.set i ⟨alg, m, key, exch, 0⟩) ∧ Kp w.heap.size b w w' := by
  have c0 := h.cell0
  have f0 := h.head.frozen 0
  have H := Aside0.mk h
  have AT := Aside0.mk (fun W hW => at_in g b L 1 i hi W hW)
  have WN := Aside0.mk (wants_any alg m)
  have HP := Aside0.mk (allCells_put L i hi ⟨alg, m, key, exch, 0⟩)
  have HZ := Aside0.mk (allCells_size L)
  have HI := Aside0.mk hi
  generalize wantsN alg m = wn at *
  have b0 : (wn == 0) = false := by rw [beq_eq_false_iff_ne]; exact hw
  have b1 : ((key.size : Int) != wn) = false := by rw [bne_eq_false_iff_eq]; exact hk
  have he2 : ((exch.size : Int) != 0) = false ∨ ((exch.size : Int) != 0) = true ∧ ((exch.size : Int) != 16) = false := by
    rw [bne_eq_false_iff_eq, bne_iff_ne, bne_eq_false_iff_eq]
    omega
  clear h hi hw hk he
  rcases he2 with b2 | ⟨b2, b3⟩
  all_goals
    go_enter_defers Try.func38, Try.ntmps38
    go_wp2_with fail
    refine (lock_free muLib ⟨g, 0, none⟩ _ c0 f0).mono ?_
    rintro e w1 ⟨rfl, hw1⟩
    have H1 : Aside0 (SlotsIn w1 g b L 1) := ⟨by rw [hw1]; exact H.out.lock 1⟩
    have HW1 := Aside0.mk hw1
    clear hw1 c0 f0
    go_wp2_with fail
    refine (AT.out _ H1.out).mono ?_
    rintro e w2 ⟨rfl, hb⟩
    have B := Aside0.mk hb
    replace H1 := Aside0.mk (H1.out.step hb)
    clear hb AT
    go_wp2_with fail
    refine (WN.out _).mono ?_
    rintro e w3 ⟨rfl, hb⟩
    replace B := Aside0.mk (B.out.trans (hb.mono B.out.size))
    replace H1 := Aside0.mk (H1.out.step hb)
    clear hb
    go_wp2_with (refine wpList_store_part (vs := (slotCells ⟨alg, m, key, exch, 0⟩).toArray) rfl 88 (.tmp 55) (.tmp 54) rfl (o := i * 5) rfl rfl H1.out.body (by rw [HZ.out]; show i * 5 + 5 ≤ _; have := HI.out; omega) size88 (by intro v hv; simp only [slotCells, List.toList_toArray, List.mem_cons, List.mem_nil_iff, or_false] at hv; rcases hv with rfl | rfl | rfl | rfl | rfl <;> rfl) ?_)
    rw [HP.out]
    have H2 : Aside0 (SlotsIn (w3.setRow b (allCells (L.set i ⟨alg, m, key, exch, 0⟩))) g b (L.set i ⟨alg, m, key, exch, 0⟩) 1) := ⟨⟨by rw [List.length_set]; exact H1.out.head.farRow H1.out.ne _, H1.out.body.setRow _⟩⟩
    have K2 : Aside0 (Kp w1.heap.size b w1 (w3.setRow b (allCells (L.set i ⟨alg, m, key, exch, 0⟩)))) := ⟨(Kp.of_below B.out).trans ⟨rfl, rfl, rfl, by simp, fun k hk hc => setRow_other w3 b k _ hc⟩⟩
    clear H1 B HP HZ HI WN
    generalize w3.setRow b (allCells (L.set i ⟨alg, m, key, exch, 0⟩)) = w4 at *
    go_wp2_with fail
    refine leaves_cons (f := 61) (args := #[.pointer (some ⟨g, 0, none⟩)]) (by simp) (by simp [go_sem]) ?_
    refine (unlock_deferred muLib ⟨g, 0, none⟩ .returning _ H2.out.cell0 (H2.out.head.frozen 0)).mono ?_
    rintro e u' wz ⟨rfl, rfl, rfl⟩
    have hk := K2.out
    rw [HW1.out] at hk
    have hz := lock_back_kp H.out (by rw [List.length_set]) H2.out hk
    exact ⟨_, results_tmp rfl _ _ _, rfl, hz⟩
end Go.Proofs.Ytopobangjpehnaa.Seal

set_option linter.unusedVariables false
set_option linter.unusedSimpArgs false
namespace Go.Proofs.Ytopobangjpehnaa.Seal
open Go.RowKit Go.Proofs.YtopobangjpehnaaW.PrintWords Go.Proofs.YtopobangjpehnaaW.PrintLast Go.Proofs.YtopobangjpehnaaW.PrintMore Pr Des Num Walk
open Go.MuLone

/-- A round more, up to the greatest. -/
def more (r : Int) : Int := if r = 999999999 then r else r + 1
theorem count_any (r : Int) (h0 : 0 ≤ r) (h1 : r ≤ 999999999) (w : World) :
    Calls Try.prog 69 #[.int .i64 r, .int .i64 1, .int .i64 999999999] w fun e w' => e = .returned (.int .i64 (more r)) ∧ Below w.heap.size w w' := by
  refine digits_Count.calls r 1 999999999 (more r) w ?_
  have e1 : mx r 0 = r := by unfold mx; omega
  have e2 : mx 1 0 = 1 := by decide
  have e3 : mx 999999999 0 = 999999999 := by decide
  have e4 : wrap64 (999999999 - r) = 999999999 - r := by unfold wrap64; omega
  have e5 : wrap64 (r + 1) = r + 1 := by unfold wrap64; omega
  unfold digits_Count.f more
  rw [e1, e2, e3, e4, e5, if_neg (by omega)]
  by_cases h : r = 999999999
  · rw [if_pos (by omega), if_pos h, h]
  · rw [if_neg (by omega), if_neg h]
theorem kindOf_key (s : ByteArray) (h : s.size = 8 ∨ s.size = 16) : 1 ≤ kindOf s.data.toList := by
  unfold kindOf; rw [slen]
  rcases h with h | h <;> rw [h] <;> decide

set_option maxHeartbeats 4000000 in
set_option maxRecDepth 100000 in
theorem change_out (g b : Nat) (L : List SlotD) (i : Int) (wrapped check : ByteArray) (hi : i < 0 ∨ (L.length : Int) ≤ i) (w : World) (h : SlotsAt w g b L) :
    Calls Try.prog 43 #[.pointer (some ⟨g, 0, none⟩), .int .i64 i, .string wrapped, .string check] w fun e w' => e = .returned (.int .i64 40) ∧ Below w.heap.size w w' := by
  have c0 := h.cell0
  have f0 := h.head.frozen 0
  have H := Aside0.mk h
  have AT := Aside0.mk (fun W hW => at_out g b L 1 i hi W hW)
  clear h hi
  go_enter_defers Try.func43, Try.ntmps43
  go_wp2_with fail
  refine (lock_free muLib ⟨g, 0, none⟩ _ c0 f0).mono ?_
  rintro e w1 ⟨rfl, hw1⟩
  have HB := Aside0.mk (fun W (hb : Below w1.heap.size w1 W) => by rw [hw1] at hb; exact lock_back H.out hb)
  have H1 : Aside0 (SlotsIn w1 g b L 1) := ⟨by rw [hw1]; exact H.out.lock 1⟩
  have HW1 := Aside0.mk hw1
  clear hw1 c0 f0
  go_wp2_with fail
  refine (AT.out _ H1.out).mono ?_
  rintro e w2 ⟨rfl, hb⟩
  have B := Aside0.mk hb
  replace H1 := Aside0.mk (H1.out.step hb)
  clear hb AT
  go_wp2_with fail
  refine leaves_cons (f := 61) (args := #[.pointer (some ⟨g, 0, none⟩)]) (by simp) (by simp [go_sem]) ?_
  refine (unlock_deferred muLib ⟨g, 0, none⟩ .returning _ H1.out.cell0 (H1.out.head.frozen 0)).mono ?_
  rintro e u' wz ⟨rfl, rfl, rfl⟩
  exact ⟨_, results_tmp rfl _ _ _, rfl, HB.out _ B.out⟩
set_option maxHeartbeats 4000000 in
set_option maxRecDepth 100000 in
theorem change_none (g b : Nat) (L : List SlotD) (i : Nat) (wrapped check : ByteArray) (hi : i < L.length) (hx : L[i].exchange.size = 0) (w : World) (h : SlotsAt w g b L) :
    Calls Try.prog 43 #[.pointer (some ⟨g, 0, none⟩), .int .i64 (i : Int), .string wrapped, .string check] w fun e w' => e = .returned (.int .i64 40) ∧ Below w.heap.size w w' := by
  have c0 := h.cell0
  have f0 := h.head.frozen 0
  have H := Aside0.mk h
  have AT := Aside0.mk (fun W hW => at_in g b L 1 i hi W hW)
  have HS := Aside0.mk (fun W (hW : SlotsIn W g b L 1) => hW.slot i hi)
  have he : L[i].exchange.toList.isEmpty = true := by rw [ByteArray.toList_eq, List.isEmpty_iff]; exact List.eq_nil_of_length_eq_zero (by rw [slen]; exact hx)
  generalize L[i] = x at *
  clear h hi hx
  go_enter_defers Try.func43, Try.ntmps43
  go_wp2_with fail
  refine (lock_free muLib ⟨g, 0, none⟩ _ c0 f0).mono ?_
  rintro e w1 ⟨rfl, hw1⟩
  have HB := Aside0.mk (fun W (hb : Below w1.heap.size w1 W) => by rw [hw1] at hb; exact lock_back H.out hb)
  have H1 : Aside0 (SlotsIn w1 g b L 1) := ⟨by rw [hw1]; exact H.out.lock 1⟩
  have HW1 := Aside0.mk hw1
  clear hw1 c0 f0
  go_wp2_with fail
  refine (AT.out _ H1.out).mono ?_
  rintro e w2 ⟨rfl, hb⟩
  have B := Aside0.mk hb
  replace H1 := Aside0.mk (H1.out.step hb)
  clear hb AT
  obtain ⟨q0, q1, q2, q3, q4⟩ := HS.out _ H1.out
  go_wp2_with fail
  refine leaves_cons (f := 61) (args := #[.pointer (some ⟨g, 0, none⟩)]) (by simp) (by simp [go_sem]) ?_
  refine (unlock_deferred muLib ⟨g, 0, none⟩ .returning _ H1.out.cell0 (H1.out.head.frozen 0)).mono ?_
  rintro e u' wz ⟨rfl, rfl, rfl⟩
  exact ⟨_, results_tmp rfl _ _ _, rfl, HB.out _ B.out⟩
set_option maxHeartbeats 4000000 in
set_option maxRecDepth 100000 in
theorem change_len (g b : Nat) (L : List SlotD) (i : Nat) (wrapped check : ByteArray) (hi : i < L.length) (hx : L[i].exchange.size ≠ 0) (hl : wrapped.size ≠ L[i].key.size) (w : World) (h : SlotsAt w g b L) :
    Calls Try.prog 43 #[.pointer (some ⟨g, 0, none⟩), .int .i64 (i : Int), .string wrapped, .string check] w fun e w' => e = .returned (.int .i64 30) ∧ Below w.heap.size w w' := by
  have c0 := h.cell0
  have f0 := h.head.frozen 0
  have H := Aside0.mk h
  have AT := Aside0.mk (fun W hW => at_in g b L 1 i hi W hW)
  have HS := Aside0.mk (fun W (hW : SlotsIn W g b L 1) => hW.slot i hi)
  have he : L[i].exchange.toList.isEmpty = false := by rw [ByteArray.toList_eq, List.isEmpty_eq_false_iff]; exact fun e => hx (by rw [← slen, e]; rfl)
  have b1 : ((wrapped.size : Int) != (L[i].key.size : Int)) = true := by rw [bne_iff_ne]; omega
  generalize L[i] = x at *
  clear h hi hx hl
  go_enter_defers Try.func43, Try.ntmps43
  go_wp2_with fail
  refine (lock_free muLib ⟨g, 0, none⟩ _ c0 f0).mono ?_
  rintro e w1 ⟨rfl, hw1⟩
  have HB := Aside0.mk (fun W (hb : Below w1.heap.size w1 W) => by rw [hw1] at hb; exact lock_back H.out hb)
  have H1 : Aside0 (SlotsIn w1 g b L 1) := ⟨by rw [hw1]; exact H.out.lock 1⟩
  have HW1 := Aside0.mk hw1
  clear hw1 c0 f0
  go_wp2_with fail
  refine (AT.out _ H1.out).mono ?_
  rintro e w2 ⟨rfl, hb⟩
  have B := Aside0.mk hb
  replace H1 := Aside0.mk (H1.out.step hb)
  clear hb AT
  obtain ⟨q0, q1, q2, q3, q4⟩ := HS.out _ H1.out
  go_wp2_with fail
  refine leaves_cons (f := 61) (args := #[.pointer (some ⟨g, 0, none⟩)]) (by simp) (by simp [go_sem]) ?_
  refine (unlock_deferred muLib ⟨g, 0, none⟩ .returning _ H1.out.cell0 (H1.out.head.frozen 0)).mono ?_
  rintro e u' wz ⟨rfl, rfl, rfl⟩
  exact ⟨_, results_tmp rfl _ _ _, rfl, HB.out _ B.out⟩
set_option maxHeartbeats 4000000 in
set_option maxRecDepth 100000 in
theorem change_weak (g b : Nat) (L : List SlotD) (i : Nat) (wrapped check : ByteArray) (hi : i < L.length) (hx : L[i].exchange.size = 16) (hl : wrapped.size = L[i].key.size) (hk : L[i].key.size = 8 ∨ L[i].key.size = 16)
    (hw : weakB (blocksStr (ecbB L[i].exchange.data.toList true wrapped) wrapped).data.toList = true) (w : World) (h : SlotsAt w g b L) :
    Calls Try.prog 43 #[.pointer (some ⟨g, 0, none⟩), .int .i64 (i : Int), .string wrapped, .string check] w fun e w' => e = .returned (.int .i64 42) ∧ Below w.heap.size w w' := by
  have c0 := h.cell0
  have f0 := h.head.frozen 0
  have H := Aside0.mk h
  have AT := Aside0.mk (fun W hW => at_in g b L 1 i hi W hW)
  have HS := Aside0.mk (fun W (hW : SlotsIn W g b L 1) => hW.slot i hi)
  have he : L[i].exchange.toList.isEmpty = false := by rw [ByteArray.toList_eq, List.isEmpty_eq_false_iff]; exact fun e => by rw [← slen, e] at hx; simp at hx
  have b1 : ((wrapped.size : Int) != (L[i].key.size : Int)) = false := by rw [bne_eq_false_iff_eq]; omega
  have N := Aside0.mk (new_yes L[i].exchange (kindOf_key _ (.inr hx)))
  have DC := Aside0.mk (fun gg (W : World) (hg : Blk W gg 72 (keyBlock (L[i]'hi).exchange.data.toList)) => decrypt_yes gg (L[i]'hi).exchange.data.toList wrapped (by omega) (by omega) W hg)
  have hDz := blocksStr_size (ecbB L[i].exchange.data.toList true wrapped) wrapped (by omega)
  generalize blocksStr (ecbB L[i].exchange.data.toList true wrapped) wrapped = D at *
  have WK := Aside0.mk (weak_any D)
  rw [hw] at WK
  generalize L[i] = x at *
  clear h hi hx hl hk hDz hw
  go_enter_defers Try.func43, Try.ntmps43
  go_wp2_with fail
  refine (lock_free muLib ⟨g, 0, none⟩ _ c0 f0).mono ?_
  rintro e w1 ⟨rfl, hw1⟩
  have HB := Aside0.mk (fun W (hb : Below w1.heap.size w1 W) => by rw [hw1] at hb; exact lock_back H.out hb)
  have H1 : Aside0 (SlotsIn w1 g b L 1) := ⟨by rw [hw1]; exact H.out.lock 1⟩
  have HW1 := Aside0.mk hw1
  clear hw1 c0 f0
  go_wp2_with fail
  refine (AT.out _ H1.out).mono ?_
  rintro e w2 ⟨rfl, hb⟩
  have B := Aside0.mk hb
  replace H1 := Aside0.mk (H1.out.step hb)
  clear hb AT
  obtain ⟨q0, q1, q2, q3, q4⟩ := HS.out _ H1.out
  go_wp2_with fail
  refine (N.out _).mono ?_
  rintro e w3 ⟨gg, rfl, hge, hg, hb⟩
  replace B := Aside0.mk (B.out.trans (hb.mono B.out.size))
  replace H1 := Aside0.mk (H1.out.step hb)
  have G := Aside0.mk hg
  clear hb hg hge N q0 q1 q2 q3 q4
  go_wp2_with fail
  refine (DC.out gg _ G.out).mono ?_
  rintro e w4 ⟨rfl, hb⟩
  replace B := Aside0.mk (B.out.trans (hb.mono B.out.size))
  replace H1 := Aside0.mk (H1.out.step hb)
  clear hb G DC
  go_wp2_with fail
  refine (WK.out _).mono ?_
  rintro e w5 ⟨rfl, hb⟩
  replace B := Aside0.mk (B.out.trans (hb.mono B.out.size))
  replace H1 := Aside0.mk (H1.out.step hb)
  clear hb WK
  go_wp2_with fail
  refine leaves_cons (f := 61) (args := #[.pointer (some ⟨g, 0, none⟩)]) (by simp) (by simp [go_sem]) ?_
  refine (unlock_deferred muLib ⟨g, 0, none⟩ .returning _ H1.out.cell0 (H1.out.head.frozen 0)).mono ?_
  rintro e u' wz ⟨rfl, rfl, rfl⟩
  exact ⟨_, results_tmp rfl _ _ _, rfl, HB.out _ B.out⟩
set_option maxHeartbeats 4000000 in
set_option maxRecDepth 100000 in
theorem change_check (g b : Nat) (L : List SlotD) (i : Nat) (wrapped check : ByteArray) (hi : i < L.length) (hx : L[i].exchange.size = 16) (hl : wrapped.size = L[i].key.size) (hk : L[i].key.size = 8 ∨ L[i].key.size = 16)
    (hw : weakB (blocksStr (ecbB L[i].exchange.data.toList true wrapped) wrapped).data.toList = false) (hc : lst (checkB (blocksStr (ecbB L[i].exchange.data.toList true wrapped) wrapped).data.toList) ≠ check) (w : World) (h : SlotsAt w g b L) :
    Calls Try.prog 43 #[.pointer (some ⟨g, 0, none⟩), .int .i64 (i : Int), .string wrapped, .string check] w fun e w' => e = .returned (.int .i64 41) ∧ Below w.heap.size w w' := by
  have c0 := h.cell0
  have f0 := h.head.frozen 0
  have H := Aside0.mk h
  have AT := Aside0.mk (fun W hW => at_in g b L 1 i hi W hW)
  have HS := Aside0.mk (fun W (hW : SlotsIn W g b L 1) => hW.slot i hi)
  have he : L[i].exchange.toList.isEmpty = false := by rw [ByteArray.toList_eq, List.isEmpty_eq_false_iff]; exact fun e => by rw [← slen, e] at hx; simp at hx
  have b1 : ((wrapped.size : Int) != (L[i].key.size : Int)) = false := by rw [bne_eq_false_iff_eq]; omega
  have N := Aside0.mk (new_yes L[i].exchange (kindOf_key _ (.inr hx)))
  have DC := Aside0.mk (fun gg (W : World) (hg : Blk W gg 72 (keyBlock (L[i]'hi).exchange.data.toList)) => decrypt_yes gg (L[i]'hi).exchange.data.toList wrapped (by omega) (by omega) W hg)
  have hDz := blocksStr_size (ecbB L[i].exchange.data.toList true wrapped) wrapped (by omega)
  generalize blocksStr (ecbB L[i].exchange.data.toList true wrapped) wrapped = D at *
  have WK := Aside0.mk (weak_any D)
  rw [hw] at WK
  have CK := Aside0.mk (check_yes D (kindOf_key D (by omega)))
  have SM := Aside0.mk (same_any (lst (checkB D.data.toList)) check (by rw [lst_size]; unfold checkB; rw [List.length_take, bytes8_length]; decide))
  rw [decide_eq_false hc] at SM
  rw [show (⟨(checkB D.data.toList).toArray⟩ : ByteArray) = lst (checkB D.data.toList) from rfl] at CK
  generalize lst (checkB D.data.toList) = cv at *
  generalize L[i] = x at *
  clear h hi hx hl hk hDz hw hc
  go_enter_defers Try.func43, Try.ntmps43
  go_wp2_with fail
  refine (lock_free muLib ⟨g, 0, none⟩ _ c0 f0).mono ?_
  rintro e w1 ⟨rfl, hw1⟩
  have HB := Aside0.mk (fun W (hb : Below w1.heap.size w1 W) => by rw [hw1] at hb; exact lock_back H.out hb)
  have H1 : Aside0 (SlotsIn w1 g b L 1) := ⟨by rw [hw1]; exact H.out.lock 1⟩
  have HW1 := Aside0.mk hw1
  clear hw1 c0 f0
  go_wp2_with fail
  refine (AT.out _ H1.out).mono ?_
  rintro e w2 ⟨rfl, hb⟩
  have B := Aside0.mk hb
  replace H1 := Aside0.mk (H1.out.step hb)
  clear hb AT
  obtain ⟨q0, q1, q2, q3, q4⟩ := HS.out _ H1.out
  go_wp2_with fail
  refine (N.out _).mono ?_
  rintro e w3 ⟨gg, rfl, hge, hg, hb⟩
  replace B := Aside0.mk (B.out.trans (hb.mono B.out.size))
  replace H1 := Aside0.mk (H1.out.step hb)
  have G := Aside0.mk hg
  clear hb hg hge N q0 q1 q2 q3 q4
  go_wp2_with fail
  refine (DC.out gg _ G.out).mono ?_
  rintro e w4 ⟨rfl, hb⟩
  replace B := Aside0.mk (B.out.trans (hb.mono B.out.size))
  replace H1 := Aside0.mk (H1.out.step hb)
  clear hb G DC
  go_wp2_with fail
  refine (WK.out _).mono ?_
  rintro e w5 ⟨rfl, hb⟩
  replace B := Aside0.mk (B.out.trans (hb.mono B.out.size))
  replace H1 := Aside0.mk (H1.out.step hb)
  clear hb WK
  go_wp2_with fail
  refine (CK.out _).mono ?_
  rintro e w6 ⟨rfl, hb⟩
  replace B := Aside0.mk (B.out.trans (hb.mono B.out.size))
  replace H1 := Aside0.mk (H1.out.step hb)
  clear hb CK
  go_wp2_with fail
  refine (SM.out _).mono ?_
  rintro e w7 ⟨rfl, hb⟩
  replace B := Aside0.mk (B.out.trans (hb.mono B.out.size))
  replace H1 := Aside0.mk (H1.out.step hb)
  clear hb SM
  go_wp2_with fail
  refine leaves_cons (f := 61) (args := #[.pointer (some ⟨g, 0, none⟩)]) (by simp) (by simp [go_sem]) ?_
  refine (unlock_deferred muLib ⟨g, 0, none⟩ .returning _ H1.out.cell0 (H1.out.head.frozen 0)).mono ?_
  rintro e u' wz ⟨rfl, rfl, rfl⟩
  exact ⟨_, results_tmp rfl _ _ _, rfl, HB.out _ B.out⟩
set_option maxHeartbeats 8000000 in
set_option maxRecDepth 100000 in
theorem change_yes (g b : Nat) (L : List SlotD) (i : Nat) (wrapped check : ByteArray) (hi : i < L.length) (hx : L[i].exchange.size = 16) (hl : wrapped.size = L[i].key.size) (hk : L[i].key.size = 8 ∨ L[i].key.size = 16) (hr : 0 ≤ L[i].round ∧ L[i].round ≤ 999999999)
    (hw : weakB (blocksStr (ecbB L[i].exchange.data.toList true wrapped) wrapped).data.toList = false) (hc : lst (checkB (blocksStr (ecbB L[i].exchange.data.toList true wrapped) wrapped).data.toList) = check) (w : World) (h : SlotsAt w g b L) :
    Calls Try.prog 43 #[.pointer (some ⟨g, 0, none⟩), .int .i64 (i : Int), .string wrapped, .string check] w fun e w' => e = .returned (.int .i64 0) ∧
      SlotsAt w' g b (L.set i ⟨L[i].alg, L[i].method, blocksStr (ecbB L[i].exchange.data.toList true wrapped) wrapped, L[i].exchange, more L[i].round⟩) ∧ Kp w.heap.size b w w' := by
  have c0 := h.cell0
  have f0 := h.head.frozen 0
  have H := Aside0.mk h
  have AT := Aside0.mk (fun W hW => at_in g b L 1 i hi W hW)
  have HS := Aside0.mk (fun W (hW : SlotsIn W g b L 1) => hW.slot i hi)
  have he : L[i].exchange.toList.isEmpty = false := by rw [ByteArray.toList_eq, List.isEmpty_eq_false_iff]; exact fun e => by rw [← slen, e] at hx; simp at hx
  have b1 : ((wrapped.size : Int) != (L[i].key.size : Int)) = false := by rw [bne_eq_false_iff_eq]; omega
  have N := Aside0.mk (new_yes L[i].exchange (kindOf_key _ (.inr hx)))
  have DC := Aside0.mk (fun gg (W : World) (hg : Blk W gg 72 (keyBlock (L[i]'hi).exchange.data.toList)) => decrypt_yes gg (L[i]'hi).exchange.data.toList wrapped (by omega) (by omega) W hg)
  have hDz := blocksStr_size (ecbB L[i].exchange.data.toList true wrapped) wrapped (by omega)
  generalize blocksStr (ecbB L[i].exchange.data.toList true wrapped) wrapped = D at *
  have WK := Aside0.mk (weak_any D)
  rw [hw] at WK
  have CK := Aside0.mk (check_yes D (kindOf_key D (by omega)))
  have SM := Aside0.mk (same_any (lst (checkB D.data.toList)) check (by rw [lst_size]; unfold checkB; rw [List.length_take, bytes8_length]; decide))
  rw [decide_eq_true hc] at SM
  rw [show (⟨(checkB D.data.toList).toArray⟩ : ByteArray) = lst (checkB D.data.toList) from rfl] at CK
  have CT := Aside0.mk (count_any L[i].round hr.1 hr.2)
  generalize lst (checkB D.data.toList) = cv at *
  have hA1 := allCells_set L i 2 hi (by decide) (.string D) ⟨L[i].alg, L[i].method, D, L[i].exchange, L[i].round⟩ rfl
  have hi2 : i < (L.set i ⟨L[i].alg, L[i].method, D, L[i].exchange, L[i].round⟩).length := by rw [List.length_set]; exact hi
  have hA2 := allCells_set (L.set i ⟨L[i].alg, L[i].method, D, L[i].exchange, L[i].round⟩) i 4 hi2 (by decide) (.int .i64 (more L[i].round)) ⟨L[i].alg, L[i].method, D, L[i].exchange, more L[i].round⟩ (by rw [List.getElem_set_self]; rfl)
  rw [List.set_set] at hA2
  have HA : Aside0 (((allCells L).setIfInBounds (i * 5 + 2) (.string D)).setIfInBounds (i * 5 + 4) (.int .i64 (more L[i].round)) = allCells (L.set i ⟨L[i].alg, L[i].method, D, L[i].exchange, more L[i].round⟩)) := ⟨by rw [hA1, hA2]⟩
  clear hA1 hA2 hi2
  generalize hx' : L[i] = x at *
  clear h hi hx hl hk hDz hw hc hr hx'
  go_enter_defers Try.func43, Try.ntmps43
  go_wp2_with fail
  refine (lock_free muLib ⟨g, 0, none⟩ _ c0 f0).mono ?_
  rintro e w1 ⟨rfl, hw1⟩
  have HB := Aside0.mk (fun W (hb : Below w1.heap.size w1 W) => by rw [hw1] at hb; exact lock_back H.out hb)
  have H1 : Aside0 (SlotsIn w1 g b L 1) := ⟨by rw [hw1]; exact H.out.lock 1⟩
  have HW1 := Aside0.mk hw1
  clear hw1 c0 f0
  go_wp2_with fail
  refine (AT.out _ H1.out).mono ?_
  rintro e w2 ⟨rfl, hb⟩
  have B := Aside0.mk hb
  replace H1 := Aside0.mk (H1.out.step hb)
  clear hb AT
  obtain ⟨q0, q1, q2, q3, q4⟩ := HS.out _ H1.out
  go_wp2_with fail
  refine (N.out _).mono ?_
  rintro e w3 ⟨gg, rfl, hge, hg, hb⟩
  replace B := Aside0.mk (B.out.trans (hb.mono B.out.size))
  replace H1 := Aside0.mk (H1.out.step hb)
  have G := Aside0.mk hg
  clear hb hg hge N q0 q1 q2 q3 q4
  go_wp2_with fail
  refine (DC.out gg _ G.out).mono ?_
  rintro e w4 ⟨rfl, hb⟩
  replace B := Aside0.mk (B.out.trans (hb.mono B.out.size))
  replace H1 := Aside0.mk (H1.out.step hb)
  clear hb G DC
  go_wp2_with fail
  refine (WK.out _).mono ?_
  rintro e w5 ⟨rfl, hb⟩
  replace B := Aside0.mk (B.out.trans (hb.mono B.out.size))
  replace H1 := Aside0.mk (H1.out.step hb)
  clear hb WK
  go_wp2_with fail
  refine (CK.out _).mono ?_
  rintro e w6 ⟨rfl, hb⟩
  replace B := Aside0.mk (B.out.trans (hb.mono B.out.size))
  replace H1 := Aside0.mk (H1.out.step hb)
  clear hb CK
  go_wp2_with fail
  refine (SM.out _).mono ?_
  rintro e w7 ⟨rfl, hb⟩
  replace B := Aside0.mk (B.out.trans (hb.mono B.out.size))
  replace H1 := Aside0.mk (H1.out.step hb)
  clear hb SM
  obtain ⟨q0, q1, q2, q3, q4⟩ := HS.out _ H1.out
  go_wp2_with fail
  clear q0 q1 q2 q3 q4
  refine (CT.out _).mono ?_
  rintro e w8 ⟨rfl, hb⟩
  replace B := Aside0.mk (B.out.trans (hb.mono B.out.size))
  replace H1 := Aside0.mk (H1.out.step hb)
  clear hb CT
  obtain ⟨q0, q1, q2, q3, q4⟩ := HS.out _ H1.out
  have z2 := H1.out.body.frozen (i * 5 + 2)
  have z4 := H1.out.body.frozen (i * 5 + 4)
  have H2 : Aside0 (SlotsIn ((w8.setCell ⟨b, i * 5 + 2, none⟩ (.string D)).setCell ⟨b, i * 5 + 4, none⟩ (.int .i64 (more x.round))) g b (L.set i ⟨x.alg, x.method, D, x.exchange, more x.round⟩) 1) := ⟨by
    refine ⟨?_, ?_⟩
    · rw [List.length_set]
      exact (H1.out.head.far (p := ⟨b, i * 5 + 2, none⟩) H1.out.ne _).far (p := ⟨b, i * 5 + 4, none⟩) H1.out.ne _
    · have := (H1.out.body.set_ (i * 5 + 2) (.string D)).set_ (i * 5 + 4) (.int .i64 (more x.round))
      rw [HA.out] at this
      exact this⟩
  have K2 : Aside0 (Kp w1.heap.size b w1 ((w8.setCell ⟨b, i * 5 + 2, none⟩ (.string D)).setCell ⟨b, i * 5 + 4, none⟩ (.int .i64 (more x.round)))) :=
    ⟨(Kp.of_below B.out).trans ⟨rfl, rfl, rfl, by simp [World.setCell], fun k hk hc => (Below.heap_setCell _ _ _ _ hc).trans (Below.heap_setCell _ _ _ _ hc)⟩⟩
  clear H1 B HA HS
  go_wp2_with fail
  refine leaves_cons (f := 61) (args := #[.pointer (some ⟨g, 0, none⟩)]) (by simp) (by simp [go_sem]) ?_
  refine (unlock_deferred muLib ⟨g, 0, none⟩ .returning _ H2.out.cell0 (H2.out.head.frozen 0)).mono ?_
  rintro e u' wz ⟨rfl, rfl, rfl⟩
  have hk := K2.out
  rw [HW1.out] at hk
  have hz := lock_back_kp H.out (by rw [List.length_set]) H2.out hk
  exact ⟨_, results_tmp rfl _ _ _, rfl, hz⟩
end Go.Proofs.Ytopobangjpehnaa.Seal

set_option linter.unusedVariables false
set_option linter.unusedSimpArgs false
namespace Go.Proofs.Ytopobangjpehnaa.Seal
open Go.RowKit Go.Proofs.YtopobangjpehnaaW.PrintWords Go.Proofs.YtopobangjpehnaaW.PrintLast Go.Proofs.YtopobangjpehnaaW.PrintMore Pr Des Num Walk
open Go.MuLone

set_option maxHeartbeats 2000000 in
set_option maxRecDepth 100000 in
theorem newSlots2 (w : World) : Calls Try.prog 37 #[.int .i64 2] w fun e w' => ∃ g b, e = .returned (.tuple #[.pointer (some ⟨g, 0, none⟩), .int .i64 0]) ∧ w.heap.size ≤ g ∧ w.heap.size ≤ b ∧ SlotsAt w' g b [emptySlot, emptySlot] ∧ Below w.heap.size w w' := by
  have hmk : ∀ W : World, (Instr.makeSlice 75 (.int .i64 2) (.int .i64 2)).run Try.prog W = .ok (.slice (some ⟨W.heap.size, 0, none⟩) 2 2) (W.alloc (.cells #[.int .i64 0, .int .i64 0, .string ⟨#[]⟩, .string ⟨#[]⟩, .int .i64 0, .int .i64 0, .int .i64 0, .string ⟨#[]⟩, .string ⟨#[]⟩, .int .i64 0] 88)) := fun W => by kernel_rfl
  have B1 : Aside0 (Below w.heap.size w (w.alloc (.cells #[.int .i64 0, .int .i64 0, .string ⟨#[]⟩, .string ⟨#[]⟩, .int .i64 0, .int .i64 0, .int .i64 0, .string ⟨#[]⟩, .string ⟨#[]⟩, .int .i64 0] 88))) := ⟨below_alloc (Below.refl _ _) _⟩
  have G1 : Aside0 (Blk (w.alloc (.cells #[.int .i64 0, .int .i64 0, .string ⟨#[]⟩, .string ⟨#[]⟩, .int .i64 0, .int .i64 0, .int .i64 0, .string ⟨#[]⟩, .string ⟨#[]⟩, .int .i64 0] 88)) w.heap.size 88 (allCells [emptySlot, emptySlot])) := ⟨Blk.new w 88 _⟩
  go_enter Try.func37, Try.ntmps37
  go_wp2_with fail
  go_ret2
  refine ⟨w.heap.size + 1, w.heap.size, rfl, Nat.le_succ _, Nat.le_refl _, ⟨?_, G1.out.alloc _⟩, below_alloc B1.out _⟩
  have h := Blk.new (w.alloc (.cells #[.int .i64 0, .int .i64 0, .string ⟨#[]⟩, .string ⟨#[]⟩, .int .i64 0, .int .i64 0, .int .i64 0, .string ⟨#[]⟩, .string ⟨#[]⟩, .int .i64 0] 88)) 84 #[.int .i32 0, .int .u32 0, .slice (some ⟨w.heap.size, 0, none⟩) 2 2]
  rw [size_alloc] at h
  exact h

theorem pick2O_any (c : Int) (hc : -9223372036854775808 ≤ c ∧ c ≤ 9223372036854775807) : ∃ r : Int, (r = 0 ∨ r = 1) ∧ ∀ W : World, Calls Try.prog 35 #[.int .i64 c, .int .i64 2] W fun e w' => e = .returned (.int .i64 r) ∧ Below W.heap.size W w' := by
  obtain ⟨r, h1, h2⟩ := pick4_any c 2 hc (by decide) (by decide)
  exact ⟨(r : Int), by omega, h2⟩
theorem wantsO_of {n m : Int} (hn : n = 1 ∨ n = 3) (hm : m = 1 ∨ m = 2) : wantsN n m = 4 + 4 * n := by
  unfold wantsN
  rw [if_pos hm]
  rcases hn with rfl | rfl <;> rfl
theorem catO (a b : ByteArray) (h : a.size + b.size ≤ 9223372036854775807) (w : World) : (Op.stringOp .add a b).run Try.prog w = .ok (.string (a ++ b)) w := run_string_add_sum w a b h
/-- A row of texts that came in; a row of numbers. -/
def Strs (w : World) (A : Option Addr) (len : Nat) (f : Nat → ByteArray) : Prop := ∀ i, i < len → ∃ a, A = some a ∧ w.cell? (a.add i) = some (.string (f i)) ∧ (f i).size ≤ 140737488351232
def Nums (w : World) (A : Option Addr) (len : Nat) (f : Nat → Int) : Prop := ∀ i, i < len → ∃ a, A = some a ∧ w.cell? (a.add i) = some (.int .i64 (f i)) ∧ (-9223372036854775808 ≤ f i ∧ f i ≤ 9223372036854775807)
theorem cell_blkC {w : World} {a : Addr} {v : Value} (h : w.cell? a = some v) : a.block < w.heap.size := World.block_lt_of_cell? w _ h
/-- The two slots behind r keys that came rightly, the last of them now. -/
def twoS (n : Int) (x first now : ByteArray) (r : Int) : List SlotD := [⟨n, 1, now, x, r⟩, ⟨n, 1, first, x, 0⟩]
/-- What comes of a key under the exchange key. -/
def encS (x k : ByteArray) : ByteArray := blocksStr (ecbB x.data.toList false k) k

theorem sz816 (n : Int) (size : Nat) (hn : n = 1 ∨ n = 3) (hsz : (size : Int) = 4 + 4 * n) : size = 8 ∨ size = 16 := by omega
theorem wantsC (n : Int) (size : Nat) (hn : n = 1 ∨ n = 3) (hsz : (size : Int) = 4 + 4 * n) : wantsN n 1 = (size : Int) := by
  rw [wantsO_of hn (.inl rfl), hsz]
theorem tagC (n : Int) (size : Nat) (hn : n = 1 ∨ n = 3) (hsz : (size : Int) = 4 + 4 * n) (text : ByteArray) (ht : text.size ≤ 140737488351232) (now : ByteArray) (hnow : now.size = size) (W : World) :
    Calls Try.prog 44 #[.int .i64 n, .int .i64 1, .string now, .string text] W fun e w' => e = .returned (.tuple #[.string (T8 (tagX n 1 now text)), .int .i64 0]) ∧ Below W.heap.size W w' :=
  tag_yes n 1 (.inl rfl) hn now text (by rw [wantsC n size hn hsz, hnow]) (by omega) W
theorem tagS0 (n : Int) (size : Nat) (hn : n = 1 ∨ n = 3) (hsz : (size : Int) = 4 + 4 * n) (x first : ByteArray) (text : ByteArray) (ht : text.size ≤ 140737488351232) (now : ByteArray) (hnow : now.size = size) (r : Int) (g b : Nat) (W : World) (h : SlotsAt W g b (twoS n x first now r)) :
    Calls Try.prog 39 #[.pointer (some ⟨g, 0, none⟩), .int .i64 0, .string text] W fun e w' => e = .returned (.tuple #[.string (T8 (tagX n 1 now text)), .int .i64 0]) ∧ Below W.heap.size W w' := by
  have hw := wantsC n size hn hsz
  have := stag_in g b (twoS n x first now r) 0 (Nat.succ_pos 1) (show n ≠ 0 by omega) text (by omega) W h
  have eT : tagT n 1 now text = T8 (tagX n 1 now text) := by unfold tagT; rw [if_pos ⟨by rw [hw]; omega, by rw [hw, hnow]⟩]
  have eE : tagE n 1 now = 0 := by unfold tagE; rw [if_neg (by rw [hw]; omega), if_pos (by rw [hw, hnow])]
  simp only [twoS, List.getElem_cons_zero, eT, eE] at this
  exact this
theorem tagS1 (n : Int) (size : Nat) (hn : n = 1 ∨ n = 3) (hsz : (size : Int) = 4 + 4 * n) (x first : ByteArray) (text : ByteArray) (ht : text.size ≤ 140737488351232) (hfirst : first.size = size) (now : ByteArray) (r : Int) (g b : Nat) (W : World) (h : SlotsAt W g b (twoS n x first now r)) :
    Calls Try.prog 39 #[.pointer (some ⟨g, 0, none⟩), .int .i64 1, .string text] W fun e w' => e = .returned (.tuple #[.string (T8 (tagX n 1 first text)), .int .i64 0]) ∧ Below W.heap.size W w' := by
  have hw := wantsC n size hn hsz
  have := stag_in g b (twoS n x first now r) 1 (Nat.lt_succ_self 1) (show n ≠ 0 by omega) text (by omega) W h
  have eT : tagT n 1 first text = T8 (tagX n 1 first text) := by unfold tagT; rw [if_pos ⟨by rw [hw]; omega, by rw [hw, hfirst]⟩]
  have eE : tagE n 1 first = 0 := by unfold tagE; rw [if_neg (by rw [hw]; omega), if_pos (by rw [hw, hfirst])]
  simp only [twoS, List.getElem_cons_succ, List.getElem_cons_zero, eT, eE] at this
  exact this
theorem encC (n : Int) (size : Nat) (hn : n = 1 ∨ n = 3) (hsz : (size : Int) = 4 + 4 * n) (x : ByteArray) (k : ByteArray) (hk : k.size = size) (gb : Nat) (W : World) (hg : Blk W gb 72 (keyBlock x.data.toList)) :
    Calls Try.prog 40 #[.pointer (some ⟨gb, 0, none⟩), .string k] W fun e w' => e = .returned (.tuple #[.string (encS x k), .int .i64 0]) ∧ Below W.heap.size W w' :=
  encrypt_yes gb x.data.toList k (by omega) (by omega) W hg
theorem checkC (n : Int) (size : Nat) (hn : n = 1 ∨ n = 3) (hsz : (size : Int) = 4 + 4 * n) (k : ByteArray) (hk : k.size = size) (W : World) :
    Calls Try.prog 41 #[.string k] W fun e w' => e = .returned (.tuple #[.string (lst (checkB k.data.toList)), .int .i64 0]) ∧ Below W.heap.size W w' :=
  check_yes k (kindOf_key k (by omega)) W
theorem encC_size (n : Int) (size : Nat) (hn : n = 1 ∨ n = 3) (hsz : (size : Int) = 4 + 4 * n) (x : ByteArray) (k : ByteArray) (hk : k.size = size) : (encS x k).size = size := by
  unfold encS; rw [blocksStr_size _ _ (by omega), hk]
theorem encC_back (n : Int) (size : Nat) (hn : n = 1 ∨ n = 3) (hsz : (size : Int) = 4 + 4 * n) (x : ByteArray) (k : ByteArray) (hk : k.size = size) : blocksStr (ecbB x.data.toList true (encS x k)) (encS x k) = k := ecb_back1 x.data.toList k (by omega)
theorem chC_len (n : Int) (size : Nat) (hn : n = 1 ∨ n = 3) (hsz : (size : Int) = 4 + 4 * n) (x first : ByteArray) (hx : x.size = 16) (now : ByteArray) (hnow : now.size = size) (r : Int) (wv cv : ByteArray) (hwv : wv.size ≠ size) (g b : Nat) (W : World) (h : SlotsAt W g b (twoS n x first now r)) :
    Calls Try.prog 43 #[.pointer (some ⟨g, 0, none⟩), .int .i64 0, .string wv, .string cv] W fun e w' => e = .returned (.int .i64 30) ∧ Below W.heap.size W w' :=
  change_len g b (twoS n x first now r) 0 wv cv (Nat.succ_pos 1) (show x.size ≠ 0 by omega) (show wv.size ≠ now.size by omega) W h
theorem chC_weak (n : Int) (size : Nat) (hn : n = 1 ∨ n = 3) (hsz : (size : Int) = 4 + 4 * n) (x first : ByteArray) (hx : x.size = 16) (now k : ByteArray) (hnow : now.size = size) (hk : k.size = size) (hw : weakB k.data.toList = true) (r : Int) (cv : ByteArray) (g b : Nat) (W : World) (h : SlotsAt W g b (twoS n x first now r)) :
    Calls Try.prog 43 #[.pointer (some ⟨g, 0, none⟩), .int .i64 0, .string (encS x k), .string cv] W fun e w' => e = .returned (.int .i64 42) ∧ Below W.heap.size W w' :=
  change_weak g b (twoS n x first now r) 0 (encS x k) cv (Nat.succ_pos 1) hx (show (encS x k).size = now.size by rw [encC_size n size hn hsz x k hk, hnow]) (show now.size = 8 ∨ now.size = 16 by omega)
    (show weakB (blocksStr (ecbB x.data.toList true (encS x k)) (encS x k)).data.toList = true by rw [encC_back n size hn hsz x k hk]; exact hw) W h
theorem chC_check (n : Int) (size : Nat) (hn : n = 1 ∨ n = 3) (hsz : (size : Int) = 4 + 4 * n) (x first : ByteArray) (hx : x.size = 16) (now k : ByteArray) (hnow : now.size = size) (hk : k.size = size) (hw : weakB k.data.toList = false) (r : Int) (cv : ByteArray) (hcv : lst (checkB k.data.toList) ≠ cv) (g b : Nat) (W : World) (h : SlotsAt W g b (twoS n x first now r)) :
    Calls Try.prog 43 #[.pointer (some ⟨g, 0, none⟩), .int .i64 0, .string (encS x k), .string cv] W fun e w' => e = .returned (.int .i64 41) ∧ Below W.heap.size W w' :=
  change_check g b (twoS n x first now r) 0 (encS x k) cv (Nat.succ_pos 1) hx (show (encS x k).size = now.size by rw [encC_size n size hn hsz x k hk, hnow]) (show now.size = 8 ∨ now.size = 16 by omega)
    (show weakB (blocksStr (ecbB x.data.toList true (encS x k)) (encS x k)).data.toList = false by rw [encC_back n size hn hsz x k hk]; exact hw)
    (show lst (checkB (blocksStr (ecbB x.data.toList true (encS x k)) (encS x k)).data.toList) ≠ cv by rw [encC_back n size hn hsz x k hk]; exact hcv) W h
theorem chC_yes (n : Int) (size : Nat) (hn : n = 1 ∨ n = 3) (hsz : (size : Int) = 4 + 4 * n) (x first : ByteArray) (hx : x.size = 16) (now k : ByteArray) (hnow : now.size = size) (hk : k.size = size) (hw : weakB k.data.toList = false) (r : Nat) (hr : r < 999999999) (g b : Nat) (W : World) (h : SlotsAt W g b (twoS n x first now (r : Int))) :
    Calls Try.prog 43 #[.pointer (some ⟨g, 0, none⟩), .int .i64 0, .string (encS x k), .string (lst (checkB k.data.toList))] W fun e w' => e = .returned (.int .i64 0) ∧ SlotsAt w' g b (twoS n x first k ((r + 1 : Nat) : Int)) ∧ Kp W.heap.size b W w' := by
  have := change_yes g b (twoS n x first now (r : Int)) 0 (encS x k) (lst (checkB k.data.toList)) (Nat.succ_pos 1) hx (show (encS x k).size = now.size by rw [encC_size n size hn hsz x k hk, hnow]) (show now.size = 8 ∨ now.size = 16 by omega) (show 0 ≤ (r : Int) ∧ (r : Int) ≤ 999999999 by omega)
    (show weakB (blocksStr (ecbB x.data.toList true (encS x k)) (encS x k)).data.toList = false by rw [encC_back n size hn hsz x k hk]; exact hw)
    (show lst (checkB (blocksStr (ecbB x.data.toList true (encS x k)) (encS x k)).data.toList) = _ by rw [encC_back n size hn hsz x k hk]) W h
  have em : more (r : Int) = ((r + 1 : Nat) : Int) := by unfold more; rw [if_neg (by omega)]; omega
  have e : (twoS n x first now (r : Int)).set 0 ⟨n, 1, blocksStr (ecbB x.data.toList true (encS x k)) (encS x k), x, more (r : Int)⟩ = twoS n x first k ((r + 1 : Nat) : Int) := by
    rw [encC_back n size hn hsz x k hk, em]; rfl
  rw [← e]
  exact this
theorem roundC (n : Int) (x first now : ByteArray) (r : Int) (g b : Nat) (W : World) (h : SlotsAt W g b (twoS n x first now r)) :
    Calls Try.prog 45 #[.pointer (some ⟨g, 0, none⟩), .int .i64 0] W fun e w' => e = .returned (.int .i64 r) ∧ Below W.heap.size W w' := round_in g b (twoS n x first now r) 0 (Nat.succ_pos 1) W h
theorem roundC1 (n : Int) (x first now : ByteArray) (r : Int) (g b : Nat) (W : World) (h : SlotsAt W g b (twoS n x first now r)) :
    Calls Try.prog 45 #[.pointer (some ⟨g, 0, none⟩), .int .i64 1] W fun e w' => e = .returned (.int .i64 0) ∧ Below W.heap.size W w' := round_in g b (twoS n x first now r) 1 (Nat.lt_succ_self 1) W h
theorem check3 (k : ByteArray) : (lst (checkB k.data.toList)).size = 3 := by
  rw [lst_size]; unfold checkB; rw [List.length_take, bytes8_length]; rfl

set_option maxHeartbeats 40000000 in
set_option maxRecDepth 100000 in
theorem changes_core (alg ra n : Int) (size : Nat) (hra : 0 ≤ ra ∧ ra ≤ 1) (hrn : 1 + 2 * ra = n) (hn : n = 1 ∨ n = 3) (hsz : (size : Int) = 4 + 4 * n)
    (HA : ∀ W : World, Calls Try.prog 35 #[.int .i64 alg, .int .i64 2] W fun e w' => e = .returned (.int .i64 ra) ∧ Below W.heap.size W w')
    (exch : ByteArray) (he : exch.size ≤ 140737488351232) (first0 : ByteArray) (hf0 : first0.size ≤ 140737488351232) (text : ByteArray) (ht : text.size ≤ 140737488351232)
    (A : Option Addr) (len cap : Nat) (hlen : len ≤ 2000000) (K : Nat → ByteArray) (w : World) (hK : Strs w A len K) (A2 : Option Addr) (len2 cap2 : Nat) (hlen2 : len2 ≤ 2000000) (SP : Nat → Int) (hSP : Nums w A2 len2 SP) :
    Calls Try.prog 7 #[.int .i64 alg, .string exch, .string first0, .slice A len cap, .slice A2 len2 cap2, .string text] w fun e w' => e = .returned (.bool true) ∧ Below w.heap.size w w' := by
  have hs816 := sz816 n size hn hsz
  have hfx := fitted_any exch 16 (.inr rfl) (by omega)
  have hxs := fitS_size exch (16 : Int).toNat
  have hff := fitted_any first0 (size : Int) (by omega) (by omega)
  have hfs := fitS_size first0 ((size : Int)).toNat
  rw [Int.toNat_natCast] at hff hfs
  generalize fitS exch (16 : Int).toNat = x at *
  generalize fitS first0 size = first at *
  have hx16 : x.size = 16 := hxs
  have hN := fun W => new_yes x (kindOf_key x (.inr hx16)) W
  have hw := wantsC n size hn hsz
  have hput0 := fun g b W hW => put_yes g b [emptySlot, emptySlot] 0 n 1 first x (Nat.succ_pos 1) (by rw [hw]; omega) (by rw [hw, hfs]) (.inr hx16) W hW
  have hput1 := fun g b W hW => put_yes g b [⟨n, 1, first, x, 0⟩, emptySlot] 1 n 1 first x (Nat.lt_succ_self 1) (by rw [hw]; omega) (by rw [hw, hfs]) (.inr hx16) W hW
  rw [show [emptySlot, emptySlot].set 0 ⟨n, 1, first, x, 0⟩ = [⟨n, 1, first, x, 0⟩, emptySlot] from rfl] at hput0
  rw [show [⟨n, 1, first, x, 0⟩, emptySlot].set 1 ⟨n, 1, first, x, 0⟩ = twoS n x first first 0 from rfl] at hput1
  have P0 := Aside0.mk hput0
  have P1 := Aside0.mk hput1
  have T1 := Aside0.mk (fun now r g b W hW => tagS1 n size hn hsz x first text ht hfs now r g b W hW)
  have TS' := Aside0.mk (fun now (hnow : now.size = size) r g b W hW => tagS0 n size hn hsz x first text ht now hnow r g b W hW)
  have TC' := Aside0.mk (fun now (hnow : now.size = size) W => tagC n size hn hsz text ht now hnow W)
  have HX := Aside0.mk hfx
  have HFI := Aside0.mk hff
  have HFS := Aside0.mk hfs
  have N := Aside0.mk hN
  have HA' := Aside0.mk HA
  have HSZ := Aside0.mk hsz
  have HN13 := Aside0.mk hn
  have HX16 := Aside0.mk hx16
  have HK := Aside0.mk hK
  have HSP := Aside0.mk hSP
  have hn3 : 1 ≤ n ∧ n ≤ 3 := by omega
  obtain ⟨hn3a, hn3b⟩ := hn3
  obtain ⟨hra0, hra1⟩ := hra
  have hsz2 : 4 + 4 * n = (size : Int) := hsz.symm
  clear hfx hxs hff hfs hx16 hN hw hput0 hput1 HA hsz hn hK hSP he hf0 ht
  go_enter Try.func7, Try.ntmps7
  go_wp2_with fail
  refine (HA'.out _).mono ?_
  rintro e w1 ⟨rfl, hb⟩
  have B := Aside0.mk hb
  clear hb
  go_wp2_with fail
  refine (HX.out _).mono ?_
  rintro e w2 ⟨rfl, hb⟩
  replace B := Aside0.mk (B.out.trans (hb.mono B.out.size))
  clear hb
  go_wp2_with fail
  refine (HFI.out _).mono ?_
  rintro e w3 ⟨rfl, hb⟩
  replace B := Aside0.mk (B.out.trans (hb.mono B.out.size))
  clear hb
  go_wp2_with fail
  refine (newSlots2 _).mono ?_
  rintro e w4 ⟨g, b, rfl, hg, hb0, hS, hb⟩
  have HG : Aside0 (w.heap.size ≤ g ∧ w.heap.size ≤ b) := ⟨⟨Nat.le_trans B.out.size hg, Nat.le_trans B.out.size hb0⟩⟩
  replace B := Aside0.mk (B.out.trans (hb.mono B.out.size))
  have S := Aside0.mk hS
  clear hg hb0 hS hb
  go_wp2_with fail
  refine (N.out _).mono ?_
  rintro e w5 ⟨gb, rfl, hge, hg, hb⟩
  have HGB : Aside0 (gb ≠ b) := ⟨fun e => by have := S.out.body.lt; omega⟩
  replace B := Aside0.mk (B.out.trans (hb.mono B.out.size))
  replace S := Aside0.mk (S.out.step hb)
  have G : Aside0 (Blk w5 gb 72 (keyBlock x.data.toList)) := ⟨hg⟩
  clear hb hg hge N
  go_wp2_with fail
  refine (P0.out g b _ S.out).mono ?_
  rintro e w6 ⟨rfl, hS, hb⟩
  replace B := Aside0.mk (B.out.trans (hb.below B.out.size HG.out.2))
  replace S := Aside0.mk hS
  replace G : Aside0 (Blk w6 gb 72 (keyBlock x.data.toList)) := ⟨(hb.block gb G.out.lt HGB.out).trans G.out⟩
  clear hS hb
  go_wp2_with fail
  refine (P1.out g b _ S.out).mono ?_
  rintro e w7 ⟨rfl, hS, hb⟩
  replace B := Aside0.mk (B.out.trans (hb.below B.out.size HG.out.2))
  replace S := Aside0.mk hS
  replace G : Aside0 (Blk w7 gb 72 (keyBlock x.data.toList)) := ⟨(hb.block gb G.out.lt HGB.out).trans G.out⟩
  clear hS hb P0 P1
  go_wp2_with fail
  refine (T1.out first 0 g b _ S.out).mono ?_
  rintro e w8 ⟨rfl, hb⟩
  replace B := Aside0.mk (B.out.trans (hb.mono B.out.size))
  replace S := Aside0.mk (S.out.step hb)
  replace G := Aside0.mk (G.out.step hb)
  clear hb
  go_wp2_with fail
  have HL0 : Aside0 (first.size = size ∧ (0 : Nat) ≤ 0) := ⟨HFS.out, Nat.le_refl 0⟩
  go_loopw [16, 25, 26] (fun v16 v25 v26 wr => ∃ (q : Nat) (now : ByteArray) (r : Nat), q ≤ len ∧ v26 = .int .i64 (q : Int) ∧ v25 = .int .i64 (r : Int) ∧ v16 = .string now ∧ Aside0 (now.size = size ∧ r ≤ q) ∧ Aside0 (SlotsAt wr g b (twoS n x first now (r : Int))) ∧ Aside0 (Blk wr gb 72 (keyBlock x.data.toList)) ∧ Aside0 (Below w.heap.size w wr)) (fun _ _ v26 _ => len - (intOf v26).toNat)
  case atStart => exact ⟨0, first, 0, Nat.zero_le _, rfl, rfl, rfl, HL0, S, G, B⟩
  case round =>
    clear B S G HL0
    obtain ⟨q, now, r, hq, rfl, rfl, rfl, HL, S, G, B⟩ := hrel
    by_cases hlt : q < len
    · obtain ⟨ad, rfl, hcell, hks⟩ := HK.out q hlt
      have q1 : wr.cell? (ad.add q) = some (.string (K q)) := (B.out.cell (cell_blkC hcell)).trans hcell
      have hkf := fitted_any (K q) (size : Int) (by omega) (by omega)
      have hkz := fitS_size (K q) ((size : Int)).toNat
      rw [Int.toNat_natCast] at hkf hkz
      generalize fitS (K q) size = k at *
      have KF := Aside0.mk hkf
      have EN := Aside0.mk (fun W hg => encC n size HN13.out HSZ.out x k hkz gb W hg)
      have CK := Aside0.mk (fun W => checkC n size HN13.out HSZ.out k hkz W)
      have WK := Aside0.mk (fun W => weak_any k W)
      have HKZ := Aside0.mk hkz
      have rb : r ≤ 2000000 := by have := HL.out.2; omega
      have qb : q ≤ 2000000 := by omega
      have hV3 := check3 k
      have CHL := Aside0.mk (fun wv cv hwv W hW => chC_len n size HN13.out HSZ.out x first HX16.out now HL.out.1 (r : Int) wv cv hwv g b W hW)
      have CHW := Aside0.mk (fun hw cv W hW => chC_weak n size HN13.out HSZ.out x first HX16.out now k HL.out.1 hkz hw (r : Int) cv g b W hW)
      have CHC := Aside0.mk (fun hw cv hcv W hW => chC_check n size HN13.out HSZ.out x first HX16.out now k HL.out.1 hkz hw (r : Int) cv hcv g b W hW)
      have CHY := Aside0.mk (fun hw W hW => chC_yes n size HN13.out HSZ.out x first HX16.out now k HL.out.1 hkz hw r (by omega) g b W hW)
      have hEz := encC_size n size HN13.out HSZ.out x k hkz
      generalize lst (checkB k.data.toList) = V at *
      generalize encS x k = E0 at *
      obtain ⟨VX, hVX⟩ : ∃ VX, V ++ ⟨#[120]⟩ = VX := ⟨_, rfl⟩
      have k1 := catO V ⟨#[120]⟩ (by rw [hV3]; decide)
      rw [hVX] at k1
      have s3 := fun W => sl_to V 1 (by omega) W 1 rfl
      have s2 := fun W => sl_to E0 (size - 1) (by omega) W ((size : Int) - 1) (by omega)
      have nVX : V ≠ VX := fun e => by
        have := congrArg ByteArray.size e
        rw [← hVX, ByteArray.size_append] at this
        have h1 : (⟨#[120]⟩ : ByteArray).size = 1 := rfl
        omega
      have nV1 : V ≠ V.extract 0 1 := fun e => by
        have := congrArg ByteArray.size e
        rw [ByteArray.size_extract] at this
        omega
      have nE : (E0.extract 0 (size - 1)).size ≠ size := by rw [ByteArray.size_extract]; omega
      have HNX := Aside0.mk (And.intro nVX (And.intro nV1 nE))
      have hs8 : 8 ≤ size := by omega
      have hs16 : size ≤ 16 := by omega
      have HE := Aside0.mk hEz
      generalize V.extract 0 1 = V1 at *
      generalize E0.extract 0 (size - 1) = E1 at *
      clear hcell hks hkf hkz hs816 nVX nV1 nE hVX hEz
      go_wp2_with fail
      clear q1
      refine (KF.out _).mono ?_
      rintro e x1 ⟨rfl, hb⟩
      replace B := Aside0.mk (B.out.trans (hb.mono B.out.size))
      replace S := Aside0.mk (S.out.step hb)
      replace G := Aside0.mk (G.out.step hb)
      clear hb
      go_wp2_with fail
      refine (EN.out _ G.out).mono ?_
      rintro e x2 ⟨rfl, hb⟩
      replace B := Aside0.mk (B.out.trans (hb.mono B.out.size))
      replace S := Aside0.mk (S.out.step hb)
      replace G := Aside0.mk (G.out.step hb)
      clear hb
      go_wp2_with fail
      refine (CK.out _).mono ?_
      rintro e x3 ⟨rfl, hb⟩
      replace B := Aside0.mk (B.out.trans (hb.mono B.out.size))
      replace S := Aside0.mk (S.out.step hb)
      replace G := Aside0.mk (G.out.step hb)
      clear hb
      clear KF EN CK
      by_cases h2 : q < len2
      · obtain ⟨ad2, rfl, hcell, hks⟩ := HSP.out q h2
        obtain ⟨h, hh5, hp⟩ := pick4_any (SP q) 5 hks (by decide) (by decide)
        have q2 : x3.cell? (ad2.add q) = some (.int .i64 (SP q)) := (B.out.cell (cell_blkC hcell)).trans hcell
        have PK := Aside0.mk hp
        have h5 : h = 0 ∨ h = 1 ∨ h = 2 ∨ h = 3 ∨ h = 4 := by omega
        clear hcell hks hp hh5
        cases hwk : weakB k.data.toList
        · rw [hwk] at WK
          replace CHC := Aside0.mk (CHC.out hwk)
          replace CHY := Aside0.mk (CHY.out hwk)
          clear hwk CHW
          rcases h5 with rfl | rfl | rfl | rfl | rfl
          ·
            go_wp2_with fail
            clear q2
            refine (PK.out _).mono ?_
            rintro e x4 ⟨rfl, hb⟩
            replace B := Aside0.mk (B.out.trans (hb.mono B.out.size))
            replace S := Aside0.mk (S.out.step hb)
            replace G := Aside0.mk (G.out.step hb)
            clear hb
            go_wp2_with fail
            refine (WK.out _).mono ?_
            rintro e x5 ⟨rfl, hb⟩
            replace B := Aside0.mk (B.out.trans (hb.mono B.out.size))
            replace S := Aside0.mk (S.out.step hb)
            replace G := Aside0.mk (G.out.step hb)
            clear hb
            go_wp2_with fail
            refine (CHY.out _ S.out).mono ?_
            rintro e x6 ⟨rfl, hS, hb⟩
            replace B := Aside0.mk (B.out.trans (hb.below B.out.size HG.out.2))
            replace S := Aside0.mk hS
            replace G : Aside0 (Blk x6 gb 72 (keyBlock x.data.toList)) := ⟨(hb.block gb G.out.lt HGB.out).trans G.out⟩
            clear hS hb
            go_wp2_with fail
            refine (TS'.out k HKZ.out ((r + 1 : Nat) : Int) g b _ S.out).mono ?_
            rintro e y1 ⟨rfl, hb⟩
            replace B := Aside0.mk (B.out.trans (hb.mono B.out.size))
            replace S := Aside0.mk (S.out.step hb)
            replace G := Aside0.mk (G.out.step hb)
            clear hb
            go_wp2_with fail
            refine (TC'.out k HKZ.out _).mono ?_
            rintro e y2 ⟨rfl, hb⟩
            replace B := Aside0.mk (B.out.trans (hb.mono B.out.size))
            replace S := Aside0.mk (S.out.step hb)
            replace G := Aside0.mk (G.out.step hb)
            clear hb
            go_wp2_with fail
            refine (roundC n x first k ((r + 1 : Nat) : Int) g b _ S.out).mono ?_
            rintro e y3 ⟨rfl, hb⟩
            replace B := Aside0.mk (B.out.trans (hb.mono B.out.size))
            replace S := Aside0.mk (S.out.step hb)
            replace G := Aside0.mk (G.out.step hb)
            clear hb
            go_wp2_with fail
            go_roundw
            case rel => exact ⟨q + 1, k, r + 1, by omega, by go_num, by go_num, rfl, ⟨⟨HKZ.out, Nat.succ_le_succ HL.out.2⟩⟩, S, G, B⟩
            case measure => simp [intOf]; omega
          ·
            go_wp2_with fail
            clear q2
            refine (PK.out _).mono ?_
            rintro e x4 ⟨rfl, hb⟩
            replace B := Aside0.mk (B.out.trans (hb.mono B.out.size))
            replace S := Aside0.mk (S.out.step hb)
            replace G := Aside0.mk (G.out.step hb)
            clear hb
            go_wp2_with fail
            refine (WK.out _).mono ?_
            rintro e x5 ⟨rfl, hb⟩
            replace B := Aside0.mk (B.out.trans (hb.mono B.out.size))
            replace S := Aside0.mk (S.out.step hb)
            replace G := Aside0.mk (G.out.step hb)
            clear hb
            go_wp2_with fail
            refine (CHC.out VX HNX.out.1 _ S.out).mono ?_
            rintro e x6 ⟨rfl, hb⟩
            replace B := Aside0.mk (B.out.trans (hb.mono B.out.size))
            replace S := Aside0.mk (S.out.step hb)
            replace G := Aside0.mk (G.out.step hb)
            clear hb
            go_wp2_with fail
            refine (TS'.out now HL.out.1 (r : Int) g b _ S.out).mono ?_
            rintro e y1 ⟨rfl, hb⟩
            replace B := Aside0.mk (B.out.trans (hb.mono B.out.size))
            replace S := Aside0.mk (S.out.step hb)
            replace G := Aside0.mk (G.out.step hb)
            clear hb
            go_wp2_with fail
            refine (TC'.out now HL.out.1 _).mono ?_
            rintro e y2 ⟨rfl, hb⟩
            replace B := Aside0.mk (B.out.trans (hb.mono B.out.size))
            replace S := Aside0.mk (S.out.step hb)
            replace G := Aside0.mk (G.out.step hb)
            clear hb
            go_wp2_with fail
            refine (roundC n x first now (r : Int) g b _ S.out).mono ?_
            rintro e y3 ⟨rfl, hb⟩
            replace B := Aside0.mk (B.out.trans (hb.mono B.out.size))
            replace S := Aside0.mk (S.out.step hb)
            replace G := Aside0.mk (G.out.step hb)
            clear hb
            go_wp2_with fail
            go_roundw
            case rel => exact ⟨q + 1, now, r, by omega, by go_num, rfl, rfl, ⟨⟨HL.out.1, Nat.le_succ_of_le HL.out.2⟩⟩, S, G, B⟩
            case measure => simp [intOf]; omega
          ·
            go_wp2_with fail
            clear q2
            refine (PK.out _).mono ?_
            rintro e x4 ⟨rfl, hb⟩
            replace B := Aside0.mk (B.out.trans (hb.mono B.out.size))
            replace S := Aside0.mk (S.out.step hb)
            replace G := Aside0.mk (G.out.step hb)
            clear hb
            go_wp2_with fail
            refine (WK.out _).mono ?_
            rintro e x5 ⟨rfl, hb⟩
            replace B := Aside0.mk (B.out.trans (hb.mono B.out.size))
            replace S := Aside0.mk (S.out.step hb)
            replace G := Aside0.mk (G.out.step hb)
            clear hb
            go_wp2_with fail
            refine (CHL.out E1 V HNX.out.2.2 _ S.out).mono ?_
            rintro e x6 ⟨rfl, hb⟩
            replace B := Aside0.mk (B.out.trans (hb.mono B.out.size))
            replace S := Aside0.mk (S.out.step hb)
            replace G := Aside0.mk (G.out.step hb)
            clear hb
            go_wp2_with fail
            refine (TS'.out now HL.out.1 (r : Int) g b _ S.out).mono ?_
            rintro e y1 ⟨rfl, hb⟩
            replace B := Aside0.mk (B.out.trans (hb.mono B.out.size))
            replace S := Aside0.mk (S.out.step hb)
            replace G := Aside0.mk (G.out.step hb)
            clear hb
            go_wp2_with fail
            refine (TC'.out now HL.out.1 _).mono ?_
            rintro e y2 ⟨rfl, hb⟩
            replace B := Aside0.mk (B.out.trans (hb.mono B.out.size))
            replace S := Aside0.mk (S.out.step hb)
            replace G := Aside0.mk (G.out.step hb)
            clear hb
            go_wp2_with fail
            refine (roundC n x first now (r : Int) g b _ S.out).mono ?_
            rintro e y3 ⟨rfl, hb⟩
            replace B := Aside0.mk (B.out.trans (hb.mono B.out.size))
            replace S := Aside0.mk (S.out.step hb)
            replace G := Aside0.mk (G.out.step hb)
            clear hb
            go_wp2_with fail
            go_roundw
            case rel => exact ⟨q + 1, now, r, by omega, by go_num, rfl, rfl, ⟨⟨HL.out.1, Nat.le_succ_of_le HL.out.2⟩⟩, S, G, B⟩
            case measure => simp [intOf]; omega
          ·
            go_wp2_with fail
            clear q2
            refine (PK.out _).mono ?_
            rintro e x4 ⟨rfl, hb⟩
            replace B := Aside0.mk (B.out.trans (hb.mono B.out.size))
            replace S := Aside0.mk (S.out.step hb)
            replace G := Aside0.mk (G.out.step hb)
            clear hb
            go_wp2_with fail
            refine (WK.out _).mono ?_
            rintro e x5 ⟨rfl, hb⟩
            replace B := Aside0.mk (B.out.trans (hb.mono B.out.size))
            replace S := Aside0.mk (S.out.step hb)
            replace G := Aside0.mk (G.out.step hb)
            clear hb
            go_wp2_with fail
            refine (CHC.out V1 HNX.out.2.1 _ S.out).mono ?_
            rintro e x6 ⟨rfl, hb⟩
            replace B := Aside0.mk (B.out.trans (hb.mono B.out.size))
            replace S := Aside0.mk (S.out.step hb)
            replace G := Aside0.mk (G.out.step hb)
            clear hb
            go_wp2_with fail
            refine (TS'.out now HL.out.1 (r : Int) g b _ S.out).mono ?_
            rintro e y1 ⟨rfl, hb⟩
            replace B := Aside0.mk (B.out.trans (hb.mono B.out.size))
            replace S := Aside0.mk (S.out.step hb)
            replace G := Aside0.mk (G.out.step hb)
            clear hb
            go_wp2_with fail
            refine (TC'.out now HL.out.1 _).mono ?_
            rintro e y2 ⟨rfl, hb⟩
            replace B := Aside0.mk (B.out.trans (hb.mono B.out.size))
            replace S := Aside0.mk (S.out.step hb)
            replace G := Aside0.mk (G.out.step hb)
            clear hb
            go_wp2_with fail
            refine (roundC n x first now (r : Int) g b _ S.out).mono ?_
            rintro e y3 ⟨rfl, hb⟩
            replace B := Aside0.mk (B.out.trans (hb.mono B.out.size))
            replace S := Aside0.mk (S.out.step hb)
            replace G := Aside0.mk (G.out.step hb)
            clear hb
            go_wp2_with fail
            go_roundw
            case rel => exact ⟨q + 1, now, r, by omega, by go_num, rfl, rfl, ⟨⟨HL.out.1, Nat.le_succ_of_le HL.out.2⟩⟩, S, G, B⟩
            case measure => simp [intOf]; omega
          ·
            go_wp2_with fail
            clear q2
            refine (PK.out _).mono ?_
            rintro e x4 ⟨rfl, hb⟩
            replace B := Aside0.mk (B.out.trans (hb.mono B.out.size))
            replace S := Aside0.mk (S.out.step hb)
            replace G := Aside0.mk (G.out.step hb)
            clear hb
            go_wp2_with fail
            refine (WK.out _).mono ?_
            rintro e x5 ⟨rfl, hb⟩
            replace B := Aside0.mk (B.out.trans (hb.mono B.out.size))
            replace S := Aside0.mk (S.out.step hb)
            replace G := Aside0.mk (G.out.step hb)
            clear hb
            go_wp2_with fail
            refine (CHY.out _ S.out).mono ?_
            rintro e x6 ⟨rfl, hS, hb⟩
            replace B := Aside0.mk (B.out.trans (hb.below B.out.size HG.out.2))
            replace S := Aside0.mk hS
            replace G : Aside0 (Blk x6 gb 72 (keyBlock x.data.toList)) := ⟨(hb.block gb G.out.lt HGB.out).trans G.out⟩
            clear hS hb
            go_wp2_with fail
            refine (TS'.out k HKZ.out ((r + 1 : Nat) : Int) g b _ S.out).mono ?_
            rintro e y1 ⟨rfl, hb⟩
            replace B := Aside0.mk (B.out.trans (hb.mono B.out.size))
            replace S := Aside0.mk (S.out.step hb)
            replace G := Aside0.mk (G.out.step hb)
            clear hb
            go_wp2_with fail
            refine (TC'.out k HKZ.out _).mono ?_
            rintro e y2 ⟨rfl, hb⟩
            replace B := Aside0.mk (B.out.trans (hb.mono B.out.size))
            replace S := Aside0.mk (S.out.step hb)
            replace G := Aside0.mk (G.out.step hb)
            clear hb
            go_wp2_with fail
            refine (roundC n x first k ((r + 1 : Nat) : Int) g b _ S.out).mono ?_
            rintro e y3 ⟨rfl, hb⟩
            replace B := Aside0.mk (B.out.trans (hb.mono B.out.size))
            replace S := Aside0.mk (S.out.step hb)
            replace G := Aside0.mk (G.out.step hb)
            clear hb
            go_wp2_with fail
            go_roundw
            case rel => exact ⟨q + 1, k, r + 1, by omega, by go_num, by go_num, rfl, ⟨⟨HKZ.out, Nat.succ_le_succ HL.out.2⟩⟩, S, G, B⟩
            case measure => simp [intOf]; omega
        · rw [hwk] at WK
          replace CHW := Aside0.mk (CHW.out hwk)
          clear hwk CHC CHY
          rcases h5 with rfl | rfl | rfl | rfl | rfl
          ·
            go_wp2_with fail
            clear q2
            refine (PK.out _).mono ?_
            rintro e x4 ⟨rfl, hb⟩
            replace B := Aside0.mk (B.out.trans (hb.mono B.out.size))
            replace S := Aside0.mk (S.out.step hb)
            replace G := Aside0.mk (G.out.step hb)
            clear hb
            go_wp2_with fail
            refine (WK.out _).mono ?_
            rintro e x5 ⟨rfl, hb⟩
            replace B := Aside0.mk (B.out.trans (hb.mono B.out.size))
            replace S := Aside0.mk (S.out.step hb)
            replace G := Aside0.mk (G.out.step hb)
            clear hb
            go_wp2_with fail
            refine (CHW.out V _ S.out).mono ?_
            rintro e x6 ⟨rfl, hb⟩
            replace B := Aside0.mk (B.out.trans (hb.mono B.out.size))
            replace S := Aside0.mk (S.out.step hb)
            replace G := Aside0.mk (G.out.step hb)
            clear hb
            go_wp2_with fail
            refine (TS'.out now HL.out.1 (r : Int) g b _ S.out).mono ?_
            rintro e y1 ⟨rfl, hb⟩
            replace B := Aside0.mk (B.out.trans (hb.mono B.out.size))
            replace S := Aside0.mk (S.out.step hb)
            replace G := Aside0.mk (G.out.step hb)
            clear hb
            go_wp2_with fail
            refine (TC'.out now HL.out.1 _).mono ?_
            rintro e y2 ⟨rfl, hb⟩
            replace B := Aside0.mk (B.out.trans (hb.mono B.out.size))
            replace S := Aside0.mk (S.out.step hb)
            replace G := Aside0.mk (G.out.step hb)
            clear hb
            go_wp2_with fail
            refine (roundC n x first now (r : Int) g b _ S.out).mono ?_
            rintro e y3 ⟨rfl, hb⟩
            replace B := Aside0.mk (B.out.trans (hb.mono B.out.size))
            replace S := Aside0.mk (S.out.step hb)
            replace G := Aside0.mk (G.out.step hb)
            clear hb
            go_wp2_with fail
            go_roundw
            case rel => exact ⟨q + 1, now, r, by omega, by go_num, rfl, rfl, ⟨⟨HL.out.1, Nat.le_succ_of_le HL.out.2⟩⟩, S, G, B⟩
            case measure => simp [intOf]; omega
          ·
            go_wp2_with fail
            clear q2
            refine (PK.out _).mono ?_
            rintro e x4 ⟨rfl, hb⟩
            replace B := Aside0.mk (B.out.trans (hb.mono B.out.size))
            replace S := Aside0.mk (S.out.step hb)
            replace G := Aside0.mk (G.out.step hb)
            clear hb
            go_wp2_with fail
            refine (WK.out _).mono ?_
            rintro e x5 ⟨rfl, hb⟩
            replace B := Aside0.mk (B.out.trans (hb.mono B.out.size))
            replace S := Aside0.mk (S.out.step hb)
            replace G := Aside0.mk (G.out.step hb)
            clear hb
            go_wp2_with fail
            refine (CHW.out VX _ S.out).mono ?_
            rintro e x6 ⟨rfl, hb⟩
            replace B := Aside0.mk (B.out.trans (hb.mono B.out.size))
            replace S := Aside0.mk (S.out.step hb)
            replace G := Aside0.mk (G.out.step hb)
            clear hb
            go_wp2_with fail
            refine (TS'.out now HL.out.1 (r : Int) g b _ S.out).mono ?_
            rintro e y1 ⟨rfl, hb⟩
            replace B := Aside0.mk (B.out.trans (hb.mono B.out.size))
            replace S := Aside0.mk (S.out.step hb)
            replace G := Aside0.mk (G.out.step hb)
            clear hb
            go_wp2_with fail
            refine (TC'.out now HL.out.1 _).mono ?_
            rintro e y2 ⟨rfl, hb⟩
            replace B := Aside0.mk (B.out.trans (hb.mono B.out.size))
            replace S := Aside0.mk (S.out.step hb)
            replace G := Aside0.mk (G.out.step hb)
            clear hb
            go_wp2_with fail
            refine (roundC n x first now (r : Int) g b _ S.out).mono ?_
            rintro e y3 ⟨rfl, hb⟩
            replace B := Aside0.mk (B.out.trans (hb.mono B.out.size))
            replace S := Aside0.mk (S.out.step hb)
            replace G := Aside0.mk (G.out.step hb)
            clear hb
            go_wp2_with fail
            go_roundw
            case rel => exact ⟨q + 1, now, r, by omega, by go_num, rfl, rfl, ⟨⟨HL.out.1, Nat.le_succ_of_le HL.out.2⟩⟩, S, G, B⟩
            case measure => simp [intOf]; omega
          ·
            go_wp2_with fail
            clear q2
            refine (PK.out _).mono ?_
            rintro e x4 ⟨rfl, hb⟩
            replace B := Aside0.mk (B.out.trans (hb.mono B.out.size))
            replace S := Aside0.mk (S.out.step hb)
            replace G := Aside0.mk (G.out.step hb)
            clear hb
            go_wp2_with fail
            refine (WK.out _).mono ?_
            rintro e x5 ⟨rfl, hb⟩
            replace B := Aside0.mk (B.out.trans (hb.mono B.out.size))
            replace S := Aside0.mk (S.out.step hb)
            replace G := Aside0.mk (G.out.step hb)
            clear hb
            go_wp2_with fail
            refine (CHL.out E1 V HNX.out.2.2 _ S.out).mono ?_
            rintro e x6 ⟨rfl, hb⟩
            replace B := Aside0.mk (B.out.trans (hb.mono B.out.size))
            replace S := Aside0.mk (S.out.step hb)
            replace G := Aside0.mk (G.out.step hb)
            clear hb
            go_wp2_with fail
            refine (TS'.out now HL.out.1 (r : Int) g b _ S.out).mono ?_
            rintro e y1 ⟨rfl, hb⟩
            replace B := Aside0.mk (B.out.trans (hb.mono B.out.size))
            replace S := Aside0.mk (S.out.step hb)
            replace G := Aside0.mk (G.out.step hb)
            clear hb
            go_wp2_with fail
            refine (TC'.out now HL.out.1 _).mono ?_
            rintro e y2 ⟨rfl, hb⟩
            replace B := Aside0.mk (B.out.trans (hb.mono B.out.size))
            replace S := Aside0.mk (S.out.step hb)
            replace G := Aside0.mk (G.out.step hb)
            clear hb
            go_wp2_with fail
            refine (roundC n x first now (r : Int) g b _ S.out).mono ?_
            rintro e y3 ⟨rfl, hb⟩
            replace B := Aside0.mk (B.out.trans (hb.mono B.out.size))
            replace S := Aside0.mk (S.out.step hb)
            replace G := Aside0.mk (G.out.step hb)
            clear hb
            go_wp2_with fail
            go_roundw
            case rel => exact ⟨q + 1, now, r, by omega, by go_num, rfl, rfl, ⟨⟨HL.out.1, Nat.le_succ_of_le HL.out.2⟩⟩, S, G, B⟩
            case measure => simp [intOf]; omega
          ·
            go_wp2_with fail
            clear q2
            refine (PK.out _).mono ?_
            rintro e x4 ⟨rfl, hb⟩
            replace B := Aside0.mk (B.out.trans (hb.mono B.out.size))
            replace S := Aside0.mk (S.out.step hb)
            replace G := Aside0.mk (G.out.step hb)
            clear hb
            go_wp2_with fail
            refine (WK.out _).mono ?_
            rintro e x5 ⟨rfl, hb⟩
            replace B := Aside0.mk (B.out.trans (hb.mono B.out.size))
            replace S := Aside0.mk (S.out.step hb)
            replace G := Aside0.mk (G.out.step hb)
            clear hb
            go_wp2_with fail
            refine (CHW.out V1 _ S.out).mono ?_
            rintro e x6 ⟨rfl, hb⟩
            replace B := Aside0.mk (B.out.trans (hb.mono B.out.size))
            replace S := Aside0.mk (S.out.step hb)
            replace G := Aside0.mk (G.out.step hb)
            clear hb
            go_wp2_with fail
            refine (TS'.out now HL.out.1 (r : Int) g b _ S.out).mono ?_
            rintro e y1 ⟨rfl, hb⟩
            replace B := Aside0.mk (B.out.trans (hb.mono B.out.size))
            replace S := Aside0.mk (S.out.step hb)
            replace G := Aside0.mk (G.out.step hb)
            clear hb
            go_wp2_with fail
            refine (TC'.out now HL.out.1 _).mono ?_
            rintro e y2 ⟨rfl, hb⟩
            replace B := Aside0.mk (B.out.trans (hb.mono B.out.size))
            replace S := Aside0.mk (S.out.step hb)
            replace G := Aside0.mk (G.out.step hb)
            clear hb
            go_wp2_with fail
            refine (roundC n x first now (r : Int) g b _ S.out).mono ?_
            rintro e y3 ⟨rfl, hb⟩
            replace B := Aside0.mk (B.out.trans (hb.mono B.out.size))
            replace S := Aside0.mk (S.out.step hb)
            replace G := Aside0.mk (G.out.step hb)
            clear hb
            go_wp2_with fail
            go_roundw
            case rel => exact ⟨q + 1, now, r, by omega, by go_num, rfl, rfl, ⟨⟨HL.out.1, Nat.le_succ_of_le HL.out.2⟩⟩, S, G, B⟩
            case measure => simp [intOf]; omega
          ·
            go_wp2_with fail
            clear q2
            refine (PK.out _).mono ?_
            rintro e x4 ⟨rfl, hb⟩
            replace B := Aside0.mk (B.out.trans (hb.mono B.out.size))
            replace S := Aside0.mk (S.out.step hb)
            replace G := Aside0.mk (G.out.step hb)
            clear hb
            go_wp2_with fail
            refine (WK.out _).mono ?_
            rintro e x5 ⟨rfl, hb⟩
            replace B := Aside0.mk (B.out.trans (hb.mono B.out.size))
            replace S := Aside0.mk (S.out.step hb)
            replace G := Aside0.mk (G.out.step hb)
            clear hb
            go_wp2_with fail
            refine (CHW.out V _ S.out).mono ?_
            rintro e x6 ⟨rfl, hb⟩
            replace B := Aside0.mk (B.out.trans (hb.mono B.out.size))
            replace S := Aside0.mk (S.out.step hb)
            replace G := Aside0.mk (G.out.step hb)
            clear hb
            go_wp2_with fail
            refine (TS'.out now HL.out.1 (r : Int) g b _ S.out).mono ?_
            rintro e y1 ⟨rfl, hb⟩
            replace B := Aside0.mk (B.out.trans (hb.mono B.out.size))
            replace S := Aside0.mk (S.out.step hb)
            replace G := Aside0.mk (G.out.step hb)
            clear hb
            go_wp2_with fail
            refine (TC'.out now HL.out.1 _).mono ?_
            rintro e y2 ⟨rfl, hb⟩
            replace B := Aside0.mk (B.out.trans (hb.mono B.out.size))
            replace S := Aside0.mk (S.out.step hb)
            replace G := Aside0.mk (G.out.step hb)
            clear hb
            go_wp2_with fail
            refine (roundC n x first now (r : Int) g b _ S.out).mono ?_
            rintro e y3 ⟨rfl, hb⟩
            replace B := Aside0.mk (B.out.trans (hb.mono B.out.size))
            replace S := Aside0.mk (S.out.step hb)
            replace G := Aside0.mk (G.out.step hb)
            clear hb
            go_wp2_with fail
            go_roundw
            case rel => exact ⟨q + 1, now, r, by omega, by go_num, rfl, rfl, ⟨⟨HL.out.1, Nat.le_succ_of_le HL.out.2⟩⟩, S, G, B⟩
            case measure => simp [intOf]; omega
      · cases hwk : weakB k.data.toList
        · rw [hwk] at WK
          replace CHY := Aside0.mk (CHY.out hwk)
          clear hwk CHW CHC
          go_wp2_with fail
          refine (WK.out _).mono ?_
          rintro e x4 ⟨rfl, hb⟩
          replace B := Aside0.mk (B.out.trans (hb.mono B.out.size))
          replace S := Aside0.mk (S.out.step hb)
          replace G := Aside0.mk (G.out.step hb)
          clear hb
          go_wp2_with fail
          refine (CHY.out _ S.out).mono ?_
          rintro e x6 ⟨rfl, hS, hb⟩
          replace B := Aside0.mk (B.out.trans (hb.below B.out.size HG.out.2))
          replace S := Aside0.mk hS
          replace G : Aside0 (Blk x6 gb 72 (keyBlock x.data.toList)) := ⟨(hb.block gb G.out.lt HGB.out).trans G.out⟩
          clear hS hb
          go_wp2_with fail
          refine (TS'.out k HKZ.out ((r + 1 : Nat) : Int) g b _ S.out).mono ?_
          rintro e y1 ⟨rfl, hb⟩
          replace B := Aside0.mk (B.out.trans (hb.mono B.out.size))
          replace S := Aside0.mk (S.out.step hb)
          replace G := Aside0.mk (G.out.step hb)
          clear hb
          go_wp2_with fail
          refine (TC'.out k HKZ.out _).mono ?_
          rintro e y2 ⟨rfl, hb⟩
          replace B := Aside0.mk (B.out.trans (hb.mono B.out.size))
          replace S := Aside0.mk (S.out.step hb)
          replace G := Aside0.mk (G.out.step hb)
          clear hb
          go_wp2_with fail
          refine (roundC n x first k ((r + 1 : Nat) : Int) g b _ S.out).mono ?_
          rintro e y3 ⟨rfl, hb⟩
          replace B := Aside0.mk (B.out.trans (hb.mono B.out.size))
          replace S := Aside0.mk (S.out.step hb)
          replace G := Aside0.mk (G.out.step hb)
          clear hb
          go_wp2_with fail
          go_roundw
          case rel => exact ⟨q + 1, k, r + 1, by omega, by go_num, by go_num, rfl, ⟨⟨HKZ.out, Nat.succ_le_succ HL.out.2⟩⟩, S, G, B⟩
          case measure => simp [intOf]; omega
        · rw [hwk] at WK
          replace CHW := Aside0.mk (CHW.out hwk)
          clear hwk CHC CHY
          go_wp2_with fail
          refine (WK.out _).mono ?_
          rintro e x4 ⟨rfl, hb⟩
          replace B := Aside0.mk (B.out.trans (hb.mono B.out.size))
          replace S := Aside0.mk (S.out.step hb)
          replace G := Aside0.mk (G.out.step hb)
          clear hb
          go_wp2_with fail
          refine (CHW.out V _ S.out).mono ?_
          rintro e x6 ⟨rfl, hb⟩
          replace B := Aside0.mk (B.out.trans (hb.mono B.out.size))
          replace S := Aside0.mk (S.out.step hb)
          replace G := Aside0.mk (G.out.step hb)
          clear hb
          go_wp2_with fail
          refine (TS'.out now HL.out.1 (r : Int) g b _ S.out).mono ?_
          rintro e y1 ⟨rfl, hb⟩
          replace B := Aside0.mk (B.out.trans (hb.mono B.out.size))
          replace S := Aside0.mk (S.out.step hb)
          replace G := Aside0.mk (G.out.step hb)
          clear hb
          go_wp2_with fail
          refine (TC'.out now HL.out.1 _).mono ?_
          rintro e y2 ⟨rfl, hb⟩
          replace B := Aside0.mk (B.out.trans (hb.mono B.out.size))
          replace S := Aside0.mk (S.out.step hb)
          replace G := Aside0.mk (G.out.step hb)
          clear hb
          go_wp2_with fail
          refine (roundC n x first now (r : Int) g b _ S.out).mono ?_
          rintro e y3 ⟨rfl, hb⟩
          replace B := Aside0.mk (B.out.trans (hb.mono B.out.size))
          replace S := Aside0.mk (S.out.step hb)
          replace G := Aside0.mk (G.out.step hb)
          clear hb
          go_wp2_with fail
          go_roundw
          case rel => exact ⟨q + 1, now, r, by omega, by go_num, rfl, rfl, ⟨⟨HL.out.1, Nat.le_succ_of_le HL.out.2⟩⟩, S, G, B⟩
          case measure => simp [intOf]; omega
    · obtain rfl : q = len := by omega
      have hw2 := wantsC n size HN13.out HSZ.out
      have hput2 := fun W hW => put_yes g b (twoS n x first now (r : Int)) 0 n 1 now ⟨#[]⟩ (Nat.succ_pos 1) (by rw [hw2]; omega) (by rw [hw2, HL.out.1]) (.inl rfl) W hW
      have P2 := Aside0.mk hput2
      have CN := Aside0.mk (fun wv cv W hW => change_none g b ((twoS n x first now (r : Int)).set 0 ⟨n, 1, now, ⟨#[]⟩, 0⟩) 0 wv cv (Nat.succ_pos 1) rfl W hW)
      have RN : Aside0 (∀ W, SlotsAt W g b ((twoS n x first now (r : Int)).set 0 ⟨n, 1, now, ⟨#[]⟩, 0⟩) → Calls Try.prog 45 #[.pointer (some ⟨g, 0, none⟩), .int .i64 0] W fun e w' => e = .returned (.int .i64 0) ∧ Below W.heap.size W w') :=
        ⟨fun W hW => round_in g b ((twoS n x first now (r : Int)).set 0 ⟨n, 1, now, ⟨#[]⟩, 0⟩) 0 (Nat.succ_pos 1) W hW⟩
      have sx := fun W => sl_to x size (by have := HX16.out; omega) W (size : Int) rfl
      have hx16b : x.size = 16 := HX16.out
      have hs16 : size ≤ 16 := by omega
      have h8 := T8_size (tagX n 1 first text)
      clear hw2 hput2
      go_wp2_with fail
      refine (T1.out now (r : Int) g b _ S.out).mono ?_
      rintro e x1 ⟨rfl, hb⟩
      replace B := Aside0.mk (B.out.trans (hb.mono B.out.size))
      replace S := Aside0.mk (S.out.step hb)
      replace G := Aside0.mk (G.out.step hb)
      clear hb
      go_wp2_with fail
      refine (roundC1 n x first now (r : Int) g b _ S.out).mono ?_
      rintro e x2 ⟨rfl, hb⟩
      replace B := Aside0.mk (B.out.trans (hb.mono B.out.size))
      replace S := Aside0.mk (S.out.step hb)
      replace G := Aside0.mk (G.out.step hb)
      clear hb
      go_wp2_with fail
      refine (P2.out _ S.out).mono ?_
      rintro e x3 ⟨rfl, hS, hb⟩
      replace B := Aside0.mk (B.out.trans (hb.below B.out.size HG.out.2))
      replace S := Aside0.mk hS
      clear hS hb G
      go_wp2_with fail
      refine (CN.out _ _ _ S.out).mono ?_
      rintro e x4 ⟨rfl, hb⟩
      replace B := Aside0.mk (B.out.trans (hb.mono B.out.size))
      replace S := Aside0.mk (S.out.step hb)
      clear hb
      go_wp2_with fail
      refine (RN.out _ S.out).mono ?_
      rintro e x5 ⟨rfl, hb⟩
      replace B := Aside0.mk (B.out.trans (hb.mono B.out.size))
      clear hb
      go_wp2_with fail
      go_ret
      exact ⟨by simp, B.out⟩
theorem changes_law (w : World) (alg : Int) (ha : (Lit.int .i64 alg).wf = true) (exch : ByteArray) (he : exch.size ≤ 140737488351232) (first0 : ByteArray) (hf0 : first0.size ≤ 140737488351232)
    (A : Option Addr) (len cap : Nat) (hlen : len ≤ 2000000) (K : Nat → ByteArray) (hK : Strs w A len K) (A2 : Option Addr) (len2 cap2 : Nat) (hlen2 : len2 ≤ 2000000) (SP : Nat → Int) (hSP : Nums w A2 len2 SP)
    (text : ByteArray) (ht : text.size ≤ 140737488351232) :
    Calls Try.prog 7 #[.int .i64 alg, .string exch, .string first0, .slice A len cap, .slice A2 len2 cap2, .string text] w fun e w' => e = .returned (.bool true) ∧ Below w.heap.size w w' := by
  obtain ⟨ra, h1, HA⟩ := pick2O_any alg (wf_i64 ha)
  exact changes_core alg ra (1 + 2 * ra) (4 + 4 * (1 + 2 * ra)).toNat (by omega) rfl (by omega) (by omega) HA exch he first0 hf0 text ht A len cap hlen K w hK A2 len2 cap2 hlen2 SP hSP
end Go.Proofs.Ytopobangjpehnaa.Seal
