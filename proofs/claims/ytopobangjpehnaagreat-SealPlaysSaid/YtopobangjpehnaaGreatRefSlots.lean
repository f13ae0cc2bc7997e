/- turnstileref4's Slots in memory, and its methods: at, Tag, Right, Round. -/
import Derived.Test.YtopobangjpehnaaGreatSlotsB
import Derived.Test.YtopobangjpehnaaGreatRefTag
set_option linter.unusedVariables false
set_option linter.unusedSimpArgs false
namespace Go.Proofs.YtopobangjpehnaaGreat.Seal
open Go.RowKit Go.Proofs.YtopobangjpehnaaGreatW.PrintWords Go.Proofs.YtopobangjpehnaaGreatW.PrintLast Go.Proofs.YtopobangjpehnaaGreatW.PrintMore Pr Des Num Walk

/-- A slot of the document's answer: the same, and whether it is not empty. -/
def refCells (x : SlotD) : List Value := [.bool (x.alg != 0), .int .i64 x.alg, .int .i64 x.method, .string x.key, .string x.exchange, .int .i64 x.round]
theorem refCells_length (x : SlotD) : (refCells x).length = 6 := rfl
def allRef (L : List SlotD) : Array Value := (L.flatMap refCells).toArray
theorem allRef_at (L : List SlotD) (i j : Nat) (hi : i < L.length) (hj : j < 6) : (allRef L)[i * 6 + j]? = (refCells L[i])[j]? := by
  unfold allRef
  rw [List.getElem?_toArray]
  induction L generalizing i with
  | nil => simp at hi
  | cons x L ih =>
    rw [List.flatMap_cons]
    cases i with
    | zero => rw [Nat.zero_mul, Nat.zero_add, List.getElem?_append_left (by simp [refCells]; exact hj)]; rfl
    | succ i =>
      rw [List.getElem?_append_right (by simp [refCells]; omega)]
      have := ih i (by simpa using hi)
      rw [show (i + 1) * 6 + j - (refCells x).length = i * 6 + j by simp [refCells]; omega, this]
      rfl
theorem allRef_size (L : List SlotD) : (allRef L).size = L.length * 6 := by
  unfold allRef
  rw [List.size_toArray]
  induction L with
  | nil => rfl
  | cons x L ih => rw [List.flatMap_cons, List.length_append, ih]; simp [refCells]; omega
theorem refFlat_set : ∀ (L : List SlotD) (i j : Nat) (hi : i < L.length) (hj : j < 6) (v : Value) (x : SlotD), refCells x = (refCells L[i]).set j v → (L.flatMap refCells).set (i * 6 + j) v = (L.set i x).flatMap refCells
  | [], i, j, hi, _, _, _, _ => by simp at hi
  | y :: L, 0, j, hi, hj, v, x, h => by
    have h' : refCells x = (refCells y).set j v := h
    rw [List.flatMap_cons, Nat.zero_mul, Nat.zero_add, List.set_append_left _ _ (by rw [refCells_length]; exact hj), List.set_cons_zero, List.flatMap_cons, h']
  | y :: L, i + 1, j, hi, hj, v, x, h => by
    rw [List.flatMap_cons, List.set_append_right _ _ (by rw [refCells_length]; omega), refCells_length, show (i + 1) * 6 + j - 6 = i * 6 + j by omega, List.set_cons_succ, List.flatMap_cons,
      refFlat_set L i j (by simpa using hi) hj v x (by simpa using h)]
theorem allRef_set (L : List SlotD) (i j : Nat) (hi : i < L.length) (hj : j < 6) (v : Value) (x : SlotD) (h : refCells x = (refCells L[i]).set j v) : (allRef L).setIfInBounds (i * 6 + j) v = allRef (L.set i x) := by
  unfold allRef
  rw [List.setIfInBounds_toArray, refFlat_set L i j hi hj v x h]
theorem refFlat_put : ∀ (L : List SlotD) (i : Nat) (hi : i < L.length) (x : SlotD), (L.flatMap refCells).take (i * 6) ++ refCells x ++ (L.flatMap refCells).drop (i * 6 + 6) = (L.set i x).flatMap refCells
  | [], i, hi, _ => by simp at hi
  | y :: L, 0, hi, x => by
    rw [List.flatMap_cons, Nat.zero_mul, List.take_zero, List.nil_append, Nat.zero_add, List.drop_left' (refCells_length y), List.set_cons_zero, List.flatMap_cons]
  | y :: L, i + 1, hi, x => by
    have ih := refFlat_put L i (by simpa using hi) x
    rw [List.flatMap_cons, show (i + 1) * 6 = (refCells y).length + i * 6 by rw [refCells_length]; omega, List.take_length_add_append, show (refCells y).length + i * 6 + 6 = (refCells y).length + (i * 6 + 6) by omega, List.drop_length_add_append,
      List.set_cons_succ, List.flatMap_cons, ← ih]
    simp only [List.append_assoc]
theorem allRef_put (L : List SlotD) (i : Nat) (hi : i < L.length) (x : SlotD) : ((allRef L).toList.take (i * 6) ++ (refCells x ++ (allRef L).toList.drop (i * 6 + (refCells x).length))).toArray = allRef (L.set i x) := by
  unfold allRef
  simp only [refCells_length]
  rw [← List.append_assoc, refFlat_put L i hi x]
/-- Slot i's cells, cut out of all. -/
theorem allRef_cut (L : List SlotD) (i : Nat) (hi : i < L.length) : (allRef L).extract (i * 6) (i * 6 + 6) = (refCells L[i]).toArray := by
  apply Array.ext'
  rw [Array.toList_extract]
  unfold allRef
  simp only [List.extract_eq_take_drop, Nat.add_sub_cancel_left]
  induction L generalizing i with
  | nil => simp at hi
  | cons x L ih =>
    cases i with
    | zero => rw [Nat.zero_mul, List.drop_zero, List.flatMap_cons]; exact List.take_left' (refCells_length x)
    | succ i =>
      rw [List.flatMap_cons, show (i + 1) * 6 = (refCells x).length + i * 6 by rw [refCells_length]; omega, List.drop_length_add_append]
      exact ih i (by simpa using hi)
/-- The document's row of slots at g, its slots at b. -/
structure RefAt (w : World) (g b : Nat) (L : List SlotD) : Prop where
  head : Blk w g 39 #[.slice (some ⟨b, 0, none⟩) L.length L.length]
  body : Blk w b 65 (allRef L)
theorem RefAt.ne {w : World} {g b : Nat} {L : List SlotD} (h : RefAt w g b L) : g ≠ b := h.head.ne_ h.body (by decide)
theorem RefAt.step {w w' : World} {g b : Nat} {L : List SlotD} (h : RefAt w g b L) (hb : Below w.heap.size w w') : RefAt w' g b L := ⟨h.head.step hb, h.body.step hb⟩
theorem RefAt.cell0 {w : World} {g b : Nat} {L : List SlotD} (h : RefAt w g b L) : w.cell? ⟨g, 0, none⟩ = some (.slice (some ⟨b, 0, none⟩) L.length L.length) := h.head.cell 0
theorem RefAt.has {w : World} {g b : Nat} {L : List SlotD} (h : RefAt w g b L) (i : Nat) (hi : i < L.length) : w.cell? ⟨b, i * 6, none⟩ = some (.bool (L[i].alg != 0)) :=
  (h.body.cell (i * 6 + 0)).trans (allRef_at L i 0 hi (by decide))
theorem RefAt.slot {w : World} {g b : Nat} {L : List SlotD} (h : RefAt w g b L) (i : Nat) (hi : i < L.length) :
    w.cell? ⟨b, i * 6, none⟩ = some (.bool (L[i].alg != 0)) ∧ w.cell? ⟨b, i * 6 + 1, none⟩ = some (.int .i64 L[i].alg) ∧ w.cell? ⟨b, i * 6 + 2, none⟩ = some (.int .i64 L[i].method) ∧ w.cell? ⟨b, i * 6 + 3, none⟩ = some (.string L[i].key) ∧ w.cell? ⟨b, i * 6 + 4, none⟩ = some (.string L[i].exchange) ∧ w.cell? ⟨b, i * 6 + 5, none⟩ = some (.int .i64 L[i].round) := by
  have e := fun j hj => (h.body.cell (i * 6 + j)).trans (allRef_at L i j hi hj)
  exact ⟨e 0 (by decide), e 1 (by decide), e 2 (by decide), e 3 (by decide), e 4 (by decide), e 5 (by decide)⟩
theorem size65 : (Tryz.prog.info? 65).map (·.size) = some 6 := by kernel_rfl

/-! ### at -/
set_option maxHeartbeats 2000000 in
set_option maxRecDepth 100000 in
theorem rat_out (g b : Nat) (L : List SlotD) (i : Int) (hi : i < 0 ∨ (L.length : Int) ≤ i) (w : World) (h : RefAt w g b L) :
    Calls Tryz.prog 24 #[.pointer (some ⟨g, 0, none⟩), .int .i64 i] w fun e w' => e = .returned (.tuple #[.agg (refCells emptySlot).toArray, .bool false]) ∧ Below w.heap.size w w' := by
  have c0 : ∀ o, (w.alloc o).cell? ⟨g, 0, none⟩ = some (.slice (some ⟨b, 0, none⟩) L.length L.length) := fun o => (h.step ((Below.refl _ w).alloc (Nat.le_refl _) o)).cell0
  clear h
  generalize L.length = n at *
  rcases hi with hi | hi
  · go_enter Tryz.func24, Tryz.ntmps24
    go_wp2
    exact bodyPost_ret (results_ct rfl _ _ w.heap.size 65 (refCells emptySlot).toArray (0, 0) _ rfl (blk_new _ _) Tryz.underlying65 rfl size65) rfl ⟨rfl, (Below.refl _ w).alloc (Nat.le_refl _) _⟩
  · have hi0 : ¬ i < 0 := by omega
    have c1 := c0 (.cells #[.bool false, .int .i64 0, .int .i64 0, .string ⟨#[]⟩, .string ⟨#[]⟩, .int .i64 0] 65)
    clear c0
    go_enter Tryz.func24, Tryz.ntmps24
    go_wp2
    exact bodyPost_ret (results_ct rfl _ _ w.heap.size 65 (refCells emptySlot).toArray (0, 0) _ rfl (blk_new _ _) Tryz.underlying65 rfl size65) rfl ⟨rfl, (Below.refl _ w).alloc (Nat.le_refl _) _⟩
set_option maxHeartbeats 4000000 in
set_option maxRecDepth 100000 in
theorem rat_in (g b : Nat) (L : List SlotD) (i : Nat) (hi : i < L.length) (w : World) (h : RefAt w g b L) :
    Calls Tryz.prog 24 #[.pointer (some ⟨g, 0, none⟩), .int .i64 (i : Int)] w fun e w' => e = .returned (.tuple #[.agg (refCells L[i]).toArray, .bool (L[i].alg != 0)]) ∧ Below w.heap.size w w' := by
  have H : RefAt (w.alloc (.cells #[.bool false, .int .i64 0, .int .i64 0, .string ⟨#[]⟩, .string ⟨#[]⟩, .int .i64 0] 65)) g b L := h.step ((Below.refl _ w).alloc (Nat.le_refl _) _)
  have hne : g ≠ w.heap.size := Nat.ne_of_lt h.head.lt
  have hne2 : b ≠ w.heap.size := Nat.ne_of_lt h.body.lt
  have c0 := H.cell0
  obtain ⟨q0, q1, q2, q3, q4, q5⟩ := H.slot i hi
  have H2 : RefAt (w.alloc (.cells #[.bool (L[i].alg != 0), .int .i64 L[i].alg, .int .i64 L[i].method, .string L[i].key, .string L[i].exchange, .int .i64 L[i].round] 65)) g b L := h.step ((Below.refl _ w).alloc (Nat.le_refl _) _)
  have d0 := H2.cell0
  have d1 := H2.has i hi
  clear H H2 h
  generalize L[i] = x at *
  generalize L.length = n at *
  go_enter Tryz.func24, Tryz.ntmps24
  go_wp2_with fail
  go_region
  go_wp2
  exact bodyPost_ret (results_ct rfl _ _ w.heap.size 65 (refCells x).toArray (0, 0) _ rfl (blk_new _ _) Tryz.underlying65 rfl size65) rfl ⟨rfl, ((Below.refl _ w).alloc (Nat.le_refl _) _).drew⟩
end Go.Proofs.YtopobangjpehnaaGreat.Seal
