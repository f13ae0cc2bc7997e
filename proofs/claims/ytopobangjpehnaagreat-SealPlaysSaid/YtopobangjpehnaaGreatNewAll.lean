/- cipher: New, a block under a schedule, a block under a key, texts block by block. -/
import Derived.Test.YtopobangjpehnaaGreatNumAll
import Derived.StillTailTactics
import Derived.Lib.Strings
set_option linter.unusedVariables false
set_option linter.unusedSimpArgs false
namespace Go.Proofs.YtopobangjpehnaaGreat.Walk
open Go.RowKit Go.Proofs.YtopobangjpehnaaGreatW.PrintWords Go.Proofs.YtopobangjpehnaaGreatW.PrintLast Go.Proofs.YtopobangjpehnaaGreatW.PrintMore Pr Des Num

theorem wpStill_load_part {P : Program} {ops : Array Oper} {rest : List Oper} {op : Oper} {a : Act} {w : World} {Q : Act → Prop} (hgd : op.guard = none) (ty : TypeId) (x : Operand) (ho : op.op = .load ty x) {g o n : Nat} (hx : a.eval x = .pointer (some ⟨g, o, none⟩))
    {t : TypeId} {cs : Array Value} {d : TypeDesc} (hg : Blk w g t cs) (hn : o + n ≤ cs.size) (hu : P.underlying ty = some d) (hd : (match d with | .struct _ | .array _ _ => true | _ => false) = true)
    (hi : (P.info? ty).map (·.size) = some n) (h : wpStill P ops w Q rest (a.put op.dst (.agg (cs.extract o (o + n))))) : wpStill P ops w Q (op :: rest) a := by
  refine wpStill_step fun K hK => ?_
  rw [if_pos (by simp [Region.wanted, hgd])]
  unfold Oper.still execOp
  simp only [ho, hx, Instr.loadAt, Instr.sureAddr, Sem.run_bind, Sem.run_pure, Result.andThen_ok, run_load_part hg hn hu hd hi]
  refine (Oper.stillUpon_value ..).symm ▸ hK _ h
def Z16 : Array Value := #[.int .u64 0, .int .u64 0, .int .u64 0, .int .u64 0, .int .u64 0, .int .u64 0, .int .u64 0, .int .u64 0, .int .u64 0, .int .u64 0, .int .u64 0, .int .u64 0, .int .u64 0, .int .u64 0, .int .u64 0, .int .u64 0]
def partAt (key : List UInt8) (j : Nat) : List Bool := bitsB ((key.drop (8 * j)).take 8)
def partCells (key : List UInt8) (i j : Nat) : Array Value := if j < i then keyCells (partAt key j) 16 else Z16
def mid (key : List UInt8) (i : Nat) (kind : Int) : Array Value := partCells key i 0 ++ partCells key i 1 ++ partCells key i 2 ++ #[.int .i64 kind]
theorem partCells_size (key : List UInt8) (i j : Nat) : (partCells key i j).size = 16 := by
  unfold partCells
  split
  · exact keyCells_size _ _
  · rfl
theorem mid_size (key : List UInt8) (i : Nat) (kind : Int) : (mid key i kind).size = 49 := by
  simp only [mid, Array.size_append, partCells_size]; rfl
theorem mid_zero (key : List UInt8) (kind : Int) : mid key 0 kind = #[.int .u64 0, .int .u64 0, .int .u64 0, .int .u64 0, .int .u64 0, .int .u64 0, .int .u64 0, .int .u64 0, .int .u64 0, .int .u64 0, .int .u64 0, .int .u64 0, .int .u64 0, .int .u64 0, .int .u64 0, .int .u64 0, .int .u64 0, .int .u64 0, .int .u64 0, .int .u64 0, .int .u64 0, .int .u64 0, .int .u64 0, .int .u64 0, .int .u64 0, .int .u64 0, .int .u64 0, .int .u64 0, .int .u64 0, .int .u64 0, .int .u64 0, .int .u64 0, .int .u64 0, .int .u64 0, .int .u64 0, .int .u64 0, .int .u64 0, .int .u64 0, .int .u64 0, .int .u64 0, .int .u64 0, .int .u64 0, .int .u64 0, .int .u64 0, .int .u64 0, .int .u64 0, .int .u64 0, .int .u64 0, .int .i64 kind] := by
  simp [mid, partCells, Z16]
theorem blk_zero (w : World) (key : List UInt8) (kind : Int) : Blk (w.alloc (.cells #[.int .u64 0, .int .u64 0, .int .u64 0, .int .u64 0, .int .u64 0, .int .u64 0, .int .u64 0, .int .u64 0, .int .u64 0, .int .u64 0, .int .u64 0, .int .u64 0, .int .u64 0, .int .u64 0, .int .u64 0, .int .u64 0, .int .u64 0, .int .u64 0, .int .u64 0, .int .u64 0, .int .u64 0, .int .u64 0, .int .u64 0, .int .u64 0, .int .u64 0, .int .u64 0, .int .u64 0, .int .u64 0, .int .u64 0, .int .u64 0, .int .u64 0, .int .u64 0, .int .u64 0, .int .u64 0, .int .u64 0, .int .u64 0, .int .u64 0, .int .u64 0, .int .u64 0, .int .u64 0, .int .u64 0, .int .u64 0, .int .u64 0, .int .u64 0, .int .u64 0, .int .u64 0, .int .u64 0, .int .u64 0, .int .i64 kind] 101)) w.heap.size 101 (mid key 0 kind) := by
  rw [mid_zero]; exact Blk.new w 101 _
theorem mid_kind (key : List UInt8) (i : Nat) (kind : Int) : (mid key i kind)[48]? = some (.int .i64 kind) := by
  unfold mid
  rw [Array.getElem?_append_right (by simp only [Array.size_append, partCells_size]; decide)]
  simp only [Array.size_append, partCells_size]
  rfl
theorem slice_eight (s : ByteArray) (i : Nat) (h : 8 * i + 8 ≤ s.size) (hm : 8 * i < 1000) (w : World) :
    (Instr.slice 9 (.string s) (some (.int .i64 (IntKind.i64.wrap (8 * (i : Int))))) (some (.int .i64 (IntKind.i64.wrap (IntKind.i64.wrap (8 * (i : Int)) + 8)))) none).run Tryz.prog w = .ok (.string (s.extract (8 * i) (8 * i + 8))) w := by
  have e1 : IntKind.i64.wrap (8 * (i : Int)) = 8 * (i : Int) := IntWalk.i64_in _ (by omega)
  have e2 : IntKind.i64.wrap (8 * (i : Int) + 8) = 8 * (i : Int) + 8 := IntWalk.i64_in _ (by omega)
  rw [e1, e2, run_slice_string (P := Tryz.prog) w 9 s .i64 .i64 _ _ Tryz.underlying9 (by omega) (by omega) (by omega)]
  congr 3
theorem seg_step {α : Type} (a b c : List α) (v : List α) (n m : Nat) (ha : a.length = n) (hb : b.length = m) : (a ++ b ++ c).take n ++ v ++ (a ++ b ++ c).drop (n + m) = a ++ v ++ c := by
  subst ha; subst hb
  rw [List.append_assoc a b c, List.take_left, ← List.append_assoc a b c, List.drop_left' (by rw [List.length_append])]
theorem mid_store (key : List UInt8) (i : Nat) (kind : Int) (hi : i < 3) :
    ((mid key i kind).toList.take (i * 16) ++ (keyCells (partAt key i) 16).toList ++ (mid key i kind).toList.drop (i * 16 + (keyCells (partAt key i) 16).size)).toArray = mid key (i + 1) kind := by
  rw [keyCells_size]
  have hl : ∀ j, (partCells key i j).toList.length = 16 := fun j => by rw [Array.length_toList, partCells_size]
  have hone : ∀ j, j ≠ i → partCells key (i + 1) j = partCells key i j := by
    intro j hj
    unfold partCells
    by_cases h : j < i
    · rw [if_pos h, if_pos (by omega)]
    · rw [if_neg h, if_neg (by omega)]
  have hnew : partCells key (i + 1) i = keyCells (partAt key i) 16 := by unfold partCells; rw [if_pos (by omega)]
  apply Array.toList_inj.1 |> fun h => h ?_
  have h3 : i = 0 ∨ i = 1 ∨ i = 2 := by omega
  simp only [mid, Array.toList_append, List.toList_toArray]
  rcases h3 with rfl | rfl | rfl
  · have := seg_step [] (partCells key 0 0).toList ((partCells key 0 1).toList ++ (partCells key 0 2).toList ++ [Value.int .i64 kind]) (keyCells (partAt key 0) 16).toList 0 16 rfl (hl 0)
    rw [hone 1 (by decide), hone 2 (by decide), hnew]
    simpa only [List.nil_append, List.append_assoc] using this
  · have := seg_step (partCells key 1 0).toList (partCells key 1 1).toList ((partCells key 1 2).toList ++ [Value.int .i64 kind]) (keyCells (partAt key 1) 16).toList 16 16 (hl 0) (hl 1)
    rw [hone 0 (by decide), hone 2 (by decide), hnew]
    simpa only [List.append_assoc] using this
  · have := seg_step ((partCells key 2 0).toList ++ (partCells key 2 1).toList) (partCells key 2 2).toList [Value.int .i64 kind] (keyCells (partAt key 2) 16).toList 32 16 (by rw [List.length_append, hl, hl]) (hl 2)
    rw [hone 0 (by decide), hone 1 (by decide), hnew]
    simpa only [List.append_assoc] using this
theorem keyCells_one (key : List Bool) : ∀ v ∈ (keyCells key 16).toList, v.oneCell' = true := by
  intro v hv
  simp only [keyCells, List.toList_toArray, List.mem_map, List.mem_range] at hv
  obtain ⟨j, hj, rfl⟩ := hv
  rw [if_pos hj]; rfl

theorem run_mid_store {w : World} {g : Nat} {key : List UInt8} {i : Nat} {kind : Int} (hi : i < 3) (hg : Blk w g 101 (mid key i kind)) :
    (storeCells ⟨g, i * 16, none⟩ (keyCells (partAt key i) 16).toList).run Tryz.prog w = .ok () (w.setRow g (mid key (i + 1) kind)) := by
  have h := run_storeCells_at Tryz.prog g (i * 16) 101 (keyCells (partAt key i) 16).toList 0 (mid key i kind) w hg (by rw [Array.length_toList, keyCells_size, mid_size]; omega) (keyCells_one _)
  rw [h, Nat.add_zero, Array.length_toList, mid_store key i kind hi]
/-- How many parts a key has. -/
def kindOf (key : List UInt8) : Nat := if key.length = 8 then 1 else if key.length = 16 then 2 else if key.length = 24 then 3 else 0
theorem kind_any (s : ByteArray) (W : World) : Calls Tryz.prog 57 #[.string s] W fun e w' => e = .returned (.int .i64 ((kindOf s.data.toList : Nat) : Int)) ∧ Below W.heap.size W w' := by
  have e : s.data.toList.length = s.size := by rw [Array.length_toList]; rfl
  refine (cipher_kind.calls s ((kindOf s.data.toList : Nat) : Int) W ?_).mono fun e w' ⟨he, hd⟩ => ⟨he, hd.below⟩
  unfold cipher_kind.f kindOf
  rw [e]
  by_cases h1 : s.size = 8
  · rw [if_pos (by omega), if_pos h1]; rfl
  · by_cases h2 : s.size = 16
    · rw [if_neg (by omega), if_pos (by omega), if_neg h1, if_pos h2]; rfl
    · by_cases h3 : s.size = 24
      · rw [if_neg (by omega), if_neg (by omega), if_pos (by omega), if_neg h1, if_neg h2, if_pos h3]; rfl
      · rw [if_neg (by omega), if_neg (by omega), if_neg (by omega), if_neg h1, if_neg h2, if_neg h3]; rfl

def partOf (key : List UInt8) (j : Nat) : List Bool := if kindOf key = 2 ∧ j = 2 then partAt key 0 else partAt key j
def keyBlock (key : List UInt8) : Array Value :=
  if kindOf key = 1 then keyCells (partAt key 0) 16 ++ Z16 ++ Z16 ++ #[.int .i64 1]
  else keyCells (partOf key 0) 16 ++ keyCells (partOf key 1) 16 ++ keyCells (partOf key 2) 16 ++ #[.int .i64 ((kindOf key : Nat) : Int)]
theorem mid_first (key : List UInt8) (i : Nat) (kind : Int) (hi : 0 < i) : (mid key i kind).extract 0 (0 + 16) = keyCells (partAt key 0) 16 := by
  have e : mid key i kind = partCells key i 0 ++ (partCells key i 1 ++ partCells key i 2 ++ #[.int .i64 kind]) := by simp only [mid, Array.append_assoc]
  have hp : partCells key i 0 = keyCells (partAt key 0) 16 := by unfold partCells; rw [if_pos hi]
  rw [e, hp]
  have hl : (keyCells (partAt key 0) 16).toList.length = 16 := by rw [Array.length_toList, keyCells_size]
  generalize keyCells (partAt key 0) 16 = A at hl
  apply Array.toList_inj.1 |> fun h => h ?_
  rw [Array.toList_extract, Array.toList_append, List.extract_eq_take_drop, List.drop_zero, show 0 + 16 - 0 = 16 from rfl, ← hl, List.take_left]
theorem mid_two (key : List UInt8) (hk : kindOf key = 2) :
    ((mid key 2 ((2 : Nat) : Int)).toList.take 32 ++ (keyCells (partAt key 0) 16).toList ++ (mid key 2 ((2 : Nat) : Int)).toList.drop (32 + (keyCells (partAt key 0) 16).size)).toArray = keyBlock key := by
  have hl : ∀ j, (partCells key 2 j).toList.length = 16 := fun j => by rw [Array.length_toList, partCells_size]
  rw [keyCells_size]
  apply Array.toList_inj.1 |> fun h => h ?_
  unfold keyBlock
  rw [if_neg (by omega), hk]
  have h0 : partOf key 0 = partAt key 0 := by unfold partOf; rw [if_neg (by omega)]
  have h1 : partOf key 1 = partAt key 1 := by unfold partOf; rw [if_neg (by omega)]
  have h2 : partOf key 2 = partAt key 0 := by unfold partOf; rw [if_pos ⟨hk, rfl⟩]
  have := seg_step ((partCells key 2 0).toList ++ (partCells key 2 1).toList) (partCells key 2 2).toList [Value.int .i64 ((2 : Nat) : Int)] (keyCells (partAt key 0) 16).toList 32 16 (by rw [List.length_append, hl, hl]) (hl 2)
  rw [h0, h1, h2]
  simp only [mid, Array.toList_append, List.toList_toArray]
  rw [show (partCells key 2 0) = keyCells (partAt key 0) 16 from rfl, show (partCells key 2 1) = keyCells (partAt key 1) 16 from rfl] at this ⊢
  simpa only [List.append_assoc] using this
theorem mid_else (key : List UInt8) (n : Nat) (hk : kindOf key = n) (h1 : 1 ≤ n) (h2 : ¬ n = 2) (h3 : n ≤ 3) : mid key n (n : Int) = keyBlock key := by
  unfold keyBlock
  have h : n = 1 ∨ n = 3 := by omega
  rcases h with rfl | rfl
  · rw [if_pos hk]; rfl
  · rw [if_neg (by omega), hk]
    have h0 : partOf key 0 = partAt key 0 := by unfold partOf; rw [if_neg (by omega)]
    have h1 : partOf key 1 = partAt key 1 := by unfold partOf; rw [if_neg (by omega)]
    have h2 : partOf key 2 = partAt key 2 := by unfold partOf; rw [if_neg (by omega)]
    rw [h0, h1, h2]; rfl
set_option maxHeartbeats 1000000 in
set_option maxRecDepth 100000 in
theorem new_no (s : ByteArray) (hk : kindOf s.data.toList = 0) (w : World) :
    Calls Tryz.prog 35 #[.string s] w fun e w' => e = .returned (.tuple #[.pointer none, .int .i64 30]) ∧ Below w.heap.size w w' := by
  have HK := Aside0.mk hk
  clear hk
  go_enter Tryz.func35, Tryz.ntmps35
  go_wp2_with fail
  refine (kind_any s _).mono ?_
  rintro e w1 ⟨rfl, hb1⟩
  have B1 := Aside0.mk hb1
  clear hb1
  rw [HK.out]
  go_wp2_with fail
  go_ret2
  exact ⟨rfl, B1.out.alloc B1.out.size _⟩

set_option maxHeartbeats 2000000 in
set_option maxRecDepth 100000 in
theorem new_yes (s : ByteArray) (hk : 1 ≤ kindOf s.data.toList) (w : World) :
    Calls Tryz.prog 35 #[.string s] w fun e w' => ∃ g, e = .returned (.tuple #[.pointer (some ⟨g, 0, none⟩), .int .i64 0]) ∧ w.heap.size ≤ g ∧ Blk w' g 101 (keyBlock s.data.toList) ∧ Below w.heap.size w w' := by
  have HS : Aside0 (kindOf s.data.toList ≤ 3 ∧ s.size = 8 * kindOf s.data.toList) := by
    have e : s.data.toList.length = s.size := by rw [Array.length_toList]; rfl
    unfold kindOf at hk ⊢
    rw [e] at hk ⊢
    refine ⟨?_, ?_⟩ <;> repeat' split
    all_goals first | omega | (simp_all; done)
  generalize hn : kindOf s.data.toList = n at *
  have HN := Aside0.mk hn
  clear hn
  have hn3 : n ≤ 3 := HS.out.1
  go_enter Tryz.func35, Tryz.ntmps35
  go_wp2_with fail
  refine (kind_any s _).mono ?_
  rintro e w1 ⟨rfl, hb1⟩
  have B1 := Aside0.mk hb1
  clear hb1
  rw [HN.out]
  have hb : ((n : Int) == 0) = false := by rw [beq_eq_false_iff_ne]; omega
  go_wp2_with fail
  go_loopw [19] (fun v19 wr => ∃ i : Nat, i ≤ n ∧ v19 = .int .i64 i ∧ Aside0 (Blk wr w1.heap.size 101 (mid s.data.toList i n)) ∧ Aside0 (Below w.heap.size w wr)) (fun i _ => n - (intOf i).toNat)
  case atStart => exact ⟨0, by omega, rfl, ⟨blk_zero w1 s.data.toList n⟩, ⟨B1.out.alloc B1.out.size _⟩⟩
  case round =>
    have hB1 := Aside0.mk B1.out.size
    clear B1
    obtain ⟨i, hi, rfl, G, B⟩ := hrel
    by_cases hlt : i < n
    · have hsz : (s.extract (8 * i) (8 * i + 8)).size = 8 := by rw [ByteArray.size_extract]; have := HS.out.2; omega
      have HZ := Aside0.mk hsz
      have HD : Aside0 (bitsB (s.extract (8 * i) (8 * i + 8)).data.toList = partAt s.data.toList i) := ⟨by
        rw [Go.Lib.extract_data, show 8 * i + 8 - 8 * i = 8 by omega]; rfl⟩
      have h1 : 8 * i ≤ s.size := by have := HS.out.2; omega
      have h2 : 8 * i + 8 ≤ s.size := by have := HS.out.2; omega
      clear hsz
      have hsl := slice_eight s i h2 (by omega)
      go_wp2_with fail
      go_region_with (go_at_call 58; refine (scheduled_calls _ HZ.out _).mono ?_; rintro e w4 ⟨rfl, hb4⟩; rw [HD.out]; have G4 := Aside0.mk (G.out.step (w := wr) (w' := w4) ⟨hb4.os, hb4.tape, hb4.output, hb4.size, hb4.block⟩); have B4 := Aside0.mk (B.out.trans (Below.mono (w := wr) (w' := w4) (B := wr.heap.size) ⟨hb4.os, hb4.tape, hb4.output, hb4.size, hb4.block⟩ B.out.size)); clear hb4; have hst := run_mid_store (show i < 3 by omega) G4.out)
      go_wp2
      exact ⟨⟨i + 1, by omega, by go_num, ⟨G4.out.setRow _⟩, ⟨below_setRow' B4.out hB1.out _⟩⟩, by simp [intOf]; omega⟩
    · obtain rfl : i = n := by omega
      have q48 : wr.cell? ⟨w1.heap.size, 48, none⟩ = some (.int .i64 ((i : Nat) : Int)) := (G.out.cell 48).trans (mid_kind _ _ _)
      by_cases h2 : i = 2
      · subst h2
        have G2 := G.out.drew
        go_wp2_with fail
        go_still_tail 9, (by kernel_rfl)
        refine wpStill_load_part rfl 98 (.tmp 45) rfl (o := 0) (n := 16) rfl G2 (by rw [mid_size]; decide) Tryz.underlying98 rfl size69 ?_
        repeat still_step
        refine wpStill_nil ?_
        rw [mid_first _ _ _ (by decide)]
        refine wpList_store_part rfl 98 (.tmp 49) (.tmp 46) rfl (o := 32) rfl rfl G2 (by rw [mid_size, keyCells_size]; decide) (by rw [keyCells_size]; exact size69) (keyCells_one _) ?_
        rw [mid_two _ HN.out]
        have G5 := Aside0.mk (G2.setRow (keyBlock s.data.toList))
        have B5 := Aside0.mk (below_setRow' B.out.drew hB1.out (keyBlock s.data.toList))
        clear G2 G B q48
        go_wp2
        go_ret2
        exact ⟨_, rfl, hB1.out, G5.out, B5.out⟩
      · have hb2 : ((i : Int) == 2) = false := by rw [beq_eq_false_iff_ne]; omega
        have G5 := G.out
        rw [mid_else _ _ HN.out hk h2 HS.out.1] at G5
        have G6 := Aside0.mk G5
        clear G5
        go_wp2_with fail
        go_ret2
        exact ⟨_, rfl, hB1.out, G6.out, B.out⟩
end Go.Proofs.YtopobangjpehnaaGreat.Walk

set_option linter.unusedVariables false
set_option linter.unusedSimpArgs false
namespace Go.Proofs.YtopobangjpehnaaGreat.Walk
open Go.RowKit Go.Proofs.YtopobangjpehnaaGreatW.PrintWords Go.Proofs.YtopobangjpehnaaGreatW.PrintLast Go.Proofs.YtopobangjpehnaaGreatW.PrintMore Pr Des Num

/-! ### One block under a part -/
theorem num_testBit (l : List Bool) (j : Nat) (h : j < l.length) : (num l).testBit j = l.getD (l.length - 1 - j) false := by
  have h1 := bitsN_getD l.length (num l) (l.length - 1 - j) (by omega)
  rw [bitsN_num] at h1
  rw [h1]; congr 1; omega
theorem num_xo (a b : List Bool) (h : a.length = b.length) : num (xo a b) = num a ^^^ num b := by
  apply Nat.eq_of_testBit_eq
  intro j
  have hl : (xo a b).length = a.length := by rw [xo_length, h]; omega
  rw [Nat.testBit_xor]
  by_cases hj : j < a.length
  · rw [num_testBit _ _ (by omega), num_testBit _ _ hj, num_testBit _ _ (by omega), hl, ← h]
    have hi : a.length - 1 - j < a.length := by omega
    generalize a.length - 1 - j = i at *
    simp only [xo, List.getD_eq_getElem?_getD, List.getElem?_zipWith, List.getElem?_eq_getElem hi, List.getElem?_eq_getElem (show i < b.length by omega)]
    rfl
  · have big : ∀ l : List Bool, l.length ≤ j → (num l).testBit j = false := fun l hlj => Nat.testBit_lt_two_pow (Nat.lt_of_lt_of_le (num_lt l) (Nat.pow_le_pow_right (by decide) hlj))
    rw [big _ (by omega), big _ (by omega), big _ (by omega)]; rfl

/-- The round keys in the order in which they are used. -/
def order (key : List Bool) (back : Bool) : List (List Bool) := if back then (sched key).reverse else sched key
def oneB (key : List Bool) (back : Bool) (x : List Bool) : List Bool := des (order key back) x
theorem order_length (key : List Bool) (back : Bool) : (order key back).length = 16 := by
  unfold order; split
  · rw [List.length_reverse, sched_length]
  · exact sched_length key
theorem order_get (key : List Bool) (back : Bool) (i : Nat) (h : i < 16) : (order key back)[i]'(by rw [order_length]; exact h) = keyAt key (if back then 15 - i else i) := by
  cases back
  · simp only [order, sched_eq, Bool.false_eq_true, if_false]; simp
  · simp only [order, sched_eq, if_true]
    rw [List.getElem_reverse]
    simp
def st (key : List Bool) (back : Bool) (x : List Bool) (i : Nat) : List Bool × List Bool := rounds ((order key back).take i) ((sel tIn x).take 32) ((sel tIn x).drop 32)
theorem st_length (key : List Bool) (back : Bool) (x : List Bool) (i : Nat) : (st key back x i).1.length = 32 ∧ (st key back x i).2.length = 32 := by
  have hy : (sel tIn x).length = 64 := by rw [sel_length]; rfl
  exact rounds_length _ _ _ (by simp [hy]) (by simp [hy])
theorem st_succ (key : List Bool) (back : Bool) (x : List Bool) (i : Nat) (h : i < 16) :
    st key back x (i + 1) = ((st key back x i).2, xo (st key back x i).1 (F (st key back x i).2 (keyAt key (if back then 15 - i else i)))) := by
  unfold st
  rw [List.take_succ_eq_append_getElem (by rw [order_length]; exact h), rounds_append, order_get key back i h]
  rfl
theorem st_last (key : List Bool) (back : Bool) (x : List Bool) : oneB key back x = sel tOut ((st key back x 16).2 ++ (st key back x 16).1) := by
  unfold oneB des st
  rw [List.take_of_length_le (by rw [order_length]; exact Nat.le_refl _)]
theorem keyAt_lt (key : List Bool) (i : Nat) : num (keyAt key i) < 2 ^ 48 ∧ bitsN 48 (num (keyAt key i)) = keyAt key i := by
  have hl : (keyAt key i).length = 48 := by unfold keyAt; rw [sel_length]; rfl
  have h1 := num_lt (keyAt key i)
  have h2 := bitsN_num (keyAt key i)
  rw [hl] at h1 h2
  exact ⟨h1, h2⟩
/-- The mixed half, and the sum with the other one. -/
theorem mixed_sum (l r k : List Bool) (hl : l.length = 32) (hr : r.length = 32) (hk : num k < 2 ^ 48 ∧ bitsN 48 (num k) = k) :
    (∀ (A : Option Addr) (c : Nat) (W : World), Kd.C (Kd.int .u8) W A 32 (ns tP) → 32 ≤ c → Calls Tryz.prog 96 #[.int .u32 ((num r : Nat) : Int), .int .u64 ((num k : Nat) : Int), .slice A 32 c] W fun e w' => e = .returned (.int .u32 ((num (F r k) : Nat) : Int)) ∧ Below W.heap.size W w') ∧
      Go.bits .xor .u32 ((num l : Nat) : Int) ((num (F r k) : Nat) : Int) = ((num (xo l (F r k)) : Nat) : Int) := by
  have h1 := num_lt r
  have h2 := bitsN_num r
  have h3 := num_lt l
  have h4 := num_lt (F r k)
  rw [hr] at h1 h2
  rw [hl] at h3
  rw [F_length] at h4
  constructor
  · intro A c W hC hc
    have := mixed_any (num r) (num k) h1 hk.1 A c W hC hc
    rw [h2, hk.2] at this
    exact this
  · rw [xor_u32 _ _ h3 h4, num_xo _ _ (by rw [hl, F_length])]
theorem split64 (y : List Bool) (h : y.length = 64) : ((num y : Nat) : Int) / 4294967296 % 4294967296 = ((num (y.take 32) : Nat) : Int) ∧ ((num y : Nat) : Int) % 4294967296 = ((num (y.drop 32) : Nat) : Int) := by
  have h1 := num_take_drop 32 y
  have h2 := num_lt (y.drop 32)
  have h3 := num_lt y
  rw [h] at h1 h3
  rw [List.length_drop, h] at h2
  omega
theorem join64 (a b : List Bool) (ha : a.length = 32) (hb : b.length = 32) :
    Go.bits .or .u64 (IntKind.u64.wrap (IntKind.u64.wrap ((num a : Nat) : Int) * 4294967296)) (IntKind.u64.wrap ((num b : Nat) : Int)) = ((num (a ++ b) : Nat) : Int) ∧ num (a ++ b) < 2 ^ 64 ∧ bitsN 64 (num (a ++ b)) = a ++ b := by
  have h1 := num_lt a
  have h2 := num_lt b
  have hj := join (num a) (num b) 32 (by rw [hb] at h2; exact h2)
  have he := num_append a b
  have h5 := num_lt (a ++ b)
  have h6 := bitsN_num (a ++ b)
  rw [List.length_append, ha, hb] at h5 h6
  rw [ha] at h1
  rw [hb] at h2 he
  refine ⟨?_, h5, h6⟩
  rw [u64_id (show num a < 2 ^ 64 by omega), u64_id (show num b < 2 ^ 64 by omega), show ((num a : Nat) : Int) * 4294967296 = ((num a * 2 ^ 32 : Nat) : Int) by simp, u64_id (by omega), or_u64 _ _ (by omega) (by omega), hj, he]

set_option maxHeartbeats 2000000 in
set_option maxRecDepth 100000 in
theorem one_calls (g off : Nat) (key : List Bool) (n : Nat) (hn : n < 2 ^ 64) (back : Bool) (w : World) (hc : ∀ i, i < 16 → w.cell? ⟨g, off + i, none⟩ = some (.int .u64 ((num (keyAt key i) : Nat) : Int))) :
    Calls Tryz.prog 86 #[.pointer (some ⟨g, off, none⟩), .int .u64 (n : Int), .bool back] w fun e w' => e = .returned (.int .u64 ((num (oneB key back (bitsN 64 n)) : Nat) : Int)) ∧ Below w.heap.size w w' := by
  have HC := Aside0.mk hc
  have hg : g < w.heap.size := World.block_lt_of_cell? w _ (hc 0 (by decide))
  have HG := Aside0.mk hg
  have hT := fun A c W hC hc => take_any tIn 64 64 n rfl (by decide) (by decide) hn (by decide) A c W hC hc
  generalize bitsN 64 n = x at *
  have HT0 := Aside0.mk hT
  clear hc hg hn hT
  go_enter Tryz.func86, Tryz.ntmps86
  go_wp2_with fail
  refine (enter_any _).mono ?_
  rintro e w1 ⟨A1, c1, rfl, hC1, hc1, hb1⟩
  have B1 := Aside0.mk hb1
  have C1 := Aside0.mk hC1
  have D1 := Aside0.mk hc1
  clear hb1 hC1 hc1
  go_wp2_with fail
  refine (HT0.out A1 c1 _ C1.out D1.out).mono ?_
  rintro e w2 ⟨rfl, hb2⟩
  replace B1 := Aside0.mk (B1.out.trans (hb2.mono B1.out.size))
  clear hb2 C1 D1 HT0
  go_wp2_with fail
  refine (spread_any _).mono ?_
  rintro e w3 ⟨A3, c3, rfl, hC3, hc3, hb3⟩
  replace B1 := Aside0.mk (B1.out.trans (hb3.mono B1.out.size))
  have C3 := Aside0.mk hC3
  have D3 := Aside0.mk hc3
  clear hb3 hC3 hc3
  have S1 := split64 (sel tIn x) (by rw [sel_length]; rfl)
  rw [S1.1, S1.2]
  clear S1
  go_wp2_with fail
  go_loopw [7, 8, 21] (fun v7 v8 v21 wr => ∃ i : Nat, i ≤ 16 ∧ v21 = .int .i64 i ∧ v7 = .int .u32 ((num (st key back x i).1 : Nat) : Int) ∧ v8 = .int .u32 ((num (st key back x i).2 : Nat) : Int) ∧
      Aside0 (Kd.C (Kd.int .u8) wr A3 32 (ns tP)) ∧ Aside0 (Below w.heap.size w wr)) (fun _ _ i _ => 16 - (intOf i).toNat)
  case atStart => exact ⟨0, by omega, rfl, rfl, rfl, C3, B1⟩
  case round =>
    clear C3 B1
    obtain ⟨i, hi, rfl, rfl, rfl, C3, B1⟩ := hrel
    by_cases hlt : i < 16
    · have HL := Aside0.mk (st_length key back x i)
      have hM := mixed_sum (st key back x i).1 (st key back x i).2 (keyAt key (if back then 15 - i else i)) HL.out.1 HL.out.2 (keyAt_lt _ _)
      have HS := Aside0.mk (st_succ key back x i hlt)
      have hcell : wr.cell? ⟨g, off + (if back then 15 - i else i), none⟩ = some (.int .u64 ((num (keyAt key (if back then 15 - i else i)) : Nat) : Int)) :=
        (B1.out.cell (p := ⟨g, _, none⟩) HG.out).trans (HC.out _ (by cases back <;> simp <;> omega))
      have hcell2 : wr.cell? ⟨g, off + i, none⟩ = some (.int .u64 ((num (keyAt key i) : Nat) : Int)) :=
        (B1.out.cell (p := ⟨g, _, none⟩) HG.out).trans (HC.out _ hlt)
      cases back
      · simp only [Bool.false_eq_true, if_false] at hM hcell
        have HM := Aside0.mk hM
        clear hM hcell2
        go_wp2_with fail
        refine (HM.out.1 A3 c3 _ C3.out D3.out).mono ?_
        rintro e w4 ⟨rfl, hb4⟩
        replace C3 := Aside0.mk (Kd.C_below C3.out hb4)
        replace B1 := Aside0.mk (B1.out.trans (hb4.mono B1.out.size))
        clear hb4 hcell
        have hx := HM.out.2
        go_wp2_with fail
        go_roundw
        case rel => exact ⟨i + 1, by omega, by go_num, by rw [HS.out], by rw [HS.out]; rfl, C3, B1⟩
        case measure => simp [intOf]; omega
      · simp only [if_true] at hM hcell
        have HM := Aside0.mk hM
        clear hM
        have hj : ((15 : Int) - (i : Int)).toNat = 15 - i := by omega
        have hj0 : (0 : Int) ≤ (15 : Int) - (i : Int) := by omega
        go_wp2_with fail
        refine (HM.out.1 A3 c3 _ C3.out D3.out).mono ?_
        rintro e w4 ⟨rfl, hb4⟩
        replace C3 := Aside0.mk (Kd.C_below C3.out hb4)
        replace B1 := Aside0.mk (B1.out.trans (hb4.mono B1.out.size))
        clear hb4 hcell hcell2
        have hx := HM.out.2
        go_wp2_with fail
        go_roundw
        case rel => exact ⟨i + 1, by omega, by go_num, by rw [HS.out], by rw [HS.out]; rfl, C3, B1⟩
        case measure => simp [intOf]; omega
    · obtain rfl : i = 16 := by omega
      have HL := Aside0.mk (st_length key back x 16)
      have HJ := Aside0.mk (join64 (st key back x 16).2 (st key back x 16).1 HL.out.2 HL.out.1)
      have HT := Aside0.mk (st_last key back x)
      go_wp2_with fail
      refine (leave_any _).mono ?_
      rintro e w4 ⟨A4, c4, rfl, hC4, hc4, hb4⟩
      have C4 := Aside0.mk hC4
      have D4 := Aside0.mk hc4
      replace B1 := Aside0.mk (B1.out.trans (hb4.mono B1.out.size))
      clear hb4 hC4 hc4
      go_wp2_with fail
      rw [HJ.out.1]
      refine (take_any tOut 64 64 _ rfl (by decide) (by decide) HJ.out.2.1 (by decide) A4 c4 _ C4.out D4.out).mono ?_
      rintro e w5 ⟨rfl, hb5⟩
      rw [HJ.out.2.2, ← HT.out]
      replace B1 := Aside0.mk (B1.out.trans (hb5.mono B1.out.size))
      clear hb5
      go_wp2_with fail
      go_ret
      exact ⟨rfl, B1.out⟩
end Go.Proofs.YtopobangjpehnaaGreat.Walk

set_option linter.unusedVariables false
set_option linter.unusedSimpArgs false
namespace Go.Proofs.YtopobangjpehnaaGreat.Walk
open Go.RowKit Go.Proofs.YtopobangjpehnaaGreatW.PrintWords Go.Proofs.YtopobangjpehnaaGreatW.PrintLast Go.Proofs.YtopobangjpehnaaGreatW.PrintMore Pr Des Num

theorem keyCells_get (key : List Bool) (m : Nat) (h : m < 16) : (keyCells key 16)[m]? = some (.int .u64 ((num (keyAt key m) : Nat) : Int)) := by
  simp [keyCells, h]
theorem keyBlock_get (key : List UInt8) (k m : Nat) (hk : k < 3) (hm : m < 16) (hd : kindOf key = 1 → k = 0) :
    (keyBlock key)[k * 16 + m]? = some (.int .u64 ((num (keyAt (partOf key k) m) : Nat) : Int)) := by
  unfold keyBlock
  by_cases h1 : kindOf key = 1
  · obtain rfl := hd h1
    have h0 : partOf key 0 = partAt key 0 := by unfold partOf; rw [if_neg (by omega)]
    rw [if_pos h1, h0, Array.append_assoc, Array.append_assoc, Array.getElem?_append_left (by rw [keyCells_size]; omega), Nat.zero_mul, Nat.zero_add, keyCells_get _ _ hm]
  · rw [if_neg h1]
    have h3 : k = 0 ∨ k = 1 ∨ k = 2 := by omega
    rcases h3 with rfl | rfl | rfl
    · rw [Array.append_assoc, Array.append_assoc, Array.getElem?_append_left (by rw [keyCells_size]; omega), Nat.zero_mul, Nat.zero_add, keyCells_get _ _ hm]
    · rw [Array.append_assoc, Array.append_assoc, Array.getElem?_append_right (by rw [keyCells_size]; omega), keyCells_size, Array.getElem?_append_left (by rw [keyCells_size]; omega), show 1 * 16 + m - 16 = m by omega, keyCells_get _ _ hm]
    · rw [Array.append_assoc, Array.getElem?_append_right (by rw [Array.size_append, keyCells_size, keyCells_size]; omega), Array.size_append, keyCells_size, keyCells_size, Array.getElem?_append_left (by rw [keyCells_size]; omega), show 2 * 16 + m - (16 + 16) = m by omega, keyCells_get _ _ hm]
theorem keyBlock_kind (key : List UInt8) : (keyBlock key)[48]? = some (.int .i64 ((kindOf key : Nat) : Int)) := by
  unfold keyBlock
  by_cases h1 : kindOf key = 1
  · rw [if_pos h1, h1, Array.getElem?_append_right (by simp only [Array.size_append, keyCells_size]; decide)]
    simp only [Array.size_append, keyCells_size]
    rfl
  · rw [if_neg h1, Array.getElem?_append_right (by simp only [Array.size_append, keyCells_size]; decide)]
    simp only [Array.size_append, keyCells_size]
    rfl

/-- A block behind so many parts. -/
def stage (key : List UInt8) (back : Bool) (x : List Bool) : Nat → List Bool
  | 0 => x
  | i + 1 => oneB (partOf key (if back then 2 - i else i)) (back != (i == 1)) (stage key back x i)
/-- A block under a whole key. -/
def turnB (key : List UInt8) (back : Bool) (x : List Bool) : List Bool :=
  if kindOf key = 1 then oneB (partOf key 0) back x else stage key back x 3
theorem oneB_length (key : List Bool) (back : Bool) (x : List Bool) : (oneB key back x).length = 64 := des_length _ _
theorem stage_length (key : List UInt8) (back : Bool) (x : List Bool) (hx : x.length = 64) (i : Nat) : (stage key back x i).length = 64 := by
  cases i with
  | zero => exact hx
  | succ i => exact oneB_length _ _ _
theorem turnB_length (key : List UInt8) (back : Bool) (x : List Bool) (hx : x.length = 64) : (turnB key back x).length = 64 := by
  unfold turnB
  split
  · exact oneB_length _ _ _
  · exact stage_length _ _ _ hx 3
theorem num64 (l : List Bool) (h : l.length = 64) : num l < 2 ^ 64 ∧ bitsN 64 (num l) = l := by
  have h1 := num_lt l
  have h2 := bitsN_num l
  rw [h] at h1 h2
  exact ⟨h1, h2⟩

set_option maxHeartbeats 2000000 in
set_option maxRecDepth 100000 in
theorem turn_calls (g : Nat) (key : List UInt8) (n : Nat) (hn : n < 2 ^ 64) (back : Bool) (w : World) (hg : Blk w g 101 (keyBlock key)) :
    Calls Tryz.prog 62 #[.pointer (some ⟨g, 0, none⟩), .int .u64 (n : Int), .bool back] w fun e w' => e = .returned (.int .u64 ((num (turnB key back (bitsN 64 n)) : Nat) : Int)) ∧ Below w.heap.size w w' := by
  have hone : ∀ (k : Nat) (bk : Bool) (y : List Bool) (W : World), k < 3 → (kindOf key = 1 → k = 0) → y.length = 64 → Below w.heap.size w W →
      Calls Tryz.prog 86 #[.pointer (some ⟨g, k * 16, none⟩), .int .u64 ((num y : Nat) : Int), .bool bk] W fun e w' => e = .returned (.int .u64 ((num (oneB (partOf key k) bk y) : Nat) : Int)) ∧ Below W.heap.size W w' := by
    intro k bk y W hk hd hy hB
    have := one_calls g (k * 16) (partOf key k) (num y) (num64 y hy).1 bk W (fun i hi => by rw [(hg.step hB).cell, keyBlock_get key k i hk hi hd])
    rw [(num64 y hy).2] at this
    exact this
  have HO := Aside0.mk hone
  have hx : (bitsN 64 n).length = 64 := bitsN_length _ _
  have hnum : num (bitsN 64 n) = n := by rw [num_bitsN, Nat.mod_eq_of_lt hn]
  generalize bitsN 64 n = x at *
  subst hnum
  have q48 : w.cell? ⟨g, 48, none⟩ = some (.int .i64 ((kindOf key : Nat) : Int)) := (hg.cell 48).trans (keyBlock_kind key)
  have HX := Aside0.mk hx
  clear hone hg hn hx
  by_cases hk : kindOf key = 1
  · have HT : Aside0 (turnB key back x = oneB (partOf key 0) back x) := ⟨by unfold turnB; rw [if_pos hk]⟩
    rw [HT.out]
    have q1 : w.cell? ⟨g, 48, none⟩ = some (.int .i64 1) := by rw [q48, hk]; rfl
    clear q48 hk
    go_enter Tryz.func62, Tryz.ntmps62
    go_wp2_with fail
    refine (HO.out 0 back x _ (by decide) (fun _ => rfl) HX.out (Below.refl _ _)).mono ?_
    rintro e w1 ⟨rfl, hb1⟩
    have B1 := Aside0.mk hb1
    clear hb1
    go_wp2_with fail
    go_ret
    exact ⟨rfl, B1.out⟩
  · have HT : Aside0 (turnB key back x = stage key back x 3) := ⟨by unfold turnB; rw [if_neg hk]⟩
    rw [HT.out]
    have hb : (((kindOf key : Nat) : Int) == 1) = false := by rw [beq_eq_false_iff_ne]; omega
    have HK := Aside0.mk hk
    clear hk
    generalize kindOf key = kd at q48 hb
    go_enter Tryz.func62, Tryz.ntmps62
    go_wp2_with fail
    go_loopw [1, 21] (fun v1 v21 wr => ∃ i : Nat, i ≤ 3 ∧ v21 = .int .i64 i ∧ v1 = .int .u64 ((num (stage key back x i) : Nat) : Int) ∧ Aside0 (Below w.heap.size w wr)) (fun _ i _ => 3 - (intOf i).toNat)
    case atStart => exact ⟨0, by omega, rfl, rfl, ⟨Below.refl _ _⟩⟩
    case round =>
      obtain ⟨i, hi, rfl, rfl, B1⟩ := hrel
      by_cases hlt : i < 3
      · cases back
        · have hO := HO.out i (false != (i == 1)) (stage key false x i) wr (by omega) (fun h => absurd h HK.out) (stage_length _ _ _ HX.out i) B1.out
          have e1 : (false != (i == 1)) = ((i : Int) == 1) := by rw [Bool.eq_iff_iff]; simp; omega
          have e2 : stage key false x (i + 1) = oneB (partOf key i) (false != (i == 1)) (stage key false x i) := rfl
          rw [← e2, e1] at hO
          have HO2 := Aside0.mk hO
          clear hO e1 e2
          go_wp2_with fail
          refine HO2.out.mono ?_
          rintro e w1 ⟨rfl, hb1⟩
          replace B1 := Aside0.mk (B1.out.trans (hb1.mono B1.out.size))
          clear hb1 HO2
          go_wp2_with fail
          go_roundw
          case rel => exact ⟨i + 1, by omega, by go_num, rfl, B1⟩
          case measure => simp [intOf]; omega
        · have hO := HO.out (2 - i) (true != (i == 1)) (stage key true x i) wr (by omega) (fun h => absurd h HK.out) (stage_length _ _ _ HX.out i) B1.out
          have e1 : (true != (i == 1)) = !((i : Int) == 1) := by rw [Bool.eq_iff_iff]; simp; omega
          have e2 : stage key true x (i + 1) = oneB (partOf key (2 - i)) (true != (i == 1)) (stage key true x i) := rfl
          rw [← e2, e1] at hO
          have HO2 := Aside0.mk hO
          clear hO e1 e2
          go_wp2_with fail
          refine HO2.out.mono ?_
          rintro e w1 ⟨rfl, hb1⟩
          replace B1 := Aside0.mk (B1.out.trans (hb1.mono B1.out.size))
          clear hb1 HO2
          go_wp2_with fail
          go_roundw
          case rel => exact ⟨i + 1, by omega, by go_num, rfl, B1⟩
          case measure => simp [intOf]; omega
      · obtain rfl : i = 3 := by omega
        go_wp2_with fail
        go_ret
        exact ⟨rfl, B1.out⟩
end Go.Proofs.YtopobangjpehnaaGreat.Walk

set_option linter.unusedVariables false
set_option linter.unusedSimpArgs false
namespace Go.Proofs.YtopobangjpehnaaGreat.Walk
open Go.RowKit Go.Proofs.YtopobangjpehnaaGreatW.PrintWords Go.Proofs.YtopobangjpehnaaGreatW.PrintLast Go.Proofs.YtopobangjpehnaaGreatW.PrintMore Pr Des Num

/-! ### What stays -/
/-- Below B, but for the block c, nothing has turned. -/
structure Kp (B c : Nat) (w W : World) : Prop where
  os : W.os = w.os
  tape : W.tape = w.tape
  output : W.output = w.output
  size : w.heap.size ≤ W.heap.size
  block : ∀ k, k < B → k ≠ c → W.heap[k]? = w.heap[k]?
theorem Kp.refl (B c : Nat) (w : World) : Kp B c w w := ⟨rfl, rfl, rfl, Nat.le_refl _, fun _ _ _ => rfl⟩
theorem Kp.of_below {B c : Nat} {w W : World} (h : Below B w W) : Kp B c w W := ⟨h.os, h.tape, h.output, h.size, fun k hk _ => h.block k hk⟩
theorem Kp.trans {B c : Nat} {w1 w2 w3 : World} (h : Kp B c w1 w2) (k : Kp B c w2 w3) : Kp B c w1 w3 :=
  ⟨k.os.trans h.os, k.tape.trans h.tape, k.output.trans h.output, Nat.le_trans h.size k.size, fun i hi hc => (k.block i hi hc).trans (h.block i hi hc)⟩
theorem Kp.mono {B B' c : Nat} {w W : World} (h : Kp B c w W) (hB : B' ≤ B) : Kp B' c w W := ⟨h.os, h.tape, h.output, h.size, fun k hk hc => h.block k (Nat.lt_of_lt_of_le hk hB) hc⟩
theorem Kp.below {B B' c : Nat} {w W : World} (h : Kp B c w W) (hB : B' ≤ B) (hc : B' ≤ c) : Below B' w W := ⟨h.os, h.tape, h.output, h.size, fun k hk => h.block k (by omega) (by omega)⟩
/-- The world cut at a block's number. -/
def cutAt (W : World) (n : Nat) : World := { W with heap := W.heap.extract 0 n }
theorem cutAt_size (W : World) (n : Nat) (h : n ≤ W.heap.size) : (cutAt W n).heap.size = n := by
  show (W.heap.extract 0 n).size = n
  rw [Array.size_extract]; omega
theorem cutAt_below (W : World) (n : Nat) (h : n ≤ W.heap.size) : Below n (cutAt W n) W :=
  ⟨rfl, rfl, rfl, by rw [cutAt_size W n h]; exact h, fun k hk => by
    show W.heap[k]? = (W.heap.extract 0 n)[k]?
    rw [Array.getElem?_extract, if_pos (by omega), Nat.zero_add]⟩

/-- So many bytes of what blocks become. -/
def outBytes (outB : Nat → List Bool) (q : Nat) : List UInt8 := (List.range q).flatMap fun j => bytes8 (num (outB j))
theorem outBytes_length (outB : Nat → List Bool) (q : Nat) : (outBytes outB q).length = 8 * q := by
  induction q with
  | zero => rfl
  | succ q ih => unfold outBytes at *; rw [List.range_succ, List.flatMap_append, List.length_append, ih]; simp [bytes8]; omega
theorem outBytes_succ (outB : Nat → List Bool) (q : Nat) : outBytes outB (q + 1) = outBytes outB q ++ bytes8 (num (outB q)) := by
  unfold outBytes; rw [List.range_succ, List.flatMap_append]; simp
theorem strOfNums_ints (l : List UInt8) : strOfNums (ints l) = ⟨l.toArray⟩ := by
  unfold strOfNums ints
  congr 2
  rw [List.map_map]
  have : ((fun n : Int => UInt8.ofNat n.toNat) ∘ fun b : UInt8 => (b.toNat : Int)) = id := by funext b; simp
  rw [this, List.map_id]
/-- The block q of a text. -/
def blockAt (s : ByteArray) (q : Nat) : List Bool := bitsB ((s.data.toList.drop (8 * q)).take 8)

set_option maxHeartbeats 2000000 in
set_option maxRecDepth 100000 in
theorem each_no (s : ByteArray) (hs : s.size % 8 ≠ 0) (hm : s.size ≤ 140737488355000) (f : Value) (w : World) :
    Calls Tryz.prog 60 #[.string s, f] w fun e w' => e = .returned (.tuple #[.string ⟨#[]⟩, .int .i64 31]) ∧ Below w.heap.size w w' := by
  have hb : ((s.size : Int) % 8 != 0) = true := by rw [bne_iff_ne]; omega
  clear hs
  go_enter Tryz.func60, Tryz.ntmps60
  go_wp2_with fail
  go_ret2
  exact ⟨rfl, Below.refl _ _⟩
set_option maxHeartbeats 2000000 in
set_option maxRecDepth 100000 in
theorem each_yes (s : ByteArray) (n : Nat) (hs : s.size = 8 * n) (hm : s.size ≤ 140737488355000) (K : Nat) (hE : ∀ (args : Array Value) (w : World), (callFunc K args).run Tryz.prog w = .ok (.enter K args) w) (cap : Array Value) (w : World) (c : Nat) (hc : c < w.heap.size)
    (Inv : Nat → World → Prop) (outB : Nat → List Bool) (h0 : Inv 0 w)
    (hst : ∀ i W W', Inv i W → (∀ k, k < w.heap.size → W'.heap[k]? = W.heap[k]?) → Inv i W')
    (hf : ∀ i W, i < n → Inv i W → w.heap.size ≤ W.heap.size → Calls Tryz.prog K (#[.int .u64 ((num (blockAt s i) : Nat) : Int)] ++ cap) W fun e w' => e = .returned (.int .u64 ((num (outB i) : Nat) : Int)) ∧ Inv (i + 1) w' ∧ Kp W.heap.size c W w') :
    Calls Tryz.prog 60 #[.string s, .func (Fn.func K) #[] cap] w fun e w' => e = .returned (.tuple #[.string ⟨(outBytes outB n).toArray⟩, .int .i64 0]) ∧ Inv n w' ∧ Kp w.heap.size c w w' := by
  have HS := Aside0.mk hs
  have HC := Aside0.mk hc
  have HI := Aside0.mk h0
  have HST := Aside0.mk hst
  have HF := Aside0.mk hf
  obtain ⟨i0, hi, hz0, hz1, hz2⟩ := info_parts info5
  have hb : ((s.size : Int) % 8 != 0) = false := by rw [bne_eq_false_iff_eq]; omega
  have hm2 := hm
  have HM := Aside0.mk hm
  clear hs hc h0 hst hf
  go_enter Tryz.func60, Tryz.ntmps60
  go_wp2_with (refine wpList_make_own _ rfl _ _ 68 rfl w.heap.size 5 i0 (.int .u8 0) 1 Tryz.underlying68 hi hz0 hz1 .i64 .i64 _ s.size rfl rfl rfl ?c1 ?c2 ?c3 ?_)
  case c1 => rw [hz2]; omega
  case c2 => unfold maxLen; omega
  case c3 => exact Nat.le_refl _
  intro w1 hown hg
  have R1 : Aside0 (Kd.R (Kd.int .u8) 5 w1 w.heap.size (fun k => w.heap.size ≤ k) (.slice (some ⟨w.heap.size, 0, none⟩) 0 s.size) []) :=
    ⟨⟨fun k hk => by simp [Value.ownBlock] at hk; omega, [], hown, Reps.none _ _⟩⟩
  have B1 : Aside0 (Kp w.heap.size c w w1) := ⟨Kp.of_below ((Below.refl _ _).grown hg (Nat.le_refl _) (fun k hk => by cases hk))⟩
  have I1 : Aside0 (Inv 0 w1) := ⟨HST.out 0 w w1 HI.out (fun k hk => ((Below.refl w.heap.size w).grown hg (Nat.le_refl _) (fun k hk => by cases hk)).block k hk)⟩
  clear hown hg hi hz0 hz1 hz2 HI
  go_wp2_with fail
  go_loopw [6, 7] (fun v6 v7 wr => ∃ q : Nat, q ≤ n ∧ v7 = .int .i64 (8 * (q : Int)) ∧ Aside0 (Kd.R (Kd.int .u8) 5 wr w.heap.size (fun k => w.heap.size ≤ k) v6 (ints (outBytes outB q))) ∧ Aside0 (Inv q wr) ∧ Aside0 (Kp w.heap.size c w wr)) (fun _ v7 _ => s.size - (intOf v7).toNat)
  case atStart => exact ⟨0, Nat.zero_le _, rfl, R1, I1, B1⟩
  case round =>
    clear R1 B1 I1
    obtain ⟨q, hq, rfl, R1, I1, B1⟩ := hrel
    have hsz := HS.out
    by_cases hlt : q < n
    · have h8 : 8 * q < s.size := by omega
      have HX : Aside0 (8 ≤ (s.extract (8 * q) s.size).size ∧ bitsB ((s.extract (8 * q) s.size).data.toList.take 8) = blockAt s q) := ⟨by
        refine ⟨by rw [ByteArray.size_extract]; omega, ?_⟩
        have e : (s.data.toList.drop (8 * q)).take (s.size - 8 * q) = s.data.toList.drop (8 * q) := List.take_of_length_le (by rw [List.length_drop, Array.length_toList]; exact Nat.le_refl _)
        rw [Go.Lib.extract_data, e]
        rfl⟩
      clear hsz
      go_wp2_with fail
      refine (number_any _ HX.out.1 _).mono ?_
      rintro e w2 ⟨rfl, hb2⟩
      rw [HX.out.2]
      replace R1 := Aside0.mk (Kd.R_below R1.out hb2)
      replace I1 := Aside0.mk (HST.out q wr w2 I1.out (fun k hk => hb2.block k (Nat.lt_of_lt_of_le hk B1.out.size)))
      replace B1 := Aside0.mk (B1.out.trans ((Kp.of_below hb2).mono B1.out.size))
      clear hb2 HX
      go_wp2_with fail

      refine (HF.out q w2 hlt I1.out B1.out.size).mono ?_
      rintro e w3 ⟨rfl, hi3, hk3⟩
      replace R1 := Aside0.mk (Kd.R_step R1.out (fun k ho hk => hk3.block k hk (by have := HC.out; omega)))
      have I3 := Aside0.mk hi3
      replace B1 := Aside0.mk (B1.out.trans (hk3.mono B1.out.size))
      clear hk3 hi3 I1
      go_wp2_with fail
      obtain ⟨W0, hcs, hcb⟩ : ∃ W0 : World, W0.heap.size = w.heap.size ∧ Below w.heap.size W0 w3 := ⟨cutAt w3 w.heap.size, cutAt_size w3 w.heap.size B1.out.size, cutAt_below w3 w.heap.size B1.out.size⟩
      have hcb' : Below W0.heap.size W0 w3 := by rw [hcs]; exact hcb
      have hR : Kd.R (Kd.int .u8) 5 w3 W0.heap.size (fun k => w.heap.size ≤ k) u6 (ints (outBytes outB q)) := by rw [hcs]; exact R1.out
      have hev := bytes_eval (ints (outBytes outB q)) (num (outB q)) 9 (by unfold ints; rw [List.length_map, outBytes_length]; omega) (by decide)
      have hou : ints (outBytes outB q) ++ ints (bytes8 (num (outB q))) = ints (outBytes outB (q + 1)) := by rw [outBytes_succ]; unfold ints; rw [List.map_append]
      rw [hou] at hev
      refine (cipher_bytes.calls 9 (fun k => w.heap.size ≤ k) _ _ _ _ W0 w3 hcb' hR hev).mono ?_
      rintro e w4 ⟨v4, rfl, hR4, hb4, hk4⟩
      rw [hcs] at hR4 hb4
      replace R1 := Aside0.mk (Kd.R_mono hR4 (fun k hk => hk.elim id (fun h => Nat.le_trans B1.out.size h)))
      have hk5 : ∀ k, k < w.heap.size → w4.heap[k]? = w3.heap[k]? := fun k hk => hk4.2 k (Nat.lt_of_lt_of_le hk B1.out.size) (by omega)
      have I4 := Aside0.mk (HST.out (q + 1) w3 w4 I3.out hk5)
      replace B1 := Aside0.mk (B1.out.trans ⟨hb4.os.trans hcb.os.symm, hb4.tape.trans hcb.tape.symm, hb4.output.trans hcb.output.symm, hk4.1, fun k hk _ => hk5 k hk⟩)
      clear hcs hcb hcb' hR hev hou hR4 hb4 hk4 hk5 I3
      go_wp2_with fail
      go_roundw
      case rel => exact ⟨q + 1, by omega, by go_num, R1, I4, B1⟩
      case measure => simp [intOf]; omega
    · obtain rfl : q = n := by omega
      have hge : ¬ (8 * (q : Int) < (s.size : Int)) := by omega
      obtain ⟨A6, c6, rfl⟩ := Kd.R_slice R1.out
      have hcv := own_string (P := Tryz.prog) Tryz.underlying68 Tryz.underlying5 Tryz.underlying9 (Kd.own_of_R R1.out)
      rw [strOfNums_ints] at hcv
      clear hsz
      go_wp2_with fail
      go_ret2
      exact ⟨rfl, I1.out, B1.out⟩
end Go.Proofs.YtopobangjpehnaaGreat.Walk
